/-
  Words for the proofs of the sink's laws: a slice of bytes that is read, a sink that lies in memory, an append as a step of a region that draws its order.
-/
import Derived.Test.YteejjgnpjkldiaaRows
import Derived.WalkKit
import Derived.Lib.Hide
import Derived.Deep.RegionLaw
import Derived.Deep.Draws
namespace Go.Proofs.Yteejjgnpjkldiaa
open Go.RowKit

/-- What a slice of whole numbers reads as: nil, empty and other slices alike. -/
def Rd (w : World) (k : IntKind) (A : Option Addr) (n : Nat) (xs : List Int) : Prop :=
  xs.length = n ∧ ∀ j, j < n → ∃ ad, A = some ad ∧ w.cell? (ad.add j) = some (.int k (xs.getD j 0))

/-- Only the blocks g and row may have turned, of those that were there. -/
structure Only2 (w w' : World) (g : Nat) (row : Option Nat) : Prop where
  os : w'.os = w.os
  tape : w'.tape = w.tape
  output : w'.output = w.output
  size : w.heap.size ≤ w'.heap.size
  block : ∀ k, k < w.heap.size → k ≠ g → some k ≠ row → w'.heap[k]? = w.heap[k]?

/-- A sink in block g: what it has, for how much more there is room; its row lies from block B on. -/
def Snk (w : World) (B g : Nat) (A : Option Addr) (c : Nat) (xs : List Int) (left : Nat) : Prop :=
  w.heap[g]? = some (.cells #[.slice A xs.length c, .int .i64 left] 39 (0, 0)) ∧
  w.ownsRow B 5 1 (.slice A xs.length c) xs.length (xs.map (Value.int .u8))

theorem own_form {w : World} {base : Nat} {e : TypeId} {size : Nat} {v : Value} {n : Nat} {xs : List Value} (h : w.ownsRow base e size v n xs) :
    ∃ A c, v = .slice A n c := by
  rcases h.2 with ⟨rfl, rfl⟩ | ⟨g, cap, cur, rfl, _⟩
  · exact ⟨none, 0, rfl⟩
  · exact ⟨_, cap, rfl⟩

/-- append onto a slice of the call's own, whatever is appended, as one step of a region that draws. -/
theorem step_append_own {P : Program} {ops : Array Oper} {o : Oper} {a : Act} {w : World} {K : Act → World → Prop} {Q : Exit → Act → World → Prop} {E : Prop}
    (hg : o.guard = none) (s x : Operand) (t : TypeId) (hop : o.op = Op.call { callee := Callee.builtin Builtin.append, args := #[s, x], argTypes := #[t, t] })
    (base : Nat) (e : TypeId) (i : TypeInfo) (z : Value) (size bytes : Nat) (h1 : P.underlying t = some (.slice e)) (h2 : P.info? e = some i) (h3 : i.zero = some z) (h4 : i.size = size) (h5 : i.bytes = bytes) (h6 : z.cells.size = size) (h7 : 0 < size)
    (v : Value) (n : Nat) (olds : List Value) (hs : a.eval s = v) (hown : w.ownsRow base e size v n olds)
    (A : Option Addr) (m c : Nat) (news : List Value) (hx : a.eval x = .slice A m c) (hn : news.length = m * size) (hc : ∀ j u, news[j]? = some u → ∃ ad, A = some ad ∧ w.cell? (ad.add j) = some u) (h1c : ∀ u ∈ news, u.oneCell' = true)
    (b1 : n + m ≤ maxLen) (b2 : (n + m) * bytes ≤ 140737488355328) (b3 : base ≤ w.heap.size)
    (hK : ∀ v' w', w'.ownsRow base e size v' (n + m) (olds ++ news) → w.grownBy w' v.ownBlock → K (a.put o.dst v') w') :
    if Region.wanted o (yielded ops a.tmps) = true then Oper.wp P o a w K Q else E := by
  have hw : Region.wanted o (yielded ops a.tmps) = true := by simp [Region.wanted, hg]
  rw [if_pos hw]
  cases A with
  | some ad =>
    obtain ⟨v', w', hrun, r1, r2, _⟩ := run_append_own (P := P) w base t o.type e i z size bytes h1 h2 h3 h4 h5 h6 h7 v n olds hown ad m c news hn
      (fun j u hj => by obtain ⟨ad', he, hcell⟩ := hc j u hj; cases he; exact hcell) h1c b1 b2 b3
    unfold Oper.wp
    simp [execOp, hop, resolve, invoke, builtin, hs, hx, hrun, Result.andThen]
    exact hK v' w' r1 r2
  | none =>
    have hnil : news = [] := by
      cases news with
      | nil => rfl
      | cons u r => obtain ⟨ad, he, _⟩ := hc 0 u rfl; cases he
    subst hnil
    have hm : m = 0 := by
      have h0 : 0 = m * size := by simpa using hn
      rcases Nat.mul_eq_zero.1 h0.symm with h | h
      · exact h
      · omega
    subst hm
    have hrun : (Builtin.append_ #[t, t] o.type #[v, .slice none 0 c]).run P w = .ok v w := by
      rcases hown.2 with ⟨rfl, rfl⟩ | ⟨g, cap, cur, rfl, _, _, hnc, _⟩
      · simp [Builtin.append_, run_underlying h1, sizeOf, typeInfo, h2, Builtin.lenOf, Builtin.firstCells]
      · simp [Builtin.append_, run_underlying h1, sizeOf, typeInfo, h2, Builtin.lenOf, Builtin.firstCells, hnc, storeCells]
    unfold Oper.wp
    simp [execOp, hop, resolve, invoke, builtin, hs, hx, hrun, Result.andThen]
    exact hK v w (by simpa using hown) (World.grownBy.refl _ _)

theorem Try.info5 : (Try.prog.info? 5).map (fun i => (i.zero, i.size, i.bytes)) = some (some (.int .u8 0), 1, 1) := by kernel_rfl

theorem own_ne {w : World} {base : Nat} {e e' : TypeId} {size : Nat} {v : Value} {n g : Nat} {xs : List Value} {cs : Array Value} {f : Nat × Nat} (h : w.ownsRow base e size v n xs)
    (hg : w.heap[g]? = some (.cells cs e' f)) (hne : e ≠ e') : some g ≠ v.ownBlock := by
  rcases h.2 with ⟨rfl, rfl⟩ | ⟨g', cap, cur, rfl, _, hh, _⟩
  · simp [Value.ownBlock]
  · intro he
    have : g = g' := by simpa [Value.ownBlock] using he
    subst this
    rw [hg] at hh
    injection hh with hh
    injection hh with _ ht
    exact hne ht.symm

theorem heap_set (w : World) (g off : Nat) (v : Value) {cs : Array Value} {e : TypeId} (h : w.heap[g]? = some (.cells cs e (0, 0))) :
    (w.setCell ⟨g, off, none⟩ v).heap[g]? = some (.cells (cs.setIfInBounds off v) e (0, 0)) := heap_setCell_same w g off cs e v h

theorem Only2.below {w w' : World} {g B : Nat} {row : Option Nat} (h : Only2 w w' g row) (hB : B ≤ w.heap.size) (hg : B ≤ g) (hr : ∀ k, row = some k → B ≤ k) : Below B w w' :=
  ⟨h.os, h.tape, h.output, h.size, fun k hk => h.block k (by omega) (by omega) (fun e => by have := hr k e.symm; omega)⟩

/-- What a sink is behind a Write: the row has grown, then both cells are stored. -/
theorem snk_after {w w' : World} {B g : Nat} {A A' : Option Addr} {c c' : Nat} {xs bs : List Int} {left k : Nat} {z : Int} (hS : Snk w B g A c xs left) (hgr : w.drew.grownBy w' (Value.slice A xs.length c).ownBlock)
    (hown : w'.ownsRow B 5 1 (.slice A' (xs.length + k) c') (xs.length + k) (xs.map (Value.int .u8) ++ (bs.take k).map (Value.int .u8))) (hk : (bs.take k).length = k) (hz : z = ((left - k : Nat) : Int)) :
    Snk ((w'.setCell ⟨g, 0, none⟩ (.slice A' (xs.length + k) c')).setCell ⟨g, 1, none⟩ (.int .i64 z)) B g A' c' (xs ++ bs.take k) (left - k) ∧
    Only2 w ((w'.setCell ⟨g, 0, none⟩ (.slice A' (xs.length + k) c')).setCell ⟨g, 1, none⟩ (.int .i64 z)) g (Value.slice A xs.length c).ownBlock := by
  subst hz
  obtain ⟨hg, ho⟩ := hS
  have hlt : g < w.heap.size := (Array.getElem?_eq_some_iff.1 hg).1
  have hg' : w'.heap[g]? = some (.cells #[.slice A xs.length c, .int .i64 left] 39 (0, 0)) := (hgr.block g hlt (own_ne ho hg (by decide))).trans hg
  have hne : some g ≠ (Value.slice A' (xs.length + k) c').ownBlock := own_ne hown hg' (by decide)
  have h1 := heap_set w' g 0 (.slice A' (xs.length + k) c') hg'
  have h2 := heap_set _ g 1 (.int .i64 ((left - k : Nat) : Int)) h1
  have hl : (xs ++ bs.take k).length = xs.length + k := by rw [List.length_append, hk]
  refine ⟨⟨by rw [h2, hl]; simp, ?_⟩, ?_⟩
  · rw [hl, List.map_append]
    refine hown.kept (row := some g) ⟨rfl, rfl, rfl, by simp [World.setCell], fun j hj hn => ?_⟩ (.inr (Ne.symm hne))
    rw [Below.heap_setCell _ _ _ _ (fun e => hn (by simp [e])), Below.heap_setCell _ _ _ _ (fun e => hn (by simp [e]))]
  · refine ⟨hgr.os, hgr.tape, hgr.output, by simpa [World.setCell] using hgr.size, fun j hj hne1 hne2 => ?_⟩
    rw [Below.heap_setCell _ _ _ _ (fun e => hne1 (by simpa using e)), Below.heap_setCell _ _ _ _ (fun e => hne1 (by simpa using e))]
    exact hgr.block j hj hne2

end Go.Proofs.Yteejjgnpjkldiaa
