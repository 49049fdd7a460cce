/-
  Words for the proofs of the sink's laws: a slice of bytes that is read, a sink that lies in memory, an append as a step of a region that draws its order.
-/
import Derived.Test.YteejjgnpjkldiaaRows
import Derived.WalkKit
import Derived.Lib.Hide
import Derived.Deep.RegionLaw
import Derived.Deep.Draws
import Derived.ArgAppend
namespace Go.Proofs.Yteejjgnpjkldiaa
open Go.RowKit

/-- What a slice of whole numbers reads as: nil, empty and other slices alike. -/
def Rd (w : World) (k : IntKind) (A : Option Addr) (n : Nat) (xs : List Int) : Prop :=
  xs.length = n ∧ ∀ j, j < n → ∃ ad, A = some ad ∧ w.cell? (ad.add j) = some (.int k (xs.getD j 0))

/-- Only the blocks g and row may have turned, of those that were there. -/
structure Only2 (w w' : World) (g : Nat) (row : Option Nat) : Prop where
  os : w'.os = w.os
  tape : w'.tape = w.tape
  output : w'.output = w.output
  size : w.heap.size ≤ w'.heap.size
  block : ∀ k, k < w.heap.size → k ≠ g → some k ≠ row → w'.heap[k]? = w.heap[k]?

/-- A sink in block g: what it has, for how much more there is room; its row lies from block B on. -/
def Snk (w : World) (B g : Nat) (A : Option Addr) (c : Nat) (xs : List Int) (left : Nat) : Prop :=
  w.heap[g]? = some (.cells #[.slice A xs.length c, .int .i64 left] 39 (0, 0)) ∧
  w.ownsRow B 5 1 (.slice A xs.length c) xs.length (xs.map (Value.int .u8))

theorem own_form {w : World} {base : Nat} {e : TypeId} {size : Nat} {v : Value} {n : Nat} {xs : List Value} (h : w.ownsRow base e size v n xs) :
    ∃ A c, v = .slice A n c := by
  rcases h.2 with ⟨rfl, rfl⟩ | ⟨g, cap, cur, rfl, _⟩
  · exact ⟨none, 0, rfl⟩
  · exact ⟨_, cap, rfl⟩

/-- The row is the elder one, or lies in a block that was not there. -/
def FreshOr (w : World) (o o' : Option Nat) : Prop := o' = o ∨ ∀ k, o' = some k → w.heap.size ≤ k

/-- append onto a slice of the call's own, whatever is appended, nil too: and where the row lies behind it. -/
theorem run_append_fresh {P : Program} (w : World) (base : Nat) (t ty e : TypeId) (i : TypeInfo) (z : Value) (size bytes : Nat) (ht : P.underlying t = some (.slice e)) (hi : P.info? e = some i) (hz : i.zero = some z)
    (hsize : i.size = size) (hby : i.bytes = bytes) (hzs : z.cells.size = size) (hsz : 0 < size)
    (v : Value) (n : Nat) (xs : List Value) (hown : w.ownsRow base e size v n xs)
    (A : Option Addr) (m c : Nat) (news : List Value) (hl : news.length = m * size) (hnews : ∀ j u, news[j]? = some u → ∃ ad, A = some ad ∧ w.cell? (ad.add j) = some u) (h1 : ∀ u ∈ news, u.oneCell' = true)
    (h63 : n + m ≤ maxLen) (hbytes : (n + m) * bytes ≤ 140737488355328) (hbase : base ≤ w.heap.size) :
    ∃ v' w', (Builtin.append_ #[t, t] ty #[v, .slice A m c]).run P w = .ok v' w' ∧ w'.ownsRow base e size v' (n + m) (xs ++ news) ∧ w.grownBy w' v.ownBlock ∧ FreshOr w v.ownBlock v'.ownBlock := by
  cases A with
  | some ad =>
    have hn' : ∀ j u, news[j]? = some u → w.cell? (ad.add j) = some u := fun j u hj => by obtain ⟨ad', he, hcell⟩ := hnews j u hj; cases he; exact hcell
    obtain ⟨v', w', hrun, r1, r2, _⟩ := run_append_own (P := P) w base t ty e i z size bytes ht hi hz hsize hby hzs hsz v n xs hown ad m c news hl hn' h1 h63 hbytes hbase
    refine ⟨v', w', hrun, r1, r2, ?_⟩
    rcases hown.2 with ⟨rfl, rfl⟩ | ⟨g, cap, cur, rfl, hb, hg, hnc, hcm, hcs, htake⟩
    · obtain rfl : xs = [] := List.eq_nil_of_length_eq_zero (by simpa using hown.1)
      obtain ⟨v2, w2, hrun2, q1, _⟩ := run_append_own (P := P) w w.heap.size t ty e i z size bytes ht hi hz hsize hby hzs hsz (.slice none 0 0) 0 [] (World.ownsRow_nil w _ e size) ad m c news hl hn' h1 h63 hbytes (Nat.le_refl _)
      rw [hrun] at hrun2
      injection hrun2 with hv hw
      subst hv; subst hw
      exact .inr fun k hk => (q1.lt k hk).1
    · by_cases hroom : n + m ≤ cap
      · subst hsize
        have hfit : n * i.size + news.length ≤ cur.size := by rw [hl, hcs, ← Nat.add_mul]; exact Nat.mul_le_mul_right _ hroom
        have hr := run_append_room (P := P) w t ty e i ht hi g n cap cur hg ad m c news hl hn' h1 hroom hfit
        rw [hrun] at hr
        injection hr with hv hw
        subst hv
        exact .inl rfl
      · obtain ⟨v2, w2, hrun2, q1, _⟩ := run_append_arg_grows (P := P) w t ty e i z size bytes ht hi hz hsize hby hzs hsz ⟨g, 0, none⟩ n cap xs hown.1 (fun j u hj => hown.cells (g := g) rfl j u hj) ad m c news hl hn' (by omega) h63 hbytes
        rw [hrun] at hrun2
        injection hrun2 with hv hw
        subst hv; subst hw
        exact .inr fun k hk => (q1.lt k hk).1
  | none =>
    have hnil : news = [] := by
      cases news with
      | nil => rfl
      | cons u r => obtain ⟨ad, he, _⟩ := hnews 0 u rfl; cases he
    subst hnil
    have hm : m = 0 := by
      have h0 : 0 = m * size := by simpa using hl
      rcases Nat.mul_eq_zero.1 h0.symm with h | h
      · exact h
      · omega
    subst hm
    have hrun : (Builtin.append_ #[t, t] ty #[v, .slice none 0 c]).run P w = .ok v w := by
      rcases hown.2 with ⟨rfl, rfl⟩ | ⟨g, cap, cur, rfl, _, _, hnc, _⟩
      · simp [Builtin.append_, run_underlying ht, sizeOf, typeInfo, hi, Builtin.lenOf, Builtin.firstCells]
      · simp [Builtin.append_, run_underlying ht, sizeOf, typeInfo, hi, Builtin.lenOf, Builtin.firstCells, hnc, storeCells]
    exact ⟨v, w, hrun, by simpa using hown, World.grownBy.refl _ _, .inl rfl⟩

/-- The same as one step of a region that draws. -/
theorem step_append_own {P : Program} {ops : Array Oper} {o : Oper} {a : Act} {w : World} {K : Act → World → Prop} {Q : Exit → Act → World → Prop} {E : Prop}
    (hg : o.guard = none) (s x : Operand) (t : TypeId) (hop : o.op = Op.call { callee := Callee.builtin Builtin.append, args := #[s, x], argTypes := #[t, t] })
    (base : Nat) (e : TypeId) (i : TypeInfo) (z : Value) (size bytes : Nat) (h1 : P.underlying t = some (.slice e)) (h2 : P.info? e = some i) (h3 : i.zero = some z) (h4 : i.size = size) (h5 : i.bytes = bytes) (h6 : z.cells.size = size) (h7 : 0 < size)
    (v : Value) (n : Nat) (olds : List Value) (hs : a.eval s = v) (hown : w.ownsRow base e size v n olds)
    (A : Option Addr) (m c : Nat) (news : List Value) (hx : a.eval x = .slice A m c) (hn : news.length = m * size) (hc : ∀ j u, news[j]? = some u → ∃ ad, A = some ad ∧ w.cell? (ad.add j) = some u) (h1c : ∀ u ∈ news, u.oneCell' = true)
    (b1 : n + m ≤ maxLen) (b2 : (n + m) * bytes ≤ 140737488355328) (b3 : base ≤ w.heap.size)
    (hK : ∀ v' w', w'.ownsRow base e size v' (n + m) (olds ++ news) → w.grownBy w' v.ownBlock → FreshOr w v.ownBlock v'.ownBlock → K (a.put o.dst v') w') :
    if Region.wanted o (yielded ops a.tmps) = true then Oper.wp P o a w K Q else E := by
  have hw : Region.wanted o (yielded ops a.tmps) = true := by simp [Region.wanted, hg]
  rw [if_pos hw]
  obtain ⟨v', w', hrun, r1, r2, r3⟩ := run_append_fresh (P := P) w base t o.type e i z size bytes h1 h2 h3 h4 h5 h6 h7 v n olds hown A m c news hn hc h1c b1 b2 b3
  unfold Oper.wp
  simp [execOp, hop, resolve, invoke, builtin, hs, hx, hrun, Result.andThen]
  exact hK v' w' r1 r2 r3

/-- The same for the walk. -/
theorem wpList_append_fresh {P : Program} (w : World) {ops : Array Oper} {rest : List Oper} {o : Oper} {a : Act} {Q : Exit → Act → World → Prop}
    (hg : o.guard = none) (s x : Operand) (t : TypeId) (hop : o.op = Op.call { callee := Callee.builtin Builtin.append, args := #[s, x], argTypes := #[t, t] })
    (base : Nat) (e : TypeId) (i : TypeInfo) (z : Value) (size bytes : Nat) (h1 : P.underlying t = some (.slice e)) (h2 : P.info? e = some i) (h3 : i.zero = some z) (h4 : i.size = size) (h5 : i.bytes = bytes) (h6 : z.cells.size = size) (h7 : 0 < size)
    (v : Value) (n : Nat) (olds : List Value) (hs : a.eval s = v) (hown : w.ownsRow base e size v n olds)
    (A : Option Addr) (m c : Nat) (news : List Value) (hx : a.eval x = .slice A m c) (hn : news.length = m * size) (hc : ∀ j u, news[j]? = some u → ∃ ad, A = some ad ∧ w.cell? (ad.add j) = some u) (h1c : ∀ u ∈ news, u.oneCell' = true)
    (b1 : n + m ≤ maxLen) (b2 : (n + m) * bytes ≤ 140737488355328) (b3 : base ≤ w.heap.size)
    (hK : ∀ v' w', w'.ownsRow base e size v' (n + m) (olds ++ news) → w.grownBy w' v.ownBlock → FreshOr w v.ownBlock v'.ownBlock → wpList P ops Q rest (a.put o.dst v') w') :
    wpList P ops Q (o :: rest) a w := by
  refine wpList_plain hg fun K hK' => ?_
  obtain ⟨v', w', hrun, r1, r2, r3⟩ := run_append_fresh (P := P) w base t o.type e i z size bytes h1 h2 h3 h4 h5 h6 h7 v n olds hown A m c news hn hc h1c b1 b2 b3
  unfold Oper.wp
  simp [execOp, hop, resolve, invoke, builtin, hs, hx, hrun, Result.andThen]
  exact hK' _ _ (hK v' w' r1 r2 r3)

theorem Try.info5 : (Try.prog.info? 5).map (fun i => (i.zero, i.size, i.bytes)) = some (some (.int .u8 0), 1, 1) := by kernel_rfl

theorem own_ne {w : World} {base : Nat} {e e' : TypeId} {size : Nat} {v : Value} {n g : Nat} {xs : List Value} {cs : Array Value} {f : Nat × Nat} (h : w.ownsRow base e size v n xs)
    (hg : w.heap[g]? = some (.cells cs e' f)) (hne : e ≠ e') : some g ≠ v.ownBlock := by
  rcases h.2 with ⟨rfl, rfl⟩ | ⟨g', cap, cur, rfl, _, hh, _⟩
  · simp [Value.ownBlock]
  · intro he
    have : g = g' := by simpa [Value.ownBlock] using he
    subst this
    rw [hg] at hh
    injection hh with hh
    injection hh with _ ht
    exact hne ht.symm

theorem heap_set (w : World) (g off : Nat) (v : Value) {cs : Array Value} {e : TypeId} (h : w.heap[g]? = some (.cells cs e (0, 0))) :
    (w.setCell ⟨g, off, none⟩ v).heap[g]? = some (.cells (cs.setIfInBounds off v) e (0, 0)) := heap_setCell_same w g off cs e v h

theorem Only2.below {w w' : World} {g B : Nat} {row : Option Nat} (h : Only2 w w' g row) (hB : B ≤ w.heap.size) (hg : B ≤ g) (hr : ∀ k, row = some k → B ≤ k) : Below B w w' :=
  ⟨h.os, h.tape, h.output, h.size, fun k hk => h.block k (by omega) (by omega) (fun e => by have := hr k e.symm; omega)⟩

/-- What a sink is behind a Write: the row has grown, then both cells are stored. -/
theorem snk_after {w w' : World} {B g : Nat} {A A' : Option Addr} {c c' : Nat} {xs bs : List Int} {left k : Nat} {z : Int} (hS : Snk w B g A c xs left) (hgr : w.drew.grownBy w' (Value.slice A xs.length c).ownBlock)
    (hown : w'.ownsRow B 5 1 (.slice A' (xs.length + k) c') (xs.length + k) (xs.map (Value.int .u8) ++ (bs.take k).map (Value.int .u8))) (hk : (bs.take k).length = k) (hz : z = ((left - k : Nat) : Int)) :
    Snk ((w'.setCell ⟨g, 0, none⟩ (.slice A' (xs.length + k) c')).setCell ⟨g, 1, none⟩ (.int .i64 z)) B g A' c' (xs ++ bs.take k) (left - k) ∧
    Only2 w ((w'.setCell ⟨g, 0, none⟩ (.slice A' (xs.length + k) c')).setCell ⟨g, 1, none⟩ (.int .i64 z)) g (Value.slice A xs.length c).ownBlock := by
  subst hz
  obtain ⟨hg, ho⟩ := hS
  have hlt : g < w.heap.size := (Array.getElem?_eq_some_iff.1 hg).1
  have hg' : w'.heap[g]? = some (.cells #[.slice A xs.length c, .int .i64 left] 39 (0, 0)) := (hgr.block g hlt (own_ne ho hg (by decide))).trans hg
  have hne : some g ≠ (Value.slice A' (xs.length + k) c').ownBlock := own_ne hown hg' (by decide)
  have h1 := heap_set w' g 0 (.slice A' (xs.length + k) c') hg'
  have h2 := heap_set _ g 1 (.int .i64 ((left - k : Nat) : Int)) h1
  have hl : (xs ++ bs.take k).length = xs.length + k := by rw [List.length_append, hk]
  refine ⟨⟨by rw [h2, hl]; simp, ?_⟩, ?_⟩
  · rw [hl, List.map_append]
    refine hown.kept (row := some g) ⟨rfl, rfl, rfl, by simp [World.setCell], fun j hj hn => ?_⟩ (.inr (Ne.symm hne))
    rw [Below.heap_setCell _ _ _ _ (fun e => hn (by simp [e])), Below.heap_setCell _ _ _ _ (fun e => hn (by simp [e]))]
  · refine ⟨hgr.os, hgr.tape, hgr.output, by simpa [World.setCell] using hgr.size, fun j hj hne1 hne2 => ?_⟩
    rw [Below.heap_setCell _ _ _ _ (fun e => hne1 (by simpa using e)), Below.heap_setCell _ _ _ _ (fun e => hne1 (by simpa using e))]
    exact hgr.block j hj hne2

end Go.Proofs.Yteejjgnpjkldiaa
