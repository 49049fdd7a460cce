/-
  A row of one's own whose block holds nothing but numbers that no node has: what else is read stays while it grows.
-/
import Derived.Test.YtlbipmlbkcdmnaaGreatNhV
import Derived.Lib.AppendZeros
namespace Go.Proofs.YtlbipmlbkcdmnaaGreat
open Go.RowKit Go.Shelf

def NumV (u : Value) : Prop := (∃ n, u = .int .i64 n) ∨ ∃ n, u = .int .u16 n

/-- The row's block, if there is one, holds such numbers alone. -/
def NumsAt (w : World) (v : Value) : Prop := ∀ g, v.ownBlock = some g → ∀ cur e f, w.heap[g]? = some (.cells cur e f) → ∀ u ∈ cur.toList, NumV u

theorem NumsAt.nil (w : World) : NumsAt w (.slice none 0 0) := fun g hg => by simp [Value.ownBlock] at hg
theorem NumsAt.below {w w' : World} {B n : Nat} {v : Value} {e : TypeId} {size : Nat} {xs : List Value} (h : NumsAt w v) (ho : w.ownsRow B e size v n xs) (hb : Below w.heap.size w w') : NumsAt w' v := fun g hg cur e' f hc u hu => by
  have hl := (ho.lt g hg).2
  rw [hb.block g hl] at hc
  exact h g hg cur e' f hc u hu

theorem zeros_num {n : Nat} {z : Array Value} (hz : ∀ u ∈ z.toList, NumV u) : ∀ u ∈ (Builtin.zeroCells z n).toList, NumV u := by
  intro u hu
  unfold Builtin.zeroCells at hu
  simp at hu
  obtain ⟨i, hi, rfl⟩ := hu
  have hz0 : 0 < z.size := by
    rcases Nat.eq_zero_or_pos z.size with h | h
    · rw [h] at hi; simp at hi
    · exact h
  have hlt := Nat.mod_lt i hz0
  rw [getElem!_pos z _ hlt]
  exact hz _ (Array.mem_toList_iff.2 (Array.getElem_mem hlt))

theorem run_append_nums {P : Program} (w : World) (base : Nat) (t ty e : TypeId) (i : TypeInfo) (z : Value) (size bytes : Nat) (ht : P.underlying t = some (.slice e)) (hi : P.info? e = some i) (hz : i.zero = some z)
    (hsize : i.size = size) (hby : i.bytes = bytes) (hzs : z.cells.size = size) (hsz : 0 < size)
    (v : Value) (n : Nat) (xs : List Value) (hown : w.ownsRow base e size v n xs)
    (a : Addr) (m c : Nat) (news : List Value) (hl : news.length = m * size) (hnews : ∀ j u, news[j]? = some u → w.cell? (a.add j) = some u) (h1 : ∀ u ∈ news, u.oneCell' = true)
    (h63 : n + m ≤ maxLen) (hbytes : (n + m) * bytes ≤ 140737488355328) (hbase : base ≤ w.heap.size) (hm : 0 < m)
    (hnum : NumsAt w v) (hzn : ∀ u ∈ z.cells.toList, NumV u) (hnn : ∀ u ∈ news, NumV u) :
    ∃ v' w', (Builtin.append_ #[t, t] ty #[v, .slice (some a) m c]).run P w = .ok v' w' ∧ w'.ownsRow base e size v' (n + m) (xs ++ news) ∧ w.grownBy w' v.ownBlock ∧ NumsAt w' v' := by
  obtain ⟨v', w', hr, ho, hg, _⟩ := run_append_own (P := P) w base t ty e i z size bytes ht hi hz hsize hby hzs hsz v n xs hown a m c news hl hnews h1 h63 hbytes hbase
  refine ⟨v', w', hr, ho, hg, ?_⟩
  subst hsize
  subst hby
  have hsmall : n + m ≤ 9223372036854775807 := by simp only [maxLen] at h63; omega
  rcases hown.2 with ⟨rfl, rfl⟩ | ⟨g, cap, cur, rfl, hbg, hgh, hnc, hcm, hcs, htake⟩
  · have hr2 := run_append_nil (P := P) w t ty e i z ht hi hz a m c news hl hnews hm (by omega) (by have hb := hbytes; simp only [Nat.zero_add] at hb; omega)
    rw [hr] at hr2
    injection hr2 with e1 e2
    subst e1 e2
    intro g hgo cur e' f hc u hu
    simp only [Value.ownBlock, Option.some.injEq] at hgo
    subst hgo
    have := heap_alloc_new w.drew (.cells (news.toArray ++ Builtin.zeroCells z.cells (grownCap w m 0 e - m)) e)
    rw [show w.drew.heap.size = w.heap.size from rfl] at this
    rw [this] at hc
    injection hc with hc
    injection hc with h2 _ _
    subst h2
    simp only [Array.toList_append, List.mem_append] at hu
    rcases hu with hu | hu
    · exact hnn u hu
    · exact zeros_num hzn u hu
  · have hcur : ∀ u ∈ cur.toList, NumV u := fun u hu => hnum g rfl cur e (0, 0) hgh u hu
    by_cases hroom : n + m ≤ cap
    · have hfit : n * i.size + news.length ≤ cur.size := by rw [hl, hcs, ← Nat.add_mul]; exact Nat.mul_le_mul_right _ hroom
      have hr2 := run_append_room (P := P) w t ty e i ht hi g n cap cur hgh a m c news hl hnews h1 hroom hfit
      rw [hr] at hr2
      injection hr2 with e1 e2
      subst e1 e2
      intro g' hgo cur' e' f hc u hu
      simp only [Value.ownBlock, Option.some.injEq] at hgo
      subst hgo
      rw [setRow_heap w g cur _ e _ hgh] at hc
      injection hc with hc
      injection hc with h2 _ _
      subst h2
      simp only [List.mem_append] at hu
      rcases hu with (hu | hu) | hu
      · exact hcur u (List.mem_of_mem_take hu)
      · exact hnn u hu
      · exact hcur u (List.mem_of_mem_drop hu)
    · have holds : ∀ j u, xs[j]? = some u → w.cell? ((⟨g, 0, none⟩ : Addr).add j) = some u := hown.cells (g := g) rfl
      have hr2 := run_append_grow (P := P) w t ty e i z ht hi hz ⟨g, 0, none⟩ n cap xs hown.1 holds a m c news hl hnews (by omega) (by omega) (growslice_fits (by omega) hbytes)
      rw [hr] at hr2
      injection hr2 with e1 e2
      subst e1 e2
      intro g' hgo cur' e' f hc u hu
      simp only [Value.ownBlock, Option.some.injEq] at hgo
      subst hgo
      have := heap_alloc_new w.drew (.cells (xs.toArray ++ news.toArray ++ Builtin.zeroCells z.cells (grownCap w (n + m) cap e - (n + m))) e)
      rw [show w.drew.heap.size = w.heap.size from rfl] at this
      rw [this] at hc
      injection hc with hc
      injection hc with h2 _ _
      subst h2
      simp only [Array.toList_append, List.mem_append] at hu
      rcases hu with (hu | hu) | hu
      · rw [← htake] at hu
        exact hcur u (List.mem_of_mem_take hu)
      · exact hnn u hu
      · exact zeros_num hzn u hu

theorem wpList_append_nums {P : Program} (w : World) {ops : Array Oper} {rest : List Oper} {o : Oper} {a : Act} {Q : Exit → Act → World → Prop} (hgd : o.guard = none) (s x : Operand) (t : TypeId)
    (ho : o.op = .call { callee := .builtin .append, args := #[s, x], argTypes := #[t, t] })
    (base : Nat) (e : TypeId) (i : TypeInfo) (z : Value) (size bytes : Nat) (ht : P.underlying t = some (.slice e)) (hi : P.info? e = some i) (hz : i.zero = some z)
    (hsize : i.size = size) (hby : i.bytes = bytes) (hzs : z.cells.size = size) (hsz : 0 < size)
    (v : Value) (n : Nat) (xs : List Value) (hs : a.eval s = v) (hown : w.ownsRow base e size v n xs)
    (ad : Addr) (m c : Nat) (news : List Value) (hx : a.eval x = .slice (some ad) m c) (hl : news.length = m * size) (hnews : ∀ j u, news[j]? = some u → w.cell? (ad.add j) = some u) (h1 : ∀ u ∈ news, u.oneCell' = true)
    (h63 : n + m ≤ maxLen) (hbytes : (n + m) * bytes ≤ 140737488355328) (hbase : base ≤ w.heap.size) (hm : 0 < m)
    (hnum : NumsAt w v) (hzn : ∀ u ∈ z.cells.toList, NumV u) (hnn : ∀ u ∈ news, NumV u)
    (h : ∀ v' w', w'.ownsRow base e size v' (n + m) (xs ++ news) → w.grownBy w' v.ownBlock → NumsAt w' v' → wpList P ops Q rest (a.put o.dst v') w') : wpList P ops Q (o :: rest) a w := by
  obtain ⟨v', w', hr, h2, h3, h4⟩ := run_append_nums (P := P) w base t o.type e i z size bytes ht hi hz hsize hby hzs hsz v n xs hown ad m c news hl hnews h1 h63 hbytes hbase hm hnum hzn hnn
  exact Lib.wpList_append_run w hgd s x t t ho v _ hs hx v' w' hr (h v' w' h2 h3 h4)

theorem encR_num (r : Nat × Int) : ∀ u ∈ encR r, NumV u := by
  intro u hu
  simp only [encR, List.mem_cons, List.not_mem_nil, or_false] at hu
  rcases hu with rfl | rfl
  · exact .inl ⟨_, rfl⟩
  · exact .inr ⟨_, rfl⟩

/-- A slice of nodes, while such a block is turned. -/
theorem RowOf.grownNums {w w' : World} {B n : Nat} {v v' : Value} {e : TypeId} {size : Nat} {ss : List Sn} {xs : List Value} (h : RowOf w v ss) (ho : w.ownsRow B e size v' n xs) (hn : NumsAt w v') (hg : w.grownBy w' v'.ownBlock) : RowOf w' v ss := by
  have hcell : ∀ (a : Addr) (u : Value), w.cell? a = some u → ¬ NumV u → w'.cell? a = some u := fun a u ha hu => by
    refine (World.cell?_of_block (hg.block a.block (World.block_lt_of_cell? w a ha) fun e1 => ?_)).trans ha
    obtain ⟨cur, e2, f, hc⟩ : ∃ cur e f, w.heap[a.block]? = some (.cells cur e f) := by
      unfold World.cell? at ha
      split at ha
      · rename_i c e f hcc
        exact ⟨c, e, f, hcc⟩
      · cases ha
    refine hu (hn a.block e1.symm cur e2 f hc u ?_)
    unfold World.cell? at ha
    rw [hc] at ha
    dsimp only at ha
    split at ha
    · cases ha
    · exact Array.mem_toList_iff.2 (Array.mem_of_getElem? ha)
  have nstr : ∀ b, ¬ NumV (.string b) := fun b h => by rcases h with ⟨n, h⟩ | ⟨n, h⟩ <;> cases h
  have nslc : ∀ A n c, ¬ NumV (.slice A n c) := fun A n c h => by rcases h with ⟨n, h⟩ | ⟨n, h⟩ <;> cases h
  have nu8 : ∀ k, ¬ NumV (.int .u8 k) := fun k h => by rcases h with ⟨n, h⟩ | ⟨n, h⟩ <;> cases h
  obtain ⟨A, c, ms, rfl, hN, hL, h0⟩ := h
  refine ⟨A, c, ms, rfl, ?_, ?_, h0⟩
  · rcases hN with hN | ⟨b, off, hA, hb, hN⟩
    · exact .inl hN
    · refine .inr ⟨b, off, hA, Nat.lt_of_lt_of_le hb hg.size, fun j x hx => ?_⟩
      obtain ⟨k0, k1, k2, k3⟩ := hN j x hx
      exact ⟨hcell _ _ k0 (nstr _), hcell _ _ k1 (nu8 _), hcell _ _ k2 (nslc _ _ _), hcell _ _ k3 (nstr _)⟩
  · refine ⟨hL.1, fun j x s hx hs => ?_⟩
    obtain ⟨a1, a2, a3, a4, a5⟩ := hL.2 j x s hx hs
    refine ⟨a1, a2, a3, ⟨a4.1, fun i hi => ?_⟩, a5⟩
    obtain ⟨ad, hA, hc⟩ := a4.2 i hi
    exact ⟨ad, hA, hcell _ _ hc (nu8 _)⟩

end Go.Proofs.YtlbipmlbkcdmnaaGreat
