
/-
  Members in memory of their own kinds: they stay while a row of members grows; a row of members.
-/
import Derived.Test.YtlbipmlbkcdmnaaGreatBoV
namespace Go.Proofs.YtlbipmlbkcdmnaaGreat
open Go.RowKit Go.Shelf

/-- Bytes in a block of bytes. -/
def DataT (w : World) (v : Value) (bs : List Int) : Prop :=
  (v = .slice none 0 0 ∧ bs = []) ∨ ∃ g d0 d1, v = .slice (some ⟨g, 0, none⟩) 2 2 ∧ bs = [d0, d1] ∧ w.heap[g]? = some (.cells #[.int .u8 d0, .int .u8 d1] 5 (0, 0))
def PartsT (w : World) (v : Value) (m : Mem) : Prop :=
  (v = .slice none 0 0 ∧ m.holes = false) ∨ ∃ g, v = .slice (some ⟨g, 0, none⟩) 1 1 ∧ w.heap[g]? = some (.cells #[.int .i64 1, .int .i64 2] 54 (0, 0)) ∧ m.data.length = 2 ∧ 1 ≤ m.real ∧ m.real ≤ 8
structure MemT (w : World) (m : Mem) (pv dv : Value) : Prop where
  data : DataT w dv m.data
  parts : PartsT w pv m

theorem MemT.keeps {w w' : World} {m : Mem} {pv dv : Value} (h : MemT w m pv dv) (hk : ∀ (g : Nat) (cs : Array Value) (T : TypeId), w.heap[g]? = some (.cells cs T (0, 0)) → T ≠ 32 → w'.heap[g]? = some (.cells cs T (0, 0))) : MemT w' m pv dv := by
  obtain ⟨h1, h2⟩ := h
  refine ⟨?_, ?_⟩
  · rcases h1 with h1 | ⟨g, d0, d1, e1, e2, e3⟩
    · exact .inl h1
    · exact .inr ⟨g, d0, d1, e1, e2, hk _ _ _ e3 (by decide)⟩
  · rcases h2 with h2 | ⟨g, e1, e2, e3⟩
    · exact .inl h2
    · exact .inr ⟨g, e1, hk _ _ _ e2 (by decide), e3⟩
theorem MemT.below {w w' : World} {m : Mem} {pv dv : Value} (h : MemT w m pv dv) (hb : Below w.heap.size w w') : MemT w' m pv dv :=
  h.keeps fun g _ _ hg _ => (hb.block g (Array.getElem?_eq_some_iff.1 hg).1).trans hg

theorem MemT.ok {w : World} {m : Mem} {pv dv : Value} (h : MemT w m pv dv) : MemOk w m pv dv := by
  obtain ⟨h1, h2⟩ := h
  refine ⟨?_, ?_, ?_⟩
  · rcases h1 with ⟨rfl, hd⟩ | ⟨g, d0, d1, rfl, hd, hg⟩
    · rw [hd]
      exact ⟨none, 0, rfl, ⟨rfl, fun j hj => absurd hj (Nat.not_lt_zero _)⟩, Nat.le_refl _, Nat.zero_le _⟩
    · rw [hd]
      refine ⟨_, 2, rfl, ⟨rfl, fun j hj => ⟨_, rfl, ?_⟩⟩, Nat.le_refl _, (by show 2 ≤ 4000000000000; decide)⟩
      rw [Addr.add_lit, Nat.zero_add]
      unfold World.cell?
      dsimp only
      rw [hg]
      have hj2 : j < 2 := hj
      match j, hj2 with
      | 0, _ => rfl
      | 1, _ => rfl
  · rcases h2 with ⟨rfl, _⟩ | ⟨g, rfl, _⟩
    · exact ⟨_, _, _, rfl⟩
    · exact ⟨_, _, _, rfl⟩
  · intro hh
    rcases h2 with ⟨_, h3⟩ | ⟨g, rfl, hg, h3⟩
    · rw [hh] at h3; cases h3
    · refine ⟨⟨g, 0, 1, rfl, ?_, ?_⟩, h3⟩
      · unfold World.cell?; dsimp only; rw [hg]; rfl
      · unfold World.cell?; dsimp only; rw [hg]; rfl

/-- Members of a row, with where their parts and bytes lie. -/
abbrev Tri := Mem × Value × Value
def triCells (t : Tri) : List Value := memCells t.1 t.2.1 t.2.2
def cellsM (ts : List Tri) : List Value := ts.flatMap triCells

theorem triCells_length (t : Tri) : (triCells t).length = 18 := rfl
theorem cellsM_snoc (ts : List Tri) (t : Tri) : cellsM ts ++ triCells t = cellsM (ts ++ [t]) := by
  unfold cellsM
  rw [List.flatMap_append]
  simp
theorem cellsM_get : ∀ (ts : List Tri) (j i : Nat) (t : Tri) (x : Value), ts[j]? = some t → (triCells t)[i]? = some x → (cellsM ts)[j * 18 + i]? = some x
  | [], j, i, t, x, h, _ => by simp at h
  | u :: r, 0, i, t, x, h, hx => by
    simp at h
    subst h
    unfold cellsM
    rw [List.flatMap_cons, Nat.zero_mul, Nat.zero_add, List.getElem?_append_left]
    · exact hx
    · exact (List.getElem?_eq_some_iff.1 hx).1
  | u :: r, j + 1, i, t, x, h, hx => by
    have ih := cellsM_get r j i t x (by simpa using h) hx
    unfold cellsM at ih ⊢
    rw [List.flatMap_cons, List.getElem?_append_right (by rw [triCells_length]; omega), triCells_length, show (j + 1) * 18 + i - 18 = j * 18 + i by omega]
    exact ih

theorem mems_row {w : World} {B : Nat} {v : Value} {ts : List Tri} (ho : w.ownsRow B 32 18 v ts.length (cellsM ts)) (ht : ∀ t ∈ ts, MemOk w t.1 t.2.1 t.2.2) : MemsRow w v (ts.map Prod.fst) := by
  obtain ⟨A, c, rfl⟩ := own_form ho
  refine ⟨A, c, by rw [List.length_map], fun j m hm => ?_⟩
  rw [List.getElem?_map] at hm
  cases htj : ts[j]? with
  | none => rw [htj] at hm; cases hm
  | some t =>
    rw [htj] at hm
    cases hm
    obtain ⟨m, pv, dv⟩ := t
    have hmem := List.mem_of_getElem? htj
    rcases ho.2 with ⟨_, h0⟩ | ⟨g, cap, cur, hv, hb, hg, hn, hc, hsz, htk⟩
    · rw [List.eq_nil_of_length_eq_zero h0] at hmem; cases hmem
    · injection hv with hA _ _
      subst hA
      refine ⟨g, 0, pv, dv, rfl, ht _ hmem, fun i x hx => ?_⟩
      have h1 := ho.cells (g := g) rfl (j * 18 + i) x (cellsM_get ts j i (m, pv, dv) x htj hx)
      rw [Addr.add_lit] at h1
      simpa using h1

/-- A part of a row of members. -/
theorem mems_take {w : World} {A : Option Addr} {n c : Nat} {ms : List Mem} (h : MemsRow w (.slice A n c) ms) (k c' : Nat) (hk : k ≤ ms.length) : MemsRow w (.slice A k c') (ms.take k) := by
  obtain ⟨A', c2, e, h⟩ := h
  injection e with e1 e2 e3
  subst e1
  refine ⟨A, c', by rw [List.length_take, Nat.min_eq_left hk], fun j m hm => ?_⟩
  rw [List.getElem?_take] at hm
  split at hm
  · exact h j m hm
  · cases hm
theorem mems_drop {w : World} {b off n c : Nat} {ms : List Mem} (h : MemsRow w (.slice (some ⟨b, off, none⟩) n c) ms) (k c' : Nat) : MemsRow w (.slice (some ⟨b, off + k * 18, none⟩) (ms.length - k) c') (ms.drop k) := by
  obtain ⟨A', c2, e, h⟩ := h
  injection e with e1 e2 e3
  subst e1
  refine ⟨_, c', by rw [List.length_drop], fun j m hm => ?_⟩
  rw [List.getElem?_drop] at hm
  obtain ⟨b', off', pv, dv, e1, e2, e3⟩ := h (k + j) m hm
  injection e1 with e1
  injection e1 with i1 i2 i3
  subst i1; subst i2
  exact ⟨_, _, pv, dv, rfl, e2, fun i x hx => by
    have := e3 i x hx
    rw [show off + k * 18 + j * 18 + i = off + (k + j) * 18 + i by omega]
    exact this⟩
theorem mems_nil {w : World} {A : Option Addr} {c : Nat} : MemsRow w (.slice A 0 c) [] := ⟨A, c, rfl, fun j m hm => by simp at hm⟩

end Go.Proofs.YtlbipmlbkcdmnaaGreat
