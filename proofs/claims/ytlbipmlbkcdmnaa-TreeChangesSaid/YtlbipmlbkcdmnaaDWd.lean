/-
  Nodes in memory: what they read as; clones of them and of their bytes.
-/
import Derived.Test.YtlbipmlbkcdmnaaKWd
namespace Go.Proofs.Ytlbipmlbkcdmnaa
open Go.RowKit

/-- What a slice of whole numbers reads as: nil, empty and other slices alike. -/
def Rd (w : World) (k : IntKind) (A : Option Addr) (n : Nat) (xs : List Int) : Prop :=
  xs.length = n ∧ ∀ j, j < n → ∃ ad, A = some ad ∧ w.cell? (ad.add j) = some (.int k (xs.getD j 0))

theorem rd_of_own {w : World} {B : Nat} {A : Option Addr} {n c : Nat} {xs : List Int} (h : w.ownsRow B 5 1 (.slice A n c) n (xs.map (Value.int .u8))) : Rd w .u8 A n xs := by
  have hl : xs.length = n := by simpa using h.1
  refine ⟨hl, fun j hj => ?_⟩
  rcases h.2 with ⟨_, h0⟩ | ⟨g, cap, cur, hv, _⟩
  · omega
  · injection hv with hA _ _
    subst hA
    refine ⟨⟨g, 0, none⟩, rfl, h.cells (g := g) rfl j _ ?_⟩
    simp [show j < xs.length by omega]

theorem Rd.below {w w' : World} {k : IntKind} {A : Option Addr} {n : Nat} {xs : List Int} (h : Rd w k A n xs) (hb : Below w.heap.size w w') : Rd w' k A n xs :=
  ⟨h.1, fun j hj => by
    obtain ⟨ad, hA, hc⟩ := h.2 j hj
    exact ⟨ad, hA, (hb.cell (World.block_lt_of_cell? w _ hc)).trans hc⟩⟩

theorem own_cap {w : World} {B : Nat} {e : TypeId} {size : Nat} {A : Option Addr} {n c : Nat} {xs : List Value} (h : w.ownsRow B e size (.slice A n c) n xs) : n ≤ c := by
  rcases h.2 with ⟨hv, h0⟩ | ⟨g, cap, cur, hv, hb, hg, hc, _⟩
  · omega
  · injection hv with _ _ h3; omega

theorem cells_of_rd {w : World} {A : Option Addr} {n : Nat} {xs : List Int} (h : Rd w .u8 A n xs) : ∀ j u, (xs.map (Value.int .u8))[j]? = some u → ∃ ad, A = some ad ∧ w.cell? (ad.add j) = some u := by
  intro j u hu
  have hj : j < xs.length := by
    have := (List.getElem?_eq_some_iff.1 hu).1
    simpa using this
  obtain ⟨ad, hA, hc⟩ := h.2 j (by rw [← h.1]; exact hj)
  refine ⟨ad, hA, hc.trans ?_⟩
  rw [← hu]
  simp [hj]

theorem u8_oneCell (zs : List Int) : ∀ u ∈ zs.map (Value.int .u8), u.oneCell' = true := by
  intro u hu
  obtain ⟨_, _, rfl⟩ := List.mem_map.1 hu
  rfl

theorem Try.info5 : (Try.prog.info? 5).map (fun i => (i.zero, i.size, i.bytes)) = some (some (.int .u8 0), 1, 1) := by kernel_rfl

set_option maxRecDepth 100000 in
set_option maxHeartbeats 1000000 in
/-- slices.Clone at bytes. -/
theorem clone_any {w : World} {A : Option Addr} {n c : Nat} {xs : List Int} (h : Rd w .u8 A n xs) (hn : n ≤ 140737488355328) :
    Calls Try.prog 46 #[.slice A n c] w fun e w' => ∃ A' c', e = .returned (.slice A' n c') ∧ w'.ownsRow w.heap.size 5 1 (.slice A' n c') n (xs.map (Value.int .u8)) ∧ Below w.heap.size w w' := by
  cases A with
  | none =>
    have h0 : n = 0 := by
      rcases Nat.eq_zero_or_pos n with h0 | h0
      · exact h0
      · obtain ⟨ad, hA, _⟩ := h.2 0 h0; cases hA
    subst h0
    have hrun := fun W : World => Lib.run_eql_slice_nil (P := Try.prog) W 29 5 none 0 c 0 0 Try.underlying29
    have HH := Lib.hid h; clear h
    go_enter Try.func46, Try.ntmps46
    go_wp2
    go_ret
    obtain rfl : xs = [] := List.eq_nil_of_length_eq_zero HH.out.1
    exact ⟨none, 0, rfl, World.ownsRow_nil _ _ _ _, Below.refl _ _⟩
  | some ad =>
    obtain ⟨i0, hi, hz0, hz1, hz2⟩ := info_parts Try.info5
    have hrun := fun W : World => Lib.run_eql_slice_nil (P := Try.prog) W 29 5 (some ad) n c 0 0 Try.underlying29
    have HH := Lib.hid h; clear h
    go_enter Try.func46, Try.ntmps46
    go_wp2_with (at_builtin; refine wpList_append_own _ rfl _ _ 29 rfl w.heap.size 5 i0 (.int .u8 0) 1 1 Try.underlying29 hi hz0 hz1 hz2 rfl (by decide) _ 0 [] rfl (World.ownsRow_made w #[] 0 (Nat.le_refl _) (by simp [maxLen]) rfl) ad n c (xs.map (Value.int .u8)) rfl (by simpa using HH.out.1) (fun j u hu => by obtain ⟨ad', hA, hc⟩ := cells_of_rd HH.out j u hu; cases hA; exact (Below.cell ((Below.refl _ w).alloc (Nat.le_refl _) _) (World.block_lt_of_cell? w _ hc)).trans hc) (u8_oneCell xs) (by unfold maxLen; omega) (by omega) (by simp) ?_; intro v' w1 hown1 hgrow1 _; simp only [Nat.zero_add, List.nil_append] at hown1; obtain ⟨A', c', rfl⟩ := own_form hown1)
    go_ret
    exact ⟨A', c', rfl, hown1, ((Below.refl _ w).alloc (Nat.le_refl _) _).grown hgrow1 (by simp) (fun k e => Nat.le_of_eq (Option.some.inj e))⟩

/-- The cells of nodes, one behind the other. -/
def cellsOf (ns : List Nd) : List Value := ns.flatMap Nd.cells

theorem cellsOf_length (ns : List Nd) : (cellsOf ns).length = ns.length * 4 := by
  induction ns with
  | nil => rfl
  | cons x r ih =>
    unfold cellsOf at ih ⊢
    rw [List.flatMap_cons, List.length_append, ih]
    simp [Nd.cells]
    omega

theorem cellsOf_at {ns : List Nd} {j i : Nat} {x : Nd} (h : ns[j]? = some x) (hi : i < 4) : (cellsOf ns)[j * 4 + i]? = x.cells[i]? := by
  induction ns generalizing j with
  | nil => simp at h
  | cons y r ih =>
    unfold cellsOf at ih ⊢
    rw [List.flatMap_cons]
    cases j with
    | zero =>
      obtain rfl : y = x := by simpa using h
      rw [List.getElem?_append_left (by simp [Nd.cells]; omega)]
      simp
    | succ j =>
      rw [List.getElem?_append_right (by simp [Nd.cells]; omega)]
      have := ih (j := j) (by simpa using h)
      rw [← this]
      simp [Nd.cells]
      congr 1
      omega

theorem cells_one (ns : List Nd) : ∀ u ∈ cellsOf ns, u.oneCell' = true := by
  intro u hu
  obtain ⟨x, _, hx⟩ := List.mem_flatMap.1 hu
  unfold Nd.cells at hx
  simp at hx
  rcases hx with rfl | rfl | rfl | rfl <;> rfl

theorem own_nodes {w : World} {B : Nat} {A : Option Addr} {n c : Nat} {ns : List Nd} (h : w.ownsRow B 31 4 (.slice A n c) n (cellsOf ns)) : n = ns.length ∧ Nodes w A ns := by
  have hl : n = ns.length := by
    have h1 := h.1
    rw [cellsOf_length] at h1
    omega
  refine ⟨hl, ?_⟩
  rcases h.2 with ⟨_, h0⟩ | ⟨g, cap, cur, hv, hb, hg, _⟩
  · exact .inl (List.eq_nil_of_length_eq_zero (by omega))
  · injection hv with hA _ _
    subst hA
    refine .inr ⟨g, 0, rfl, (Array.getElem?_eq_some_iff.1 hg).1, fun j x hj => ?_⟩
    have hc : ∀ i v, i < 4 → x.cells[i]? = some v → w.cell? ⟨g, 0 + j * 4 + i, none⟩ = some v := fun i v hi hv => by
      have := h.cells (g := g) rfl (j * 4 + i) v ((cellsOf_at hj hi).trans hv)
      rw [Addr.add_lit] at this
      rw [show 0 + j * 4 + i = 0 + (j * 4 + i) by omega]
      exact this
    exact ⟨hc 0 _ (by omega) rfl, hc 1 _ (by omega) rfl, hc 2 _ (by omega) rfl, hc 3 _ (by omega) rfl⟩

end Go.Proofs.Ytlbipmlbkcdmnaa
