/-
  An argument that is a slice of slices of bytes, opened, with what it weighs.
-/
import Derived.Test.YteejjgnpjkldiaaL
import Derived.Deep.Matrix
import Derived.ProofKit
namespace Go.Proofs.Yteejjgnpjkldiaa
open Go.RowKit Go.ChangeShapes Go.WideShapes Go.Deep

theorem bulk_all_append {H : Type} (a b : List (DataW H)) : Rows.uptoBulkAll (a ++ b) = Rows.uptoBulkAll a + Rows.uptoBulkAll b := by
  induction a with
  | nil => simp [Rows.uptoBulkAll]
  | cons x r ih => simp only [List.cons_append, Rows.uptoBulkAll, ih]; omega

theorem bulk_lits {H : Type} (k : IntKind) (zs : List Int) : Rows.uptoBulkAll (lits k zs : List (DataW H)) = zs.length := by
  induction zs with
  | nil => rfl
  | cons z r ih =>
    have : (lits k (z :: r) : List (DataW H)) = .lit (.int k z) :: lits k r := rfl
    rw [this]
    simp only [Rows.uptoBulkAll, ih, List.length_cons, Rows.uptoBulk]
    omega

theorem bulk_row {H : Type} (k : IntKind) (A : Option Addr) (L : Nat) (zs : List Int) (hA : A = none → zs.length = 0) : (zs.take L).length + 1 ≤ Rows.uptoBulk (intRow k A L zs : DataW H) := by
  cases A with
  | none => have := hA rfl; simp only [intRow, Rows.uptoBulk, List.length_take]; omega
  | some a => simp only [intRow, Rows.uptoBulk, bulk_lits]; omega

theorem bulk_rows {H : Type} (n : Nat) (f : Nat → DataW H) (g : Nat → List Int) (h : ∀ j, j < n → (g j).length + 1 ≤ Rows.uptoBulk (f j)) :
    n + (((List.range n).map g).flatten).length ≤ Rows.uptoBulkAll ((List.range n).map f) := by
  induction n with
  | zero => simp [Rows.uptoBulkAll]
  | succ n ih =>
    have h1 := ih fun j hj => h j (by omega)
    have h2 := h n (by omega)
    rw [List.range_succ, List.map_append, List.map_append, bulk_all_append, List.flatten_append, List.length_append]
    simp only [List.map_cons, List.map_nil, Rows.uptoBulkAll, List.flatten_cons, List.flatten_nil, List.append_nil]
    omega

theorem open_rows_33 {H : Type} {enc : TypeId × Value → H} {W : World} {a : Option Addr} {len cap : Nat} {d : DataW H} {p : List MemPlace}
    (h : DataW.Trod enc Try.prog W 0 (fun _ => true) true 33 (.slice a len cap) d p) : ∃ ls, RdL W a len ls ∧ len + (cat ls len).length ≤ Rows.uptoBulk d := by
  obtain ⟨fuel, hf⟩ := h
  rcases open_int_rows Try.underlying33 Try.underlying22 Try.underlying5 (by kernel_rfl) (by kernel_rfl) hf with ⟨hcs, hx⟩ | ⟨x, l, c, A, L, C, Z, hcs, _, hl, hm, hx, hr⟩
  · simp [Value.cells] at hcs
    obtain ⟨rfl, rfl, rfl⟩ := hcs
    exact ⟨[], ⟨rfl, fun j hj => absurd hj (by omega)⟩, by simp [cat]⟩
  · simp [Value.cells] at hcs
    obtain ⟨rfl, rfl, rfl⟩ := hcs
    simp only [Prod.mk.injEq] at hx
    obtain ⟨rfl, _⟩ := hx
    refine ⟨(List.range len).map fun r => (Z r).take (L r), ⟨by simp, fun j hj => ?_⟩, ?_⟩
    · obtain ⟨hc, hlc, hcm, hz, hwf, hnone, hsome⟩ := hr j (by omega)
      refine ⟨x, A j, L j, C j, rfl, hc, ?_, hlc, by unfold maxLen at hcm; omega⟩
      have e : ((List.range len).map fun r => (Z r).take (L r)).getD j [] = (Z j).take (L j) := by simp [List.getD, hj]
      rw [e]
      refine ⟨by simp; omega, fun i hi => ?_⟩
      cases hA : A j with
      | none => have := hnone hA; omega
      | some a' =>
        obtain ⟨_, hcell⟩ := hsome a' hA
        refine ⟨a', rfl, (hcell i (by omega)).trans ?_⟩
        simp [hi]
    · have hcat : cat ((List.range len).map fun r => (Z r).take (L r)) len = ((List.range len).map fun r => (Z r).take (L r)).flatten := by
        unfold cat
        rw [List.take_of_length_le (by simp)]
      rw [hcat]
      have hb := bulk_rows (H := H) len (fun r => intRow .u8 (A r) (L r) (Z r)) (fun r => (Z r).take (L r)) (fun j hj => by
        obtain ⟨_, _, _, hz, _, hnone, _⟩ := hr j (by omega)
        exact bulk_row .u8 (A j) (L j) (Z j) (fun h => by rw [hz, hnone h]))
      simp only [Rows.uptoBulk]
      omega

end Go.Proofs.Yteejjgnpjkldiaa
