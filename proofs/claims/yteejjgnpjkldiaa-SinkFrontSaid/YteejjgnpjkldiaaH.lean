/-
  An argument that is a slice of slices of bytes, opened.
-/
import Derived.Test.YteejjgnpjkldiaaL
import Derived.Deep.Matrix
import Derived.ProofKit
namespace Go.Proofs.Yteejjgnpjkldiaa
open Go.RowKit Go.ChangeShapes Go.WideShapes Go.Deep

theorem open_rows_33 {H : Type} {enc : TypeId × Value → H} {W : World} {a : Option Addr} {len cap : Nat} {d : DataW H} {p : List MemPlace}
    (h : DataW.Trod enc Try.prog W 0 (fun _ => true) true 33 (.slice a len cap) d p) : ∃ ls, RdL W a len ls ∧ len ≤ cap ∧ len ≤ 9223372036854775807 := by
  obtain ⟨fuel, hf⟩ := h
  rcases open_int_rows Try.underlying33 Try.underlying22 Try.underlying5 (by kernel_rfl) (by kernel_rfl) hf with ⟨hcs, _⟩ | ⟨x, l, c, A, L, C, Z, hcs, _, hl, hm, _, hr⟩
  · simp [Value.cells] at hcs
    obtain ⟨rfl, rfl, rfl⟩ := hcs
    exact ⟨[], ⟨rfl, fun j hj => absurd hj (by omega)⟩, by omega, by omega⟩
  · simp [Value.cells] at hcs
    obtain ⟨rfl, rfl, rfl⟩ := hcs
    refine ⟨(List.range len).map fun r => (Z r).take (L r), ⟨by simp, fun j hj => ?_⟩, hl, by unfold maxLen at hm; omega⟩
    obtain ⟨hc, hlc, hcm, hz, hwf, hnone, hsome⟩ := hr j (by omega)
    refine ⟨x, A j, L j, C j, rfl, hc, ?_, hlc, by unfold maxLen at hcm; omega⟩
    have e : ((List.range len).map fun r => (Z r).take (L r)).getD j [] = (Z j).take (L j) := by simp [List.getD, hj]
    rw [e]
    refine ⟨by simp; omega, fun i hi => ?_⟩
    cases hA : A j with
    | none => have := hnone hA; omega
    | some a' =>
      obtain ⟨_, hcell⟩ := hsome a' hA
      refine ⟨a', rfl, (hcell i (by omega)).trans ?_⟩
      simp [hi]

end Go.Proofs.Yteejjgnpjkldiaa
