/-
  The document's Join; whether two nodes are one.
-/
import Derived.Test.YtlbipmlbkcdmnaaMerB
import Derived.Laws.BytesArg
import Derived.Lib.SlBytesConst
import Derived.RegionCalls
import Derived.BigQuiet
namespace Go.Proofs.Ytlbipmlbkcdmnaa
open Go.RowKit

set_option maxHeartbeats 400000 in
theorem refJoin_any (a b : List UInt8) (ha : a.length ≤ 4000000000000) (hb : b.length ≤ 4000000000000) (w : World) : Calls Try.prog 22 #[.string ⟨a.toArray⟩, .string ⟨b.toArray⟩] w fun e w' =>
    e = .returned (.string ⟨(joinL a b).toArray⟩) ∧ w' = w := by
  by_cases h : a = []
  · subst h
    go_enter Try.func22, Try.ntmps22
    go_wp2_with fail
    go_ret
    exact ⟨by simp [joinL], rfl⟩
  · have e1 := emp h
    by_cases h2 : b = []
    · subst h2
      go_enter Try.func22, Try.ntmps22
      go_wp2_with fail
      go_ret
      exact ⟨by simp [joinL], rfl⟩
    · have e2 := emp h2
      go_enter Try.func22, Try.ntmps22
      go_wp2_with fail
      go_ret
      exact ⟨by rw [cat_mk a [47], cat_mk]; simp [joinL, h, h2], rfl⟩

/-- A list of bytes that is read as a string. -/
theorem run_str {w : World} {A : Option Addr} {n c : Nat} {xs : List Int} (h : Rd w .u8 A n xs) : (convert 29 9 (.slice A n c)).run Try.prog w = .ok (.string (strOfNums xs)) w := by
  cases A with
  | none =>
    have h0 : n = 0 := by
      rcases Nat.eq_zero_or_pos n with h0 | h0
      · exact h0
      · obtain ⟨ad, hA, _⟩ := h.2 0 h0; cases hA
    have hx : xs = [] := List.eq_nil_of_length_eq_zero (h.1.trans h0)
    subst hx
    exact run_convert_bytes_nil w 29 5 Try.underlying29 Try.underlying5 n c 9 Try.underlying9
  | some ad =>
    have hl := run_loadCells_list (P := Try.prog) w ad (xs.map (Value.int .u8)) (fun j v hj => by
      obtain ⟨ad', hA, hc⟩ := cells_of_rd h j v hj
      cases hA
      exact hc)
    rw [List.length_map, h.1] at hl
    rw [run_convert_bytes_string w 29 9 5 _ n c Try.underlying29 Try.underlying5 Try.underlying9, run_bytesToString w ad n c xs hl, foldl_push_bytes]
    simp [strOfNums, ByteArray.empty, ByteArray.emptyWithCapacity]
    rfl

set_option maxRecDepth 100000 in
set_option maxHeartbeats 2000000 in
/-- Two nodes that read alike. -/
theorem same_any (x y : Nd) (t : Sn) (w : World) (hx : NdAt w x t) (hy : NdAt w y t) : Calls Try.prog 36 #[.agg x.cells.toArray, .agg y.cells.toArray] w fun e w' => e = .returned (.bool true) ∧ Below w.heap.size w w' := by
  have hb : Below w.heap.size w ((w.alloc (.cells x.cells.toArray 31)).alloc (.cells y.cells.toArray 31)) := ((Below.refl _ w).alloc (Nat.le_refl _) _).alloc (by simp) _
  have s1 := run_str (c := x.cap) (hx.2.2.2.1.below hb)
  have s2 := run_str (c := y.cap) (hy.2.2.2.1.below hb)
  obtain ⟨p, k, A, n, c, l⟩ := x
  obtain ⟨p', k', A', n', c', l'⟩ := y
  obtain ⟨rfl, rfl, rfl, _⟩ := hx
  obtain ⟨h1, h2, h3, _⟩ := hy
  dsimp only at h1 h2 h3
  subst h1; subst h2; subst h3
  unfold Nd.cells at *
  dsimp only at *
  have HB := Lib.hid hb; clear hb
  go_enter Try.func36, Try.ntmps36
  go_wp2_with fail
  go_ret
  exact ⟨rfl, HB.out⟩

end Go.Proofs.Ytlbipmlbkcdmnaa
