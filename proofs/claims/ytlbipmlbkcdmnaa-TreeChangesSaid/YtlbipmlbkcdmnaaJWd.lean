/-
  What is below a path, and a tree without it.
-/
import Derived.Test.YtlbipmlbkcdmnaaIWd
namespace Go.Proofs.Ytlbipmlbkcdmnaa
open Go.RowKit Go.Shelf

def belowL (p s : List UInt8) : Bool := s.isEmpty || Lib.hasPrefix p (s ++ [47])

set_option maxRecDepth 100000 in
set_option maxHeartbeats 1000000 in
theorem under1_any (x : Nd) (b : Nat) (s : List UInt8) (hl : s.length ≤ 140737488355328) (w : World) (hs : w.cell? ⟨b, 0, none⟩ = some (.string ⟨s.toArray⟩)) (hb : b < w.heap.size) :
    Calls Try.prog 72 #[.agg x.cells.toArray, .pointer (some ⟨b, 0, none⟩)] w fun e w' => e = .returned (.bool (belowL x.path s)) ∧ Below w.heap.size w w' := by
  obtain ⟨p, k, A, n, c, l⟩ := x
  unfold Nd.cells
  dsimp only
  have h2 : (w.alloc (.cells #[.string ⟨p.toArray⟩, .int .u8 k, .slice A n c, .string ⟨l.toArray⟩] 31)).cell? ⟨b, 0, none⟩ = some (.string ⟨s.toArray⟩) := (World.cell?_of_block (Below.heap_alloc w _ b hb)).trans hs
  by_cases he : s = []
  · subst he
    go_enter Try.func72, Try.ntmps72
    go_wp2_with fail
    go_ret
    exact ⟨rfl, (Below.refl _ w).alloc (Nat.le_refl _) _⟩
  · have e1 := emp he
    have HP : ∀ w, Calls Try.prog 73 #[.string ⟨p.toArray⟩, .string ((ByteArray.mk s.toArray) ++ (ByteArray.mk #[47]))] w fun e w' => e = .returned (.bool (belowL p s)) ∧ w' = w := fun w => by
      have := Try.strings_HasPrefix ⟨p.toArray⟩ ((ByteArray.mk s.toArray) ++ (ByteArray.mk [47].toArray)) w
      rw [cat_mk] at this
      unfold belowL
      rw [e1, Bool.false_or, cat_mk s [47]]
      exact this
    go_enter Try.func72, Try.ntmps72
    go_wp2_with (go_at_call 73; refine (HP _).mono ?_; rintro e w' ⟨rfl, rfl⟩)
    go_ret
    exact ⟨rfl, (Below.refl _ w).alloc (Nat.le_refl _) _⟩

set_option maxHeartbeats 400000 in
theorem under_fn (s : List UInt8) (w : World) : Calls Try.prog 53 #[.string ⟨s.toArray⟩] w fun e w' => e = .returned (.func (.func 72) #[] #[.pointer (some ⟨w.heap.size, 0, none⟩)]) ∧ w' = w.alloc (.cells #[.string ⟨s.toArray⟩] 9) := by
  go_enter Try.func53, Try.ntmps53
  go_wp2_with fail
  go_ret
  exact ⟨rfl, rfl⟩

set_option maxRecDepth 100000 in
set_option maxHeartbeats 1000000 in
/-- Not below. -/
theorem notBelow_any (x : Nd) (b d : Nat) (s : List UInt8) (hl : s.length ≤ 140737488355328) (w : World) (hd : w.cell? ⟨d, 0, none⟩ = some (.func (.func 72) #[] #[.pointer (some ⟨b, 0, none⟩)])) (hdl : d < w.heap.size) (hs : w.cell? ⟨b, 0, none⟩ = some (.string ⟨s.toArray⟩)) (hb : b < w.heap.size) :
    Calls Try.prog 59 (#[.agg x.cells.toArray] ++ #[.pointer (some ⟨d, 0, none⟩)]) w fun e w' => e = .returned (.bool (!belowL x.path s)) ∧ Below w.heap.size w w' := by
  obtain ⟨w1, hw1⟩ : ∃ w1, w.alloc (.cells x.cells.toArray 31) = w1 := ⟨_, rfl⟩
  have hA : Below w.heap.size w w1 := by rw [← hw1]; exact (Below.refl _ w).alloc (Nat.le_refl _) _
  have d2 := (hA.cell (p := ⟨d, 0, none⟩) hdl).trans hd
  have HU := under1_any x b s hl w1 ((hA.cell (p := ⟨b, 0, none⟩) hb).trans hs) (by have := hA.size; omega)
  rw [← hw1] at HU d2 hA
  clear hw1
  obtain ⟨p, k, A, n, c, l⟩ := x
  unfold Nd.cells at *
  dsimp only at *
  show Calls Try.prog 59 #[_, _] w _
  go_enter Try.func59, Try.ntmps59
  go_wp2_with (go_at_call 72; refine HU.mono ?_; rintro e w' ⟨rfl, hb2⟩)
  go_ret
  exact ⟨rfl, hA.trans (hb2.mono (by simp))⟩

set_option maxRecDepth 100000 in
set_option maxHeartbeats 1000000 in
/-- It, or below it. -/
theorem itOrBelow_any (x : Nd) (a b d : Nat) (s : List UInt8) (hl : s.length ≤ 140737488355328) (w : World) (ha : w.cell? ⟨a, 0, none⟩ = some (.string ⟨s.toArray⟩)) (hal : a < w.heap.size) (hd : w.cell? ⟨d, 0, none⟩ = some (.func (.func 72) #[] #[.pointer (some ⟨b, 0, none⟩)])) (hdl : d < w.heap.size) (hs : w.cell? ⟨b, 0, none⟩ = some (.string ⟨s.toArray⟩)) (hb : b < w.heap.size) :
    Calls Try.prog 54 (#[.agg x.cells.toArray] ++ #[.pointer (some ⟨a, 0, none⟩), .pointer (some ⟨d, 0, none⟩)]) w fun e w' => e = .returned (.bool (x.path == s || belowL x.path s)) ∧ Below w.heap.size w w' := by
  obtain ⟨w1, hw1⟩ : ∃ w1, w.alloc (.cells x.cells.toArray 31) = w1 := ⟨_, rfl⟩
  have hA : Below w.heap.size w w1 := by rw [← hw1]; exact (Below.refl _ w).alloc (Nat.le_refl _) _
  have d2 := (hA.cell (p := ⟨d, 0, none⟩) hdl).trans hd
  have a2 := (hA.cell (p := ⟨a, 0, none⟩) hal).trans ha
  have HU := under1_any x b s hl w1 ((hA.cell (p := ⟨b, 0, none⟩) hb).trans hs) (by have := hA.size; omega)
  rw [← hw1] at HU d2 hA a2
  clear hw1
  obtain ⟨p, k, A, n, c, l⟩ := x
  unfold Nd.cells at *
  dsimp only at *
  show Calls Try.prog 54 #[_, _, _] w _
  by_cases he : p = s
  · subst he
    go_enter Try.func54, Try.ntmps54
    go_wp2_with fail
    go_ret
    exact ⟨by simp, hA⟩
  · have e1 : (p == s) = false := by simpa using he
    go_enter Try.func54, Try.ntmps54
    go_wp2_with (go_at_call 72; refine HU.mono ?_; rintro e w' ⟨rfl, hb2⟩)
    go_ret
    exact ⟨by rw [e1]; rfl, hA.trans (hb2.mono (by simp))⟩

end Go.Proofs.Ytlbipmlbkcdmnaa
