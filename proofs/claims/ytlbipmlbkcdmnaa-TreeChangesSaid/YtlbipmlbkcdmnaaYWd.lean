/-
  The two ways to say that one path is below another.
-/
import Derived.Test.YtlbipmlbkcdmnaaXWd
namespace Go.Proofs.Ytlbipmlbkcdmnaa
open Go.RowKit Go.Shelf

theorem below_under (p s : List UInt8) : belowL p s = underL p s := by
  unfold belowL underL Lib.hasPrefix
  congr 1
  rw [Bool.eq_iff_iff]
  simp only [List.isPrefixOf_iff_prefix, Bool.and_eq_true, decide_eq_true_eq, beq_iff_eq]
  constructor
  · intro h
    have h1 := h.length_le
    have h2 := List.prefix_iff_eq_take.1 h
    simp at h1
    exact ⟨by omega, by rw [show s.length + 1 = (s ++ [47]).length by simp]; exact h2.symm⟩
  · rintro ⟨_, h⟩
    rw [← h]
    exact List.take_prefix _ _

end Go.Proofs.Ytlbipmlbkcdmnaa
