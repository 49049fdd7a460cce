
/-
  A member, as choices say.
-/
import Derived.Test.YtlbipmlbkcdmnaaGreatMerP
namespace Go.Proofs.YtlbipmlbkcdmnaaGreat
open Go.RowKit Go.Shelf

/-- A choice. -/
theorem g_any {w : World} {A : Option Addr} {n c : Nat} {bs : List Int} (h : Rd w .u8 A n bs) (hr : ∀ x ∈ bs, 0 ≤ x ∧ x < 256) (i : Nat) :
    Calls Tryz.prog 15 #[.slice A n c, .int .i64 i] w fun e w' => ∃ x : Int, e = .returned (.int .u8 x) ∧ 0 ≤ x ∧ x < 256 ∧ w' = w := by
  by_cases hlt : i < n
  · have hz : (i : Int) < (n : Int) := by omega
    obtain ⟨ad, rfl, hc⟩ := h.2 i hlt
    have hx : bs.getD i 0 ∈ bs := by
      have hl : i < bs.length := by rw [h.1]; exact hlt
      rw [List.getD_eq_getElem?_getD, List.getElem?_eq_getElem hl]
      exact List.getElem_mem hl
    have hb := hr _ hx
    generalize bs.getD i 0 = x at hc hb
    go_enter Tryz.func15, Tryz.ntmps15
    go_wp2_with fail
    go_ret
    exact ⟨x, rfl, hb.1, hb.2, rfl⟩
  · have hz : ¬ (i : Int) < (n : Int) := by omega
    go_enter Tryz.func15, Tryz.ntmps15
    go_wp2_with fail
    go_ret
    exact ⟨0, rfl, by omega, by omega, rfl⟩

end Go.Proofs.YtlbipmlbkcdmnaaGreat
