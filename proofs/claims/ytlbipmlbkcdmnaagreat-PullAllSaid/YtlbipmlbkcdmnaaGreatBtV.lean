
/-
  Options, as a choice says: which.
-/
import Derived.Test.YtlbipmlbkcdmnaaGreatBpV
namespace Go.Proofs.YtlbipmlbkcdmnaaGreat
open Go.RowKit Go.Shelf

def rootsL : List (List UInt8) := [[], [97], [97, 47, 98], [100], [120], [97, 47], [46, 46, 47, 97], [97]]
def optV (k : Int) : Opt := ⟨rootsL.getD (k % 8).toNat [], k / 8 % 2 == 0, k / 16 % 2 == 0⟩

theorem optV_root (k : Int) : (optV k).root.length ≤ 10 := by
  have h8 : (k % 8).toNat = 0 ∨ (k % 8).toNat = 1 ∨ (k % 8).toNat = 2 ∨ (k % 8).toNat = 3 ∨ (k % 8).toNat = 4 ∨ (k % 8).toNat = 5 ∨ (k % 8).toNat = 6 ∨ (k % 8).toNat = 7 := by omega
  unfold optV
  dsimp only
  rcases h8 with h | h | h | h | h | h | h | h <;> (rw [h]; decide)

theorem optV_at {k : Int} {j : Nat} (h : k % 8 = (j : Int)) : optV k = ⟨rootsL.getD j [], k / 8 % 2 == 0, k / 16 % 2 == 0⟩ := by
  unfold optV
  rw [h]
  rfl

set_option maxRecDepth 100000 in
set_option maxHeartbeats 4000000 in
theorem options_det (k : Int) (w : World) (hk : 0 ≤ k) (hk2 : k < 256) : Calls Tryz.prog 8 #[.int .u8 k] w fun e w' =>
    e = .returned (.agg (optCells (optV k)).toArray) ∧ Below w.heap.size w w' := by
  have h8 : k % 8 = 0 ∨ k % 8 = 1 ∨ k % 8 = 2 ∨ k % 8 = 3 ∨ k % 8 = 4 ∨ k % 8 = 5 ∨ k % 8 = 6 ∨ k % 8 = 7 := by omega
  go_enter Tryz.func8, Tryz.ntmps8
  rcases h8 with h | h | h | h | h | h | h | h
  · go_wp2_with fail
    refine bodyPost_ret (opt_end ⟨[], k / 8 % 2 == 0, k / 16 % 2 == 0⟩ rfl) rfl ⟨by rw [optV_at (j := 0) h]; rfl, ((Below.refl _ _).alloc (Nat.le_refl _) _).alloc (by simp) _⟩
  · go_wp2_with fail
    refine bodyPost_ret (opt_end ⟨[97], k / 8 % 2 == 0, k / 16 % 2 == 0⟩ rfl) rfl ⟨by rw [optV_at (j := 1) h]; rfl, ((Below.refl _ _).alloc (Nat.le_refl _) _).alloc (by simp) _⟩
  · go_wp2_with fail
    refine bodyPost_ret (opt_end ⟨[97, 47, 98], k / 8 % 2 == 0, k / 16 % 2 == 0⟩ rfl) rfl ⟨by rw [optV_at (j := 2) h]; rfl, ((Below.refl _ _).alloc (Nat.le_refl _) _).alloc (by simp) _⟩
  · go_wp2_with fail
    refine bodyPost_ret (opt_end ⟨[100], k / 8 % 2 == 0, k / 16 % 2 == 0⟩ rfl) rfl ⟨by rw [optV_at (j := 3) h]; rfl, ((Below.refl _ _).alloc (Nat.le_refl _) _).alloc (by simp) _⟩
  · go_wp2_with fail
    refine bodyPost_ret (opt_end ⟨[120], k / 8 % 2 == 0, k / 16 % 2 == 0⟩ rfl) rfl ⟨by rw [optV_at (j := 4) h]; rfl, ((Below.refl _ _).alloc (Nat.le_refl _) _).alloc (by simp) _⟩
  · go_wp2_with fail
    refine bodyPost_ret (opt_end ⟨[97, 47], k / 8 % 2 == 0, k / 16 % 2 == 0⟩ rfl) rfl ⟨by rw [optV_at (j := 5) h]; rfl, ((Below.refl _ _).alloc (Nat.le_refl _) _).alloc (by simp) _⟩
  · go_wp2_with fail
    refine bodyPost_ret (opt_end ⟨[46, 46, 47, 97], k / 8 % 2 == 0, k / 16 % 2 == 0⟩ rfl) rfl ⟨by rw [optV_at (j := 6) h]; rfl, ((Below.refl _ _).alloc (Nat.le_refl _) _).alloc (by simp) _⟩
  · go_wp2_with fail
    refine bodyPost_ret (opt_end ⟨[97], k / 8 % 2 == 0, k / 16 % 2 == 0⟩ rfl) rfl ⟨by rw [optV_at (j := 7) h]; rfl, ((Below.refl _ _).alloc (Nat.le_refl _) _).alloc (by simp) _⟩

end Go.Proofs.YtlbipmlbkcdmnaaGreat
