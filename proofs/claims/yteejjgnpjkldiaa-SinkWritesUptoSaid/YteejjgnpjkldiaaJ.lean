/-
  The walk of the law SinkWrites.
-/
import Derived.Test.YteejjgnpjkldiaaI
namespace Go.Proofs.Yteejjgnpjkldiaa
open Go.RowKit

theorem cat_le (ls : List (List Int)) (k n : Nat) (h : k ≤ n) : (cat ls k).length ≤ (cat ls n).length := by
  induction n with
  | zero => obtain rfl : k = 0 := by omega
            exact Nat.le_refl _
  | succ n ih =>
    rcases Nat.lt_or_ge k (n + 1) with h1 | h1
    · refine Nat.le_trans (ih (by omega)) ?_
      rcases Nat.lt_or_ge n ls.length with h2 | h2
      · rw [cat_succ ls n h2, List.length_append]; omega
      · unfold cat
        rw [List.take_of_length_le (by omega), List.take_of_length_le (by omega)]
        exact Nat.le_refl _
    · obtain rfl : k = n + 1 := by omega
      exact Nat.le_refl _

set_option maxHeartbeats 4000000 in
theorem sinkWrites_walk (room : Int) (D : Option Addr) (n cd : Nat) (k8 : Nat) (ls : List (List Int)) (w : World) (hb : RdL w D n ls) (hr : room ≤ 9223372036854775807) (hk8 : k8 ≤ 255) (hsum : n + (cat ls n).length ≤ 1048576) :
    Calls Try.prog 4 #[.int .i64 room, .slice D n cd, .int .u8 k8] w fun e w' => e = .returned (.bool true) ∧ Below w.heap.size w w' := by
  have hk8' : (k8 : Int) ≤ 255 := by omega
  go_enter Try.func4, Try.ntmps4
  go_wp2_with fail
  go_loop [7, 8] (fun s i => ∃ k : Nat, k ≤ n ∧ i = .int .i64 k ∧ s = .int .i64 ((n + (cat ls k).length : Nat) : Int)) (fun _ i => n - (intOf i).toNat)
  case atStart => exact ⟨0, Nat.zero_le _, rfl, by simp [cat]⟩
  case round =>
    obtain ⟨k, hk, rfl, rfl⟩ := hrel
    by_cases hlt : k < n
    · have hlt' : (k : Int) < (n : Int) := by omega
      obtain ⟨ad, D1, m, c1, rfl, hc, hrd, hmc, hmm⟩ := hb.2 k hlt
      have hkl : k < ls.length := by rw [hb.1]; exact hlt
      have e1 : (cat ls (k + 1)).length = (cat ls k).length + m := by rw [cat_succ ls k hkl, List.length_append, hrd.1]
      have h2 := cat_le ls (k + 1) n hlt
      have h3 : (cat ls k).length + m ≤ (cat ls n).length := by omega
      have HE := Lib.hid e1
      clear e1 h2 hrd hb
      go_wp2_with fail
      go_round
      case rel => exact ⟨k + 1, hlt, by go_num, by rw [HE.out]; go_num⟩
      case measure => simp [intOf]; omega
    · have hlt' : ¬ (k : Int) < (n : Int) := by omega
      obtain rfl : k = n := by omega
      by_cases hbig : 500 < k + (cat ls k).length
      · have hbig' : (500 : Int) < ((k + (cat ls k).length : Nat) : Int) := by omega
        go_wp2_with (go_at_call 7; refine (known_any _).mono ?_; rintro e w1 ⟨rfl, hB1⟩)
        all_goals go_ret
        all_goals exact ⟨rfl, hB1⟩
      · have hbig' : ¬ (500 : Int) < ((k + (cat ls k).length : Nat) : Int) := by omega
        have HB := Lib.hid hb
        clear hb
        go_wp2_with fail
        refine (known_any _).mono ?_
        rintro e w1 ⟨rfl, hB1⟩
        go_wp2_with fail
        have hb1 : RdL w1 D k ls := ⟨HB.out.1, fun j hj => by
          obtain ⟨ad, D1, m, c1, h1, h2, h3, h4, h5⟩ := HB.out.2 j hj
          exact ⟨ad, D1, m, c1, h1, (hB1.cell (World.block_lt_of_cell? w _ h2)).trans h2, h3.below hB1, h4, h5⟩⟩
        refine (writes_walk room D k cd ls w1 hb1 hr (by omega) (by omega) (fun j hj => cat_le ls (j + 1) k hj)).mono ?_
        rintro e w2 ⟨rfl, hB2⟩
        have hB12 := hB1.trans (hB2.mono hB1.size)
        go_wp2_with fail
        have hb2 : RdL w2 D k ls := ⟨HB.out.1, fun j hj => by
          obtain ⟨ad, D1, m, c1, h1, h2, h3, h4, h5⟩ := HB.out.2 j hj
          exact ⟨ad, D1, m, c1, h1, (hB12.cell (World.block_lt_of_cell? w _ h2)).trans h2, h3.below hB12, h4, h5⟩⟩
        refine (writes_walk k8 D k cd ls w2 hb2 (by omega) (by omega) (by omega) (fun j hj => cat_le ls (j + 1) k hj)).mono ?_
        rintro e w3 ⟨rfl, hB3⟩
        go_wp2_with fail
        go_ret
        exact ⟨rfl, hB12.trans (hB3.mono hB12.size)⟩

end Go.Proofs.Yteejjgnpjkldiaa
