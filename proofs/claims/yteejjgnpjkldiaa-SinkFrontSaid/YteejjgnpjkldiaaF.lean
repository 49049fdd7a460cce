/-
  The walk of the law SinkFront.
-/
import Derived.Test.YteejjgnpjkldiaaL
namespace Go.Proofs.Yteejjgnpjkldiaa
open Go.RowKit

set_option maxHeartbeats 4000000 in
set_option maxRecDepth 100000 in
theorem front_walk (r : Nat) (D : Option Addr) (n cd : Nat) (ls : List (List Int)) (w : World) (hb : RdL w D n ls) (hr : r ≤ 255) :
    Calls Try.prog 5 #[.slice D n cd, .int .u8 r] w fun e w' => e = .returned (.bool true) ∧ Below w.heap.size w w' := by
  obtain ⟨i0, hi, hz0, hz1, hz2⟩ := info_parts Try.info5
  have hr' : (r : Int) ≤ 255 := by omega
  go_enter Try.func5, Try.ntmps5
  go_wp2_with fail
  refine (new_any _ _).mono ?_
  rintro e w1 ⟨rfl, hw1⟩
  have hS1 : Snk w1 w.heap.size w.heap.size none 0 [] r := by rw [hw1]; exact snk_new
  have hB1 : Below w.heap.size w w1 := by rw [hw1]; exact (Below.refl _ w).alloc (Nat.le_refl _) _
  clear hw1
  go_wp2_with fail
  go_loopw [6, 7, 8] (fun al fu i wr => ∃ (k c sc : Nat) (A SA : Option Addr), k ≤ n ∧ k ≤ 40 ∧ i = .int .i64 k ∧ fu = .bool (decide (r < (cat ls k).length)) ∧ al = .slice A (cat ls k).length c ∧
      wr.ownsRow w.heap.size 5 1 (.slice A (cat ls k).length c) (cat ls k).length ((cat ls k).map (Value.int .u8)) ∧ Snk wr w.heap.size w.heap.size SA sc ((cat ls k).take r) (r - (cat ls k).length) ∧
      (∀ j, rowOf A = some j → rowOf SA ≠ some j) ∧ Below w.heap.size w wr ∧ (cat ls k).length ≤ 100 * k)
    (fun _ _ i _ => n - (intOf i).toNat)
  case atStart =>
    exact ⟨0, 0, 0, none, none, Nat.zero_le _, Nat.zero_le _, rfl, by simp [cat], rfl, World.ownsRow_nil _ _ _ _, by simpa [cat] using hS1, fun j hj => (by cases hj), hB1, by simp [cat]⟩
  case round =>
    obtain ⟨k, c, sc, A, SA, hk, hk40, rfl, rfl, rfl, hown, hS, hdis, hB, hlen⟩ := hrel
    by_cases hin : k < n ∧ k < 40
    · obtain ⟨hlt, h40⟩ := hin
      · have hlt' : (k : Int) < (n : Int) := by omega
        have h40' : (k : Int) < 40 := by omega
        obtain ⟨ad, D1, m, c1, rfl, hc, hrd, hmc, hmm⟩ := hb.2 k hlt
        have hcw := (hB.cell (World.block_lt_of_cell? w _ hc)).trans hc
        have hrw := hrd.below hB
        by_cases hbig : 100 < m
        · have hbig' : (100 : Int) < (m : Int) := by omega
          clear hown hS hdis hc hrd
          go_wp2_with (go_at_call 7; refine (known_any _).mono ?_; rintro e w2 ⟨rfl, hB2⟩)
          go_ret
          exact ⟨rfl, hB.trans (hB2.mono hB.size)⟩
        · have hbig' : ¬ (100 : Int) < (m : Int) := by omega
          have hl := hrd.1
          have hkl : k < ls.length := by rw [hb.1]; exact hlt
          have hcs := Lib.hid (cat_succ ls k hkl)
          have hgne := own_ne hown hS.1 (by decide)
          have HO := Lib.hid hown
          have HR := Lib.hid hrw
          have hmle : m ≤ 100 := by omega
          have hbs := hB.size
          clear hown hrw
          rw [own_rowOf] at hgne
          have HS := Lib.hid hS
          obtain ⟨l, hl'⟩ : ∃ l, l = r - (cat ls k).length := ⟨_, rfl⟩
          rw [← hl'] at hS
          have HL := Lib.hid hl'
          have hxl : ((cat ls k).take r).length + m ≤ 1000000 := by simp; omega
          have hl9 : l ≤ 9223372036854775807 := by omega
          have HC := Lib.hid hc
          have HRD := Lib.hid hrd
          have HB := Lib.hid hB
          have HN := Lib.hid hgne
          have HD := Lib.hid hdis
          clear hl' hgne hc hrd hB hdis hl HS
          have HSS := Lib.hid hS
          clear hS
          rcases Nat.lt_or_ge l m with hf | hf
          all_goals cases hd : decide (r < (cat ls k).length)
          all_goals
            first
              | have hf' : (l : Int) < (m : Int) := by omega
              | have hf' : (m : Int) ≤ (l : Int) := by omega
            have HDD := Lib.hid hd
            go_wp2_with (at_builtin; refine wpList_append_fresh _ rfl (.tmp 33) (.tmp 37) 22 rfl w.heap.size 5 i0 (.int .u8 0) 1 1 Try.underlying22 hi hz0 hz1 hz2 rfl (by decide) (.slice A (cat ls k).length c) (cat ls k).length ((cat ls k).map (Value.int .u8)) rfl HO.out D1 m c1 ((ls.getD k []).map (Value.int .u8)) rfl (by simpa using HR.out.1) (cells_of_rd HR.out) (u8_oneCell _) (by unfold maxLen; omega) (by omega) hbs ?_; intro v' w2 hown2 hgrow hfresh; obtain ⟨A', c', rfl⟩ := own_form hown2; have hB2 := HB.out.grown hgrow hbs (fun j hj => (HO.out.lt j hj).1); have hcw2 := (hB2.cell (World.block_lt_of_cell? w _ HC.out)).trans HC.out; have HG2 := Lib.hid hgrow; have HO2 := Lib.hid hown2; have HB2 := Lib.hid hB2; have HF2 := Lib.hid hfresh; clear hgrow hown2 hB2 hfresh)
            first
              | (refine (write_full2 w.heap.size w.heap.size SA sc _ l D1 m c1 (ls.getD k []) w2 (HSS.out.grown HG2.out (by simpa only [own_rowOf] using HN.out) (fun j hj he => HD.out j (by simpa only [own_rowOf] using he) (by simpa only [own_rowOf] using hj))) HB2.out.size hf (HRD.out.below HB2.out) hmc hxl).mono ?_)
              | (refine (write_fits2 w.heap.size w.heap.size SA sc _ l D1 m c1 (ls.getD k []) w2 (HSS.out.grown HG2.out (by simpa only [own_rowOf] using HN.out) (fun j hj he => HD.out j (by simpa only [own_rowOf] using he) (by simpa only [own_rowOf] using hj))) HB2.out.size hf (HRD.out.below HB2.out) hmc hxl hl9).mono ?_)
            rintro e w3 ⟨rfl, SA3, sc3, hS3, hO3, hF3⟩
            have R := Lib.hid (front_step (w := w) hcs.out HR.out.1 HL.out HB.out hbs (Nat.le_refl _) HN.out HO.out HSS.out HD.out HO2.out (by have := HG2.out; rwa [own_rowOf] at this) (by have := HF2.out; rwa [own_rowOf, own_rowOf] at this) hS3 hO3 hF3)
            have hcw3 := ((HB2.out.trans (hO3.below (Nat.le_trans hbs HG2.out.size) (Nat.le_refl _) (fun j hj => (HSS.out.2.lt j (by rw [own_rowOf]; exact hj)).1))).cell (World.block_lt_of_cell? w _ HC.out)).trans HC.out
            clear hS3 hO3 hF3 hcw2
            have hd2 := HDD.out
            go_wp2_with fail
            go_roundw
            case rel =>
              have e1 : (cat ls (k + 1)).length = (cat ls k).length + m := by rw [hcs.out, List.length_append, HR.out.1]
              have hL := HL.out
              have hd3 := HDD.out
              simp only [decide_eq_true_eq, decide_eq_false_iff_not] at hd3
              exact ⟨k + 1, c', sc3, A', SA3, by omega, by omega, by go_num, by rw [e1]; congr 1; symm; simp only [decide_eq_true_eq, decide_eq_false_iff_not]; omega, by rw [e1], R.out.1, R.out.2.1, R.out.2.2.1, R.out.2.2.2, by omega⟩
            case measure => simp [intOf]; omega
    · have hex : (k < n ∧ ¬ k < 40) ∨ ¬ k < n := by omega
      obtain ⟨q, hq⟩ : ∃ q, q = cat ls k := ⟨_, rfl⟩
      rw [← hq] at hown hS hlen
      rw [← hq]
      have hqc : q.length ≤ c := by
        rcases hown.2 with ⟨_, h0⟩ | ⟨g, cap, cur, hv, _, _, hnc, _⟩
        · omega
        · injection hv with _ _ hcc
          omega
      have hql : q.length ≤ 4000 := by omega
      obtain ⟨lf, hlf⟩ : ∃ lf, lf = r - q.length := ⟨_, rfl⟩
      have hrq : (q.take r).length = min r q.length := by simp
      obtain ⟨ys, hys⟩ : ∃ ys, ys = q.take r := ⟨_, rfl⟩
      rw [← hlf, ← hys] at hS
      rw [← hys] at hrq
      have HO : Hid (wr.drew.ownsRow w.heap.size 5 1 (.slice A q.length c) q.length (q.map (Value.int .u8))) := hown.drew
      have HS : Hid (Snk wr.drew w.heap.size w.heap.size SA sc ys lf) := hS
      have HB := Lib.hid hB.drew
      have HY := Lib.hid hys
      have HQ := Lib.hid hrq
      have HF := Lib.hid hlf
      clear hq hown hS hdis hB hlen hlf hrq hys hb
      have hqc' : (q.length : Int) ≤ (c : Int) := by omega
      rcases Nat.lt_or_ge r q.length with hrq | hrq
      · have hrq' : (r : Int) < (q.length : Int) := by omega
        have hd : decide (r < q.length) = true := by simpa using hrq
        have hrc : (r : Int) ≤ (c : Int) := by omega
        have hyl : ys.length = r := by have := HQ.out; omega
        have hlf : lf = 0 := by have := HF.out; omega
        subst hlf
        have HYB := Lib.hid (show ys.length ≤ 1000000 by omega)
        have hcmp : ((0 : Int) == (r : Int) - (ys.length : Int)) = true := by rw [beq_iff_eq]; omega
        have hyr : (ys.length : Int) ≤ (r : Int) := by omega
        clear hyl
        rcases hex with ⟨h1, h2⟩ | h1
        all_goals
          first
            | have h1' : (k : Int) < (n : Int) := by omega
            | have h1' : ¬ (k : Int) < (n : Int) := by omega
          try have h2' : ¬ (k : Int) < 40 := by omega
          go_wp2_with fail
          have hwr : IntKind.i64.wrap (r : Int) = (r : Int) := by rw [IntKind.wrap_i64]; omega
          have hws : IntKind.i64.wrap ((r : Int) - (ys.length : Int)) = (r : Int) - (ys.length : Int) := by rw [IntKind.wrap_i64]; omega
          refine wp_region_ord [0, 1, 2, 5, 6, 7, 8, 9, 10, 11, 12, 3, 4, 13, 14, 15, 16, 18, 19, 20, 17, 21, 22, 23, 24, 25, 26, 27, 28, 29, 30, 31, 32, 33, 34, 35] [0, 3, 17, 21] (by kernel_rfl) (by kernel_rfl) (by kernel_rfl) panic_put (by kernel_rfl) ?_
          refine wpOrd_call rfl rfl rfl ?_
          go_simp
          refine (known_any _).mono ?_
          rintro e w4 ⟨rfl, hB4⟩
          refine ⟨hB4, ?_⟩
          have hS4 := HS.out.below hB4
          have HO4 := Lib.hid (own_below HO.out hB4)
          have HB5 := Lib.hid (HB.out.trans (hB4.mono HB.out.size))
          clear hB4
          have hc4 : ∀ W, Below w4.heap.size w4 W → (convert 22 9 (.slice A r c)).run Try.prog W = .ok (.string (strOfNums ys)) W := fun W h => by rw [HY.out]; exact run_str ((rd_front_own HO4.out (Nat.le_of_lt hrq)).below h)
          repeat (first | (refine wpOrd_take (v := ?_) rfl rfl rfl (fun W hW => ?_) ?_; rotate_left; (focus (go_simp; with_reducible rfl)); simp only [Act.put, List.setIfInBounds_toArray, List.set_cons_succ, List.set_cons_zero]) | (refine wpOrd_skip rfl rfl ?_; simp only [Act.put, List.setIfInBounds_toArray, List.set_cons_succ, List.set_cons_zero]))
          refine wpOrd_call rfl rfl rfl ?_
          go_simp
          refine (bytes_any hS4 HYB.out).mono ?_
          rintro e w5 ⟨A5, c5, rfl, hR5, hB6⟩
          refine ⟨hB6, ?_⟩
          have hS5 := hS4.below hB6
          have HB7 := Lib.hid (HB5.out.trans (hB6.mono HB5.out.size))
          have hstr5 : ∀ W, Below w5.heap.size w5 W → (convert 22 9 (.slice A5 ys.length c5)).run Try.prog W = .ok (.string (strOfNums ys)) W := fun W h => run_str (hR5.below h)
          clear hS4 hB6 hR5 hc4
          repeat (first | (refine wpOrd_take (v := ?_) rfl rfl rfl (fun W hW => ?_) ?_; rotate_left; (focus (go_simp; with_reducible rfl)); simp only [Act.put, List.setIfInBounds_toArray, List.set_cons_succ, List.set_cons_zero]) | (refine wpOrd_skip rfl rfl ?_; simp only [Act.put, List.setIfInBounds_toArray, List.set_cons_succ, List.set_cons_zero]))
          refine wpOrd_call rfl rfl rfl ?_
          go_simp
          refine (left_any hS5).mono ?_
          rintro e w6 ⟨rfl, rfl⟩
          refine ⟨Below.refl _ _, ?_⟩
          repeat (first | (refine wpOrd_take (v := ?_) rfl rfl rfl (fun W hW => ?_) ?_; rotate_left; (focus (go_simp; with_reducible rfl)); simp only [Act.put, List.setIfInBounds_toArray, List.set_cons_succ, List.set_cons_zero]) | (refine wpOrd_skip rfl rfl ?_; simp only [Act.put, List.setIfInBounds_toArray, List.set_cons_succ, List.set_cons_zero]))
          refine wpOrd_call rfl rfl rfl ?_
          go_simp
          refine (bytes_any hS5 HYB.out).mono ?_
          rintro e w6 ⟨A6, c6, rfl, hR6, hB8⟩
          refine ⟨hB8, ?_⟩
          have HB9 := Lib.hid (HB7.out.trans (hB8.mono HB7.out.size))
          clear hR6 hB8
          repeat (first | (refine wpOrd_take (v := ?_) rfl rfl rfl (fun W hW => ?_) ?_; rotate_left; (focus (go_simp; with_reducible rfl)); simp only [Act.put, List.setIfInBounds_toArray, List.set_cons_succ, List.set_cons_zero]) | (refine wpOrd_skip rfl rfl ?_; simp only [Act.put, List.setIfInBounds_toArray, List.set_cons_succ, List.set_cons_zero]))
          refine wpOrd_nil ?_
          go_wp2_with fail
          go_ret
          exact ⟨rfl, HB9.out⟩
      · have hrq' : ¬ (r : Int) < (q.length : Int) := by omega
        have hrq2 : (q.length : Int) ≤ (r : Int) := by omega
        have hd : decide (r < q.length) = false := by simpa using hrq
        obtain rfl : ys = q := by rw [HY.out, List.take_of_length_le hrq]
        have hrq3 : ¬ ys.length > r := by omega
        have hrq4 : ¬ r < ys.length := by omega
        have hcmp : ((lf : Int) == (r : Int) - (ys.length : Int)) = true := by have := HF.out; rw [beq_iff_eq]; omega
        have HYB := Lib.hid (show ys.length ≤ 1000000 by omega)
        rcases hex with ⟨h1, h2⟩ | h1
        all_goals
          first
            | have h1' : (k : Int) < (n : Int) := by omega
            | have h1' : ¬ (k : Int) < (n : Int) := by omega
          try have h2' : ¬ (k : Int) < 40 := by omega
          go_wp2_with fail
          have hwr : IntKind.i64.wrap (r : Int) = (r : Int) := by rw [IntKind.wrap_i64]; omega
          have hws : IntKind.i64.wrap ((r : Int) - (ys.length : Int)) = (r : Int) - (ys.length : Int) := by rw [IntKind.wrap_i64]; omega
          refine wp_region_ord [0, 1, 2, 5, 6, 7, 8, 9, 10, 11, 12, 3, 4, 13, 14, 15, 16, 18, 19, 20, 17, 21, 22, 23, 24, 25, 26, 27, 28, 29, 30, 31, 32, 33, 34, 35] [0, 3, 17, 21] (by kernel_rfl) (by kernel_rfl) (by kernel_rfl) panic_put (by kernel_rfl) ?_
          refine wpOrd_call rfl rfl rfl ?_
          go_simp
          refine (known_any _).mono ?_
          rintro e w4 ⟨rfl, hB4⟩
          refine ⟨hB4, ?_⟩
          have hS4 := HS.out.below hB4
          have HO4 := Lib.hid (own_below HO.out hB4)
          have HB5 := Lib.hid (HB.out.trans (hB4.mono HB.out.size))
          clear hB4
          have hc4 : ∀ W, Below w4.heap.size w4 W → (convert 22 9 (.slice A ys.length c)).run Try.prog W = .ok (.string (strOfNums ys)) W := fun W h => run_str ((rd_of_own HO4.out).below h)
          repeat (first | (refine wpOrd_take (v := ?_) rfl rfl rfl (fun W hW => ?_) ?_; rotate_left; (focus (go_simp; with_reducible rfl)); simp only [Act.put, List.setIfInBounds_toArray, List.set_cons_succ, List.set_cons_zero]) | (refine wpOrd_skip rfl rfl ?_; simp only [Act.put, List.setIfInBounds_toArray, List.set_cons_succ, List.set_cons_zero]))
          refine wpOrd_call rfl rfl rfl ?_
          go_simp
          refine (bytes_any hS4 HYB.out).mono ?_
          rintro e w5 ⟨A5, c5, rfl, hR5, hB6⟩
          refine ⟨hB6, ?_⟩
          have hS5 := hS4.below hB6
          have HB7 := Lib.hid (HB5.out.trans (hB6.mono HB5.out.size))
          have hstr5 : ∀ W, Below w5.heap.size w5 W → (convert 22 9 (.slice A5 ys.length c5)).run Try.prog W = .ok (.string (strOfNums ys)) W := fun W h => run_str (hR5.below h)
          clear hS4 hB6 hR5 hc4
          repeat (first | (refine wpOrd_take (v := ?_) rfl rfl rfl (fun W hW => ?_) ?_; rotate_left; (focus (go_simp; with_reducible rfl)); simp only [Act.put, List.setIfInBounds_toArray, List.set_cons_succ, List.set_cons_zero]) | (refine wpOrd_skip rfl rfl ?_; simp only [Act.put, List.setIfInBounds_toArray, List.set_cons_succ, List.set_cons_zero]))
          refine wpOrd_call rfl rfl rfl ?_
          go_simp
          refine (left_any hS5).mono ?_
          rintro e w6 ⟨rfl, rfl⟩
          refine ⟨Below.refl _ _, ?_⟩
          repeat (first | (refine wpOrd_take (v := ?_) rfl rfl rfl (fun W hW => ?_) ?_; rotate_left; (focus (go_simp; with_reducible rfl)); simp only [Act.put, List.setIfInBounds_toArray, List.set_cons_succ, List.set_cons_zero]) | (refine wpOrd_skip rfl rfl ?_; simp only [Act.put, List.setIfInBounds_toArray, List.set_cons_succ, List.set_cons_zero]))
          refine wpOrd_call rfl rfl rfl ?_
          go_simp
          refine (bytes_any hS5 HYB.out).mono ?_
          rintro e w6 ⟨A6, c6, rfl, hR6, hB8⟩
          refine ⟨hB8, ?_⟩
          have HB9 := Lib.hid (HB7.out.trans (hB8.mono HB7.out.size))
          clear hR6 hB8
          repeat (first | (refine wpOrd_take (v := ?_) rfl rfl rfl (fun W hW => ?_) ?_; rotate_left; (focus (go_simp; with_reducible rfl)); simp only [Act.put, List.setIfInBounds_toArray, List.set_cons_succ, List.set_cons_zero]) | (refine wpOrd_skip rfl rfl ?_; simp only [Act.put, List.setIfInBounds_toArray, List.set_cons_succ, List.set_cons_zero]))
          refine wpOrd_nil ?_
          go_wp2_with fail
          go_ret
          exact ⟨rfl, HB9.out⟩

end Go.Proofs.Yteejjgnpjkldiaa
