/-
  The document's answer for the sink: New and Write of the reference.
-/
import Derived.Test.YteejjgnpjkldiaaL
import Derived.Test.YteejjgnpjkldiaaO
namespace Go.Proofs.Yteejjgnpjkldiaa
open Go.RowKit

set_option maxHeartbeats 400000 in
theorem refNew_any (r : Int) (w : World) : Calls Try.prog 14 #[.int .i64 r] w fun e w' =>
    e = .returned (.agg #[.slice none 0 0, .int .i64 (r.toNat : Int)]) ∧ Below w.heap.size w w' := by
  rcases (show 0 < r ∨ r = 0 ∨ r < 0 by omega) with h | rfl | h
  · have h2 : ((r.toNat : Nat) : Int) = r := by omega
    rw [h2]; clear h2
    go_enter Try.func14, Try.ntmps14
    go_wp2
    exact bodyPost_ret (v := .agg #[.slice none 0 0, .int .i64 r]) (by simp [results, Try.results14, go_sem]) rfl ⟨rfl, (Below.refl _ _).alloc (Nat.le_refl _) _⟩
  · go_enter Try.func14, Try.ntmps14
    go_wp2
    exact bodyPost_ret (v := .agg #[.slice none 0 0, .int .i64 0]) (by simp [results, Try.results14, go_sem]) rfl ⟨rfl, (Below.refl _ _).alloc (Nat.le_refl _) _⟩
  · have h2 : ((r.toNat : Nat) : Int) = 0 := by omega
    rw [h2]; clear h2
    go_enter Try.func14, Try.ntmps14
    go_wp2
    exact bodyPost_ret (v := .agg #[.slice none 0 0, .int .i64 0]) (by simp [results, Try.results14, go_sem]) rfl ⟨rfl, (Below.refl _ _).alloc (Nat.le_refl _) _⟩

set_option maxHeartbeats 1000000 in
theorem refWrite_full (A : Option Addr) (c : Nat) (xs : List Int) (left : Nat) (D : Option Addr) (n cd : Nat) (bs : List Int) (w : World)
    (hA : Rd w .u8 A xs.length xs) (hlt : left < n) (hb : Rd w .u8 D n bs) (hn : n ≤ cd) (hbd : xs.length + n ≤ 1000000) :
    Calls Try.prog 15 #[.agg #[.slice A xs.length c, .int .i64 left], .slice D n cd] w fun e w' =>
      ∃ A' c', e = .returned (.tuple #[.agg #[.slice A' (xs.length + left) c', .int .i64 (left - left : Int)], .int .i64 left, .int .i64 20]) ∧
        w'.ownsRow w.heap.size 5 1 (.slice A' (xs.length + left) c') (xs.length + left) (xs.map (Value.int .u8) ++ (bs.take left).map (Value.int .u8)) ∧ Below w.heap.size w w' := by
  obtain ⟨i0, hi, hz0, hz1, hz2⟩ := info_parts Try.info5
  have HA := Lib.hid hA
  have HB := Lib.hid hb
  clear hA hb
  have hlt' : (left : Int) < (n : Int) := by omega
  have hle : (left : Int) ≤ (cd : Int) := by omega
  go_enter Try.func15, Try.ntmps15
  go_wp2_with (at_builtin; refine wpList_append_fresh _ rfl (.tmp 20) (.tmp 22) 22 rfl (w.heap.size + 1 + 1 + 1) 5 i0 (.int .u8 0) 1 1 Try.underlying22 hi hz0 hz1 hz2 rfl (by decide) (.slice none 0 0) 0 [] rfl (World.ownsRow_nil _ _ _ _) A xs.length c (xs.map (Value.int .u8)) rfl (by simp) (cells_of_rd (HA.out.below (by repeat (first | exact Below.refl _ _ | refine Below.drew ?_ | refine Below.alloc ?_ (by simp <;> omega) _ | refine Below.setCell ?_ (by simp <;> omega) _)))) (u8_oneCell _) (by unfold maxLen; omega) (by omega) (by simp <;> omega) ?_; intro v' w1 hown1 hgrow1 hfr1; simp only [Nat.zero_add, List.nil_append] at hown1; obtain ⟨A1, c1, rfl⟩ := own_form hown1; have hb1 := below_of_grown hgrow1; obtain ⟨hc1, hf1⟩ := bcell hb1; have hsz1 := hb1.size; simp at hsz1; have c10 : w1.cell? ⟨w.heap.size + 1, 0, none⟩ = some (.slice none 0 0) := (hc1 _ _ (by simp <;> omega)).trans (by go_simp); have f10 : w1.frozen? ⟨w.heap.size + 1, 0, none⟩ = false := (hf1 _ _ (by simp <;> omega)).trans (by go_simp); have c11 : w1.cell? ⟨w.heap.size + 1, 1, none⟩ = some (.int .i64 0) := (hc1 _ _ (by simp <;> omega)).trans (by go_simp); have f11 : w1.frozen? ⟨w.heap.size + 1, 1, none⟩ = false := (hf1 _ _ (by simp <;> omega)).trans (by go_simp); have c20 : w1.cell? ⟨w.heap.size + 1 + 1, 0, none⟩ = some (.slice none 0 0) := (hc1 _ _ (by simp <;> omega)).trans (by go_simp); have f20 : w1.frozen? ⟨w.heap.size + 1 + 1, 0, none⟩ = false := (hf1 _ _ (by simp <;> omega)).trans (by go_simp); have c21 : w1.cell? ⟨w.heap.size + 1 + 1, 1, none⟩ = some (.int .i64 0) := (hc1 _ _ (by simp <;> omega)).trans (by go_simp); have f21 : w1.frozen? ⟨w.heap.size + 1 + 1, 1, none⟩ = false := (hf1 _ _ (by simp <;> omega)).trans (by go_simp); clear hc1 hf1; have HO1 := Lib.hid hown1; have HG1 := Lib.hid hb1; have HB1 : Hid (Below w.heap.size w w1) := Below.trans (by repeat (first | exact Below.refl _ _ | refine Below.drew ?_ | refine Below.alloc ?_ (by simp <;> omega) _ | refine Below.setCell ?_ (by simp <;> omega) _)) (hb1.mono (by simp <;> omega)); clear hown1 hgrow1 hfr1 hb1)
  refine wp_region_ordB w.heap.size [0, 2, 3, 4, 1, 5, 6, 7] [1, 5, 7] (by kernel_rfl) (by kernel_rfl) (by kernel_rfl) panic_put (by kernel_rfl) ?_
  repeat (first | (refine wpOrd_take (v := ?_) rfl rfl rfl (fun W hW => ?_) ?_; rotate_left; (focus (go_simp; with_reducible rfl)); simp only [Act.put, List.setIfInBounds_toArray, List.set_cons_succ, List.set_cons_zero]) | (refine wpOrd_skip rfl rfl ?_; simp only [Act.put, List.setIfInBounds_toArray, List.set_cons_succ, List.set_cons_zero]))
  refine wpOrd_call rfl rfl rfl ?_
  go_simp
  refine ⟨Below.refl _ _, ?_⟩
  refine wpOrd_step rfl rfl ?_
  have HO1' := Lib.hid (ownsRow_setCell_below HO1.out (a := ⟨w.heap.size + 1 + 1, 0, none⟩) (by simp) (.slice A1 xs.length c1)).drew
  have HB1' := Lib.hid ((HB1.out.setCell (p := ⟨w.heap.size + 1 + 1, 0, none⟩) (by simp <;> omega) (.slice A1 xs.length c1)).drew)
  refine step_append_own rfl (.tmp 26) (.tmp 29) 22 rfl (w.heap.size + 1 + 1 + 1) 5 i0 (.int .u8 0) 1 1 Try.underlying22 hi hz0 hz1 hz2 rfl (by decide) (.slice A1 xs.length c1) xs.length (xs.map (Value.int .u8)) (by simp [Act.eval]) HO1'.out D left cd ((bs.take left).map (Value.int .u8)) (by simp [Act.eval]) (by simpa using (HB.out.front (Nat.le_of_lt hlt)).1) (cells_of_rd ((HB.out.front (Nat.le_of_lt hlt)).below HB1'.out)) (u8_oneCell _) (by unfold maxLen; omega) (by omega) (by simpa [World.setCell] using hsz1) ?_
  intro v' w2 hown2 hgrow2 _
  obtain ⟨A2, c2, rfl⟩ := own_form hown2
  have hb2 : Below (w.heap.size + 1 + 1 + 1) (w1.setCell ⟨w.heap.size + 1 + 1, 0, none⟩ (.slice A1 xs.length c1)).drew w2 :=
    (Below.refl _ _).grown hgrow2 (by simpa [World.setCell] using hsz1) (fun j hj => (HO1'.out.lt j hj).1)
  refine ⟨hb2.mono (by omega), ?_⟩
  obtain ⟨hc2, hf2⟩ := bcellB hb2
  have d10 : w2.cell? ⟨w.heap.size + 1, 0, none⟩ = some (.slice none 0 0) := (hc2 _ _ (by omega)).trans (by go_simp)
  have g10 : w2.frozen? ⟨w.heap.size + 1, 0, none⟩ = false := (hf2 _ _ (by omega)).trans (by go_simp)
  have d11 : w2.cell? ⟨w.heap.size + 1, 1, none⟩ = some (.int .i64 0) := (hc2 _ _ (by omega)).trans (by go_simp)
  have g11 : w2.frozen? ⟨w.heap.size + 1, 1, none⟩ = false := (hf2 _ _ (by omega)).trans (by go_simp)
  have d20 : w2.cell? ⟨w.heap.size + 1 + 1, 0, none⟩ = some (.slice A1 xs.length c1) := (hc2 _ _ (by omega)).trans (by go_simp)
  have g20 : w2.frozen? ⟨w.heap.size + 1 + 1, 0, none⟩ = false := (hf2 _ _ (by omega)).trans (by go_simp)
  have d21 : w2.cell? ⟨w.heap.size + 1 + 1, 1, none⟩ = some (.int .i64 0) := (hc2 _ _ (by omega)).trans (by go_simp)
  have g21 : w2.frozen? ⟨w.heap.size + 1 + 1, 1, none⟩ = false := (hf2 _ _ (by omega)).trans (by go_simp)
  clear hc2 hf2
  have HO2 := Lib.hid hown2
  have HB2 := Lib.hid (HB1'.out.trans (hb2.mono (by omega)))
  clear hown2 hgrow2 hb2
  simp only [Act.put, List.setIfInBounds_toArray, List.set_cons_succ, List.set_cons_zero]
  repeat (first | (refine wpOrd_take (v := ?_) rfl rfl rfl (fun W hW => ?_) ?_; rotate_left; (focus (go_simp; with_reducible rfl)); simp only [Act.put, List.setIfInBounds_toArray, List.set_cons_succ, List.set_cons_zero]) | (refine wpOrd_skip rfl rfl ?_; simp only [Act.put, List.setIfInBounds_toArray, List.set_cons_succ, List.set_cons_zero]))
  refine wpOrd_call rfl rfl rfl ?_
  go_simp
  refine ⟨(Below.refl _ _).setCell (by simp <;> omega) _, ?_⟩
  refine wpOrd_nil ?_
  go_wp2_with fail
  refine bodyPost_ret (v := .tuple #[.agg #[.slice A2 (xs.length + left) c2, .int .i64 0], .int .i64 left, .int .i64 20]) (by simp [results, Try.results15, go_sem, d10, d11]) rfl ⟨A2, c2, by simp, ?_, ?_⟩
  · exact own_mono (ownsRow_setCell_below (ownsRow_setCell_below (ownsRow_setCell_below HO2.out (by simp) _) (by simp) _) (by simp) _) (by omega)
  · exact ((HB2.out.setCell (by simp <;> omega) _).setCell (by simp) _).setCell (by simp) _

set_option maxHeartbeats 1000000 in
theorem refWrite_fits (A : Option Addr) (c : Nat) (xs : List Int) (left : Nat) (D : Option Addr) (n cd : Nat) (bs : List Int) (w : World)
    (hA : Rd w .u8 A xs.length xs) (hlt : n ≤ left) (hm : left ≤ 9223372036854775807) (hb : Rd w .u8 D n bs) (hn : n ≤ cd) (hbd : xs.length + n ≤ 1000000) :
    Calls Try.prog 15 #[.agg #[.slice A xs.length c, .int .i64 left], .slice D n cd] w fun e w' =>
      ∃ A' c', e = .returned (.tuple #[.agg #[.slice A' (xs.length + n) c', .int .i64 (left - n : Int)], .int .i64 n, .int .i64 0]) ∧
        w'.ownsRow w.heap.size 5 1 (.slice A' (xs.length + n) c') (xs.length + n) (xs.map (Value.int .u8) ++ (bs.take n).map (Value.int .u8)) ∧ Below w.heap.size w w' := by
  obtain ⟨i0, hi, hz0, hz1, hz2⟩ := info_parts Try.info5
  have HA := Lib.hid hA
  have HB := Lib.hid hb
  clear hA hb
  have hlt' : ¬ (left : Int) < (n : Int) := by omega
  have hle : (n : Int) ≤ (cd : Int) := by omega
  go_enter Try.func15, Try.ntmps15
  go_wp2_with (at_builtin; refine wpList_append_fresh _ rfl (.tmp 20) (.tmp 22) 22 rfl (w.heap.size + 1 + 1 + 1) 5 i0 (.int .u8 0) 1 1 Try.underlying22 hi hz0 hz1 hz2 rfl (by decide) (.slice none 0 0) 0 [] rfl (World.ownsRow_nil _ _ _ _) A xs.length c (xs.map (Value.int .u8)) rfl (by simp) (cells_of_rd (HA.out.below (by repeat (first | exact Below.refl _ _ | refine Below.drew ?_ | refine Below.alloc ?_ (by simp <;> omega) _ | refine Below.setCell ?_ (by simp <;> omega) _)))) (u8_oneCell _) (by unfold maxLen; omega) (by omega) (by simp <;> omega) ?_; intro v' w1 hown1 hgrow1 hfr1; simp only [Nat.zero_add, List.nil_append] at hown1; obtain ⟨A1, c1, rfl⟩ := own_form hown1; have hb1 := below_of_grown hgrow1; obtain ⟨hc1, hf1⟩ := bcell hb1; have hsz1 := hb1.size; simp at hsz1; have c10 : w1.cell? ⟨w.heap.size + 1, 0, none⟩ = some (.slice none 0 0) := (hc1 _ _ (by simp <;> omega)).trans (by go_simp); have f10 : w1.frozen? ⟨w.heap.size + 1, 0, none⟩ = false := (hf1 _ _ (by simp <;> omega)).trans (by go_simp); have c11 : w1.cell? ⟨w.heap.size + 1, 1, none⟩ = some (.int .i64 0) := (hc1 _ _ (by simp <;> omega)).trans (by go_simp); have f11 : w1.frozen? ⟨w.heap.size + 1, 1, none⟩ = false := (hf1 _ _ (by simp <;> omega)).trans (by go_simp); have c20 : w1.cell? ⟨w.heap.size + 1 + 1, 0, none⟩ = some (.slice none 0 0) := (hc1 _ _ (by simp <;> omega)).trans (by go_simp); have f20 : w1.frozen? ⟨w.heap.size + 1 + 1, 0, none⟩ = false := (hf1 _ _ (by simp <;> omega)).trans (by go_simp); have c21 : w1.cell? ⟨w.heap.size + 1 + 1, 1, none⟩ = some (.int .i64 ((left : Int) - (n : Int))) := (hc1 _ _ (by simp <;> omega)).trans (by go_simp); have f21 : w1.frozen? ⟨w.heap.size + 1 + 1, 1, none⟩ = false := (hf1 _ _ (by simp <;> omega)).trans (by go_simp); clear hc1 hf1; have HO1 := Lib.hid hown1; have HG1 := Lib.hid hb1; have HB1 : Hid (Below w.heap.size w w1) := Below.trans (by repeat (first | exact Below.refl _ _ | refine Below.drew ?_ | refine Below.alloc ?_ (by simp <;> omega) _ | refine Below.setCell ?_ (by simp <;> omega) _)) (hb1.mono (by simp <;> omega)); clear hown1 hgrow1 hfr1 hb1)
  refine wp_region_ordB w.heap.size [0, 2, 3, 4, 1, 5, 6, 7] [1, 5, 7] (by kernel_rfl) (by kernel_rfl) (by kernel_rfl) panic_put (by kernel_rfl) ?_
  repeat (first | (refine wpOrd_take (v := ?_) rfl rfl rfl (fun W hW => ?_) ?_; rotate_left; (focus (go_simp; with_reducible rfl)); simp only [Act.put, List.setIfInBounds_toArray, List.set_cons_succ, List.set_cons_zero]) | (refine wpOrd_skip rfl rfl ?_; simp only [Act.put, List.setIfInBounds_toArray, List.set_cons_succ, List.set_cons_zero]))
  refine wpOrd_call rfl rfl rfl ?_
  go_simp
  refine ⟨Below.refl _ _, ?_⟩
  refine wpOrd_step rfl rfl ?_
  have HO1' := Lib.hid (ownsRow_setCell_below HO1.out (a := ⟨w.heap.size + 1 + 1, 0, none⟩) (by simp) (.slice A1 xs.length c1)).drew
  have HB1' := Lib.hid ((HB1.out.setCell (p := ⟨w.heap.size + 1 + 1, 0, none⟩) (by simp <;> omega) (.slice A1 xs.length c1)).drew)
  refine step_append_own rfl (.tmp 26) (.tmp 29) 22 rfl (w.heap.size + 1 + 1 + 1) 5 i0 (.int .u8 0) 1 1 Try.underlying22 hi hz0 hz1 hz2 rfl (by decide) (.slice A1 xs.length c1) xs.length (xs.map (Value.int .u8)) (by simp [Act.eval]) HO1'.out D n cd ((bs.take n).map (Value.int .u8)) (by simp [Act.eval]) (by simpa using (HB.out.front (Nat.le_refl n)).1) (cells_of_rd ((HB.out.front (Nat.le_refl n)).below HB1'.out)) (u8_oneCell _) (by unfold maxLen; omega) (by omega) (by simpa [World.setCell] using hsz1) ?_
  intro v' w2 hown2 hgrow2 _
  obtain ⟨A2, c2, rfl⟩ := own_form hown2
  have hb2 : Below (w.heap.size + 1 + 1 + 1) (w1.setCell ⟨w.heap.size + 1 + 1, 0, none⟩ (.slice A1 xs.length c1)).drew w2 :=
    (Below.refl _ _).grown hgrow2 (by simpa [World.setCell] using hsz1) (fun j hj => (HO1'.out.lt j hj).1)
  refine ⟨hb2.mono (by omega), ?_⟩
  obtain ⟨hc2, hf2⟩ := bcellB hb2
  have d10 : w2.cell? ⟨w.heap.size + 1, 0, none⟩ = some (.slice none 0 0) := (hc2 _ _ (by omega)).trans (by go_simp)
  have g10 : w2.frozen? ⟨w.heap.size + 1, 0, none⟩ = false := (hf2 _ _ (by omega)).trans (by go_simp)
  have d11 : w2.cell? ⟨w.heap.size + 1, 1, none⟩ = some (.int .i64 0) := (hc2 _ _ (by omega)).trans (by go_simp)
  have g11 : w2.frozen? ⟨w.heap.size + 1, 1, none⟩ = false := (hf2 _ _ (by omega)).trans (by go_simp)
  have d20 : w2.cell? ⟨w.heap.size + 1 + 1, 0, none⟩ = some (.slice A1 xs.length c1) := (hc2 _ _ (by omega)).trans (by go_simp)
  have g20 : w2.frozen? ⟨w.heap.size + 1 + 1, 0, none⟩ = false := (hf2 _ _ (by omega)).trans (by go_simp)
  have d21 : w2.cell? ⟨w.heap.size + 1 + 1, 1, none⟩ = some (.int .i64 ((left : Int) - (n : Int))) := (hc2 _ _ (by omega)).trans (by go_simp)
  have g21 : w2.frozen? ⟨w.heap.size + 1 + 1, 1, none⟩ = false := (hf2 _ _ (by omega)).trans (by go_simp)
  clear hc2 hf2
  have HO2 := Lib.hid hown2
  have HB2 := Lib.hid (HB1'.out.trans (hb2.mono (by omega)))
  clear hown2 hgrow2 hb2
  simp only [Act.put, List.setIfInBounds_toArray, List.set_cons_succ, List.set_cons_zero]
  repeat (first | (refine wpOrd_take (v := ?_) rfl rfl rfl (fun W hW => ?_) ?_; rotate_left; (focus (go_simp; with_reducible rfl)); simp only [Act.put, List.setIfInBounds_toArray, List.set_cons_succ, List.set_cons_zero]) | (refine wpOrd_skip rfl rfl ?_; simp only [Act.put, List.setIfInBounds_toArray, List.set_cons_succ, List.set_cons_zero]))
  refine wpOrd_call rfl rfl rfl ?_
  go_simp
  refine ⟨(Below.refl _ _).setCell (by simp <;> omega) _, ?_⟩
  refine wpOrd_nil ?_
  go_wp2_with fail
  refine bodyPost_ret (v := .tuple #[.agg #[.slice A2 (xs.length + n) c2, .int .i64 ((left : Int) - (n : Int))], .int .i64 n, .int .i64 0]) (by simp [results, Try.results15, go_sem, d10, d11]) rfl ⟨A2, c2, rfl, ?_, ?_⟩
  · exact own_mono (ownsRow_setCell_below (ownsRow_setCell_below (ownsRow_setCell_below HO2.out (by simp) _) (by simp) _) (by simp) _) (by omega)
  · exact ((HB2.out.setCell (by simp <;> omega) _).setCell (by simp) _).setCell (by simp) _

end Go.Proofs.Yteejjgnpjkldiaa
