/-
  The document's answer for pull: a file's bytes.
-/
import Derived.Test.YtlbipmlbkcdmnaaGreatMerR
namespace Go.Proofs.YtlbipmlbkcdmnaaGreat
open Go.RowKit Go.Shelf

set_option maxRecDepth 100000 in
set_option maxHeartbeats 4000000 in
theorem refCheck_any {w : World} {b off c : Nat} {real : Int} (h0 : w.cell? ⟨b, off, none⟩ = some (.int .i64 1)) (h1 : w.cell? ⟨b, off + 1, none⟩ = some (.int .i64 2)) (hr1 : 1 ≤ real) (hr2 : real ≤ 8) :
    Calls Tryz.prog 86 #[.slice (some ⟨b, off, none⟩) 1 c, .int .i64 2, .int .i64 real] w fun e w' => e = .returned (.int .i64 (if real < 3 then 11 else 0)) ∧ Below w.heap.size w w' := by
  have hreal : real = 1 ∨ real = 2 ∨ real = 3 ∨ real = 4 ∨ real = 5 ∨ real = 6 ∨ real = 7 ∨ real = 8 := by omega
  have hbl := World.block_lt_of_cell? w _ h0
  have H0 := Lib.hid (show ∀ W, Below w.heap.size w W → W.cell? ⟨b, off, none⟩ = some (.int .i64 1) ∧ W.cell? ⟨b, off + 1, none⟩ = some (.int .i64 2) from fun W hW => ⟨(hW.cell (p := ⟨b, off, none⟩) hbl).trans h0, (hW.cell (p := ⟨b, off + 1, none⟩) hbl).trans h1⟩)
  clear h0 h1
  go_enter Tryz.func86, Tryz.ntmps86
  go_wp2_with fail
  go_loopw [7, 8, 9, 19, 20, 21, 22, 23, 24, 25, 26, 27, 28, 29, 30, 31, 32, 33, 34, 35, 36, 37, 38, 39, 40, 41, 42, 43, 44, 45, 46, 47, 48, 49, 50, 51, 52, 53, 54, 55, 56, 57, 58, 59, 60, 61, 62, 63, 64, 65, 66, 67, 68, 69, 70, 71, 72, 73, 74, 75, 76, 77, 78, 79, 80, 81] (fun v7 v8 v9 _ _ _ _ _ _ _ _ _ _ _ _ _ _ _ _ _ _ _ _ _ _ _ _ _ _ _ _ _ _ _ _ _ _ _ _ _ _ _ _ _ _ _ _ _ _ _ _ _ _ _ _ _ _ _ _ _ _ _ _ _ _ _ wr => ((v7 = .int .i64 0 ∧ v8 = .int .i64 0 ∧ v9 = .int .i64 0) ∨ (v8 = .int .i64 2 ∧ v9 = .int .i64 1 ∧ 3 ≤ real)) ∧ Below w.heap.size w wr)
    (fun _ _ v9 _ _ _ _ _ _ _ _ _ _ _ _ _ _ _ _ _ _ _ _ _ _ _ _ _ _ _ _ _ _ _ _ _ _ _ _ _ _ _ _ _ _ _ _ _ _ _ _ _ _ _ _ _ _ _ _ _ _ _ _ _ _ _ _ => 1 - (intOf v9).toNat)
  case atStart => exact ⟨.inl ⟨rfl, rfl, rfl⟩, Below.refl _ _⟩
  case round =>
    obtain ⟨hrel, hb⟩ := hrel
    obtain ⟨m0, m1⟩ := H0.out _ hb
    rcases hrel with ⟨rfl, rfl, rfl⟩ | ⟨rfl, rfl, h3⟩
    · have HUB := Lib.hid (fun W (hW : Below wr.heap.size wr W) => H0.out W (hb.trans (hW.mono hb.size)))
      have HBB := Lib.hid hb
      clear m0 m1 hb
      have h63 : IntKind.i64.wrap (1 + 2) = 3 := by decide
      have h02 : IntKind.i64.wrap (0 + 2) = 2 := by decide
      have h01 : IntKind.i64.wrap (0 + 1) = 1 := by decide
      rcases hreal with rfl | rfl | rfl | rfl | rfl | rfl | rfl | rfl
      all_goals go_upto_region 10 with fail
      all_goals refine wp_region_ordV [0, 1, 2, 3, 4, 5, 6, 7, 8, 9, 10, 11, 12, 13, 14, 15, 16, 17, 18, 19, 20, 21, 22, 23, 24, 25, 26, 27, 28, 29, 30, 31, 32, 33, 34, 35, 36, 37, 38] [] (by kernel_rfl) (by kernel_rfl) (by kernel_rfl) (fun d _ _ _ _ h => by cases d <;> exact h) (by kernel_rfl) ?_
      all_goals intro WG hWG hBG
      all_goals have u0 := fun W (hW : Below WG.heap.size WG W) => (HUB.out W (hBG.trans (hW.mono hBG.size))).1
      all_goals have u1 := fun W (hW : Below WG.heap.size WG W) => (HUB.out W (hBG.trans (hW.mono hBG.size))).2
      all_goals have HBG := Lib.hid (HBB.out.trans (hBG.mono HBB.out.size))
      all_goals clear hWG hBG
      all_goals repeat (first | (refine wpOrd_take (v := ?_) rfl rfl rfl (fun W hW => ?_) ?_; rotate_left; (focus (go_simp; with_reducible rfl)); simp only [Act.put, List.setIfInBounds_toArray, List.set_cons_succ, List.set_cons_zero]) | (refine wpOrd_skip rfl rfl ?_; simp only [Act.put, List.setIfInBounds_toArray, List.set_cons_succ, List.set_cons_zero]))
      all_goals refine wpOrd_nil ?_
      all_goals clear u0 u1
      all_goals have HU := Lib.hid (fun W (hW : Below WG.heap.size WG W) => H0.out W (HBG.out.trans (hW.mono HBG.out.size)))
      all_goals try (go_wp2_with fail; go_ret; exact ⟨rfl, HBG.out⟩)
      all_goals go_upto_region 12 with fail
      all_goals refine wp_region_ordV [0, 1, 2, 3, 4, 5, 6, 7, 8, 9, 10, 11] [] (by kernel_rfl) (by kernel_rfl) (by kernel_rfl) (fun d _ _ _ _ h => by cases d <;> exact h) (by kernel_rfl) ?_
      all_goals intro WT hWT hBT
      all_goals have u0 := fun W (hW : Below WT.heap.size WT W) => (HU.out W (hBT.trans (hW.mono hBT.size))).1
      all_goals have u1 := fun W (hW : Below WT.heap.size WT W) => (HU.out W (hBT.trans (hW.mono hBT.size))).2
      all_goals have HBT := Lib.hid (HBG.out.trans (hBT.mono HBG.out.size))
      all_goals clear hWT hBT
      all_goals repeat (first | (refine wpOrd_take (v := ?_) rfl rfl rfl (fun W hW => ?_) ?_; rotate_left; (focus (go_simp; with_reducible rfl)); simp only [Act.put, List.setIfInBounds_toArray, List.set_cons_succ, List.set_cons_zero]) | (refine wpOrd_skip rfl rfl ?_; simp only [Act.put, List.setIfInBounds_toArray, List.set_cons_succ, List.set_cons_zero]))
      all_goals refine wpOrd_nil ?_
      all_goals obtain ⟨g0, g1⟩ := H0.out _ HBT.out
      all_goals clear u0 u1
      all_goals go_wp2_with fail
      all_goals go_roundw
      all_goals first | exact ⟨.inr ⟨rfl, rfl, by decide⟩, HBT.out⟩ | simp [intOf]
    · go_wp2_with fail
      go_ret
      exact ⟨rfl, hb⟩

end Go.Proofs.YtlbipmlbkcdmnaaGreat

/-
  The document's answer for pull: a file's bytes, its holes.
-/
namespace Go.Proofs.YtlbipmlbkcdmnaaGreat
open Go.RowKit Go.Shelf

set_option maxRecDepth 100000 in
set_option maxHeartbeats 1000000 in
theorem refExpand_bad {w : World} {b off c : Nat} {real : Int} {A : Option Addr} {n dc : Nat} (h0 : w.cell? ⟨b, off, none⟩ = some (.int .i64 1)) (h1 : w.cell? ⟨b, off + 1, none⟩ = some (.int .i64 2)) (hr1 : 1 ≤ real) (hr2 : real < 3) (hn : n = 2) :
    Calls Tryz.prog 76 #[.slice (some ⟨b, off, none⟩) 1 c, .int .i64 real, .slice A n dc] w fun e w' => e = .returned (.tuple #[.slice none 0 0, .int .i64 11]) ∧ Below w.heap.size w w' := by
  subst hn
  have HC := refCheck_any (c := c) h0 h1 hr1 (by omega)
  rw [if_pos hr2] at HC
  go_enter Tryz.func76, Tryz.ntmps76
  go_wp2_with fail
  refine HC.mono ?_
  rintro e w1 ⟨rfl, hb1⟩
  go_wp2_with fail
  go_ret2
  exact ⟨rfl, hb1⟩

def R0 (M : Nat) : List Value := .int .u8 0 :: .int .u8 0 :: .int .u8 0 :: List.replicate M (.int .u8 0)
def R1 (M : Nat) (d0 : Int) : List Value := .int .u8 0 :: .int .u8 d0 :: .int .u8 0 :: List.replicate M (.int .u8 0)
def R2 (M : Nat) (d0 d1 : Int) : List Value := .int .u8 0 :: .int .u8 d0 :: .int .u8 d1 :: List.replicate M (.int .u8 0)

theorem made_R0 (M : Nat) : madeCells #[.int .u8 0] (M + 3) = (R0 M).toArray := by
  have h := made_bytes (M + 3)
  rw [← Array.toArray_toList (xs := madeCells #[.int .u8 0] (M + 3)), h]
  rfl

set_option maxRecDepth 100000 in
set_option maxHeartbeats 4000000 in
theorem refExpand_any {w : World} {b off c : Nat} {M : Nat} {A : Option Addr} {d0 d1 : Int} {dc : Nat} (h0 : w.cell? ⟨b, off, none⟩ = some (.int .i64 1)) (h1 : w.cell? ⟨b, off + 1, none⟩ = some (.int .i64 2)) (hr2 : M ≤ 5) (hd : Rd w .u8 A 2 [d0, d1]) (hdc : 2 ≤ dc) :
    Calls Tryz.prog 76 #[.slice (some ⟨b, off, none⟩) 1 c, .int .i64 ((M + 3 : Nat) : Int), .slice A 2 dc] w fun e w' => ∃ g, e = .returned (.tuple #[.slice (some ⟨g, 0, none⟩) (M + 3) (M + 3), .int .i64 0]) ∧ w.heap.size ≤ g ∧ w'.heap[g]? = some (.cells (R2 M d0 d1).toArray 5 (0, 0)) ∧ Below w.heap.size w w' := by
  have HC := refCheck_any (c := c) (real := ((M + 3 : Nat) : Int)) h0 h1 (by omega) (by omega)
  rw [if_neg (by omega)] at HC
  obtain ⟨i0, hi, hz0, hz1, hz2⟩ := info_parts Tryz.info5
  have hmk := fun W : World => run_makeSlice (P := Tryz.prog) (w := W) 22 5 i0 (.int .u8 0) Tryz.underlying22 hi hz0 .i64 .i64 ((M + 3 : Nat) : Int) ((M + 3 : Nat) : Int) (by omega) (Int.le_refl _) (by rw [hz1]; simp; omega) (by rw [hz2]; simp; omega) (by omega)
  simp only [Int.toNat_natCast, hz1] at hmk
  have hMa : ¬ (1048576 : Int) < ((M + 3 : Nat) : Int) := by omega
  have hMb : (1 : Int) < ((M + 3 : Nat) : Int) := by omega
  have hMc : (2 : Int) < ((M + 3 : Nat) : Int) := by omega
  have HL0 := Lib.hid (World.block_lt_of_cell? w _ h0)
  obtain ⟨ad, rfl, hd0⟩ := hd.2 0 (by omega)
  obtain ⟨ad', hA, hd1⟩ := hd.2 1 (by omega)
  obtain rfl : ad = ad' := by injection hA
  have H0 := Lib.hid (And.intro h0 h1)
  have HD := Lib.hid (show ∀ W, Below w.heap.size w W → ∀ (j : Nat) v, ([.int .u8 d0, .int .u8 d1] : List Value)[j]? = some v → W.cell? (ad.add j) = some v from fun W hW j v hj => by
    match j, hj with
    | 0, hj => cases hj; exact (hW.cell (World.block_lt_of_cell? w _ hd0)).trans hd0
    | 1, hj => cases hj; exact (hW.cell (World.block_lt_of_cell? w _ hd1)).trans hd1)
  clear h0 h1 hd hd0 hd1 hA
  generalize hN : ((M + 3 : Nat) : Int) = N at HC hmk hMa hMb hMc
  have HN := Lib.hid hN
  clear hN
  go_enter Tryz.func76, Tryz.ntmps76
  go_wp2_with fail
  refine HC.mono ?_
  rintro e w1 ⟨rfl, hb1⟩
  clear HC
  have hmk1 := hmk w1
  go_wp2_with fail
  rw [made_R0]
  have hq0 := heap_alloc_new w1 (.cells (R0 M).toArray 5)
  have hqb : Below w1.heap.size w1 (w1.alloc (.cells (R0 M).toArray 5)) := (Below.refl _ _).alloc (Nat.le_refl _) _
  generalize w1.alloc (.cells (R0 M).toArray 5) = W1 at hq0 hqb ⊢
  have hHB := hb1.size
  have HCP := Lib.hid (show ∀ W, Below w1.heap.size w1 W → W.cell? ⟨b, off, none⟩ = some (.int .i64 1) ∧ W.cell? ⟨b, off + 1, none⟩ = some (.int .i64 2) from fun W hW =>
    ⟨((hb1.trans (hW.mono hb1.size)).cell (p := ⟨b, off, none⟩) HL0.out).trans H0.out.1, ((hb1.trans (hW.mono hb1.size)).cell (p := ⟨b, off + 1, none⟩) HL0.out).trans H0.out.2⟩)
  have HC := Lib.hid (show ∀ W, Below w1.heap.size w1 W → ∀ (j : Nat) v, ([.int .u8 d0, .int .u8 d1] : List Value)[j]? = some v → W.cell? (ad.add j) = some v from fun W hW => HD.out W (hb1.trans (hW.mono hb1.size)))
  have HB1 := Lib.hid hb1
  have hG0 : w.heap.size ≤ w1.heap.size := hHB
  clear hmk hmk1 hb1 hHB HD H0 HL0
  have h10 : IntKind.i64.wrap 1 = 1 := by decide
  have h11 : IntKind.i64.wrap 2 = 2 := by decide
  have h12 : IntKind.i64.wrap (1 + 1) = 2 := by decide
  have h01 : IntKind.i64.wrap (0 + 1) = 1 := by decide
  have hb3 : (1 : Int) < ((M + 3 : Nat) : Int) := by omega
  have hb4 : (2 : Int) < ((M + 3 : Nat) : Int) := by omega
  have hb5 : (1 : Int) < (M : Int) + 3 := by omega
  have hb6 : (2 : Int) < (M : Int) + 3 := by omega
  have hb7 : (1 : Int) < (dc : Int) := by omega
  go_loopw [10, 11, 12, 25, 26, 27, 28, 29, 30, 31, 32, 33, 34, 35, 36, 37, 38, 39, 40, 41, 42, 43, 44, 45, 46, 47, 48, 49, 50, 51, 52, 53, 54] (fun v10 v11 _ _ _ _ _ _ _ _ _ _ _ _ _ _ _ _ _ _ _ _ _ _ _ _ _ _ _ _ _ _ _ wr => (v10 = .int .i64 0 ∧ v11 = .int .i64 0 ∧ wr.heap[w1.heap.size]? = some (.cells (R0 M).toArray 5 (0, 0)) ∧ Below w1.heap.size w1 wr) ∨ (v11 = .int .i64 1 ∧ wr.heap[w1.heap.size]? = some (.cells (R2 M d0 d1).toArray 5 (0, 0)) ∧ Below w1.heap.size w1 wr))
    (fun v10 v11 _ _ _ _ _ _ _ _ _ _ _ _ _ _ _ _ _ _ _ _ _ _ _ _ _ _ _ _ _ _ _ _ => 1 - (intOf v11).toNat)
  case atStart => exact .inl ⟨rfl, rfl, hq0, hqb⟩
  case round =>
    rcases hrel with ⟨rfl, rfl, hg, hb⟩ | ⟨rfl, hg, hb⟩
    · go_wp2_with fail
      go_loopw [10, 12, 31, 32, 33, 34, 35, 36, 37, 38, 39, 40, 41, 42, 43, 44, 45, 46, 47, 48, 49, 50, 51, 52, 53, 54] (fun v10 v12 _ _ _ _ _ _ _ _ _ _ _ _ _ _ _ _ _ _ _ _ _ _ _ _ wr => ((v10 = .int .i64 0 ∧ v12 = .int .i64 0 ∧ wr.heap[w1.heap.size]? = some (.cells (R0 M).toArray 5 (0, 0))) ∨ (v10 = .int .i64 1 ∧ v12 = .int .i64 1 ∧ wr.heap[w1.heap.size]? = some (.cells (R1 M d0).toArray 5 (0, 0))) ∨ (v10 = .int .i64 2 ∧ v12 = .int .i64 2 ∧ wr.heap[w1.heap.size]? = some (.cells (R2 M d0 d1).toArray 5 (0, 0)))) ∧ Below w1.heap.size w1 wr)
        (fun v10 v12 _ _ _ _ _ _ _ _ _ _ _ _ _ _ _ _ _ _ _ _ _ _ _ _ _ => 2 - (intOf v12).toNat)
      case atStart => exact ⟨.inl ⟨rfl, rfl, hg⟩, hb⟩
      case round =>
        obtain ⟨hrel, hbq⟩ := hrel
        rcases hrel with ⟨rfl, rfl, hgq⟩ | ⟨rfl, rfl, hgq⟩ | ⟨rfl, rfl, hgq⟩
        · have hu0 := Lib.hid (fun W (hW : Below wr.heap.size wr W) => HC.out W (hbq.trans (hW.mono hbq.size)))
          obtain ⟨g0, g1⟩ := HCP.out _ hbq
          have HGQ := Lib.hid hgq
          have HBQ := Lib.hid hbq
          clear hgq hbq
          go_upto_region 14 with fail
          refine wp_region_ordZ 13 [0, 1, 2, 3, 4, 5, 6, 7, 8, 9, 10, 11, 12, 13] [13] (by kernel_rfl) (by kernel_rfl) (by kernel_rfl) (fun d _ _ _ _ h => by cases d <;> exact h) (by kernel_rfl) ?_
          intro WG hWG hBG
          have hgG : WG.heap[w1.heap.size]? = some (.cells (R0 M).toArray 5 (0, 0)) := by rw [hWG]; exact HGQ.out
          have v0 := fun W (hW : Below WG.heap.size WG W) => (HCP.out W (HBQ.out.trans ((hBG.trans (hW.mono hBG.size)).mono HBQ.out.size))).1
          have v1 : ∀ W, Below WG.heap.size WG W → W.cell? (ad) = some (.int .u8 d0) := fun W hW => by have := hu0.out W (hBG.trans (hW.mono hBG.size)) 0 (.int .u8 d0) rfl; exact this
          have HBG := Lib.hid (HBQ.out.trans (hBG.mono HBQ.out.size))
          have HGG := Lib.hid hgG
          have fz : WG.frozen? ⟨w1.heap.size, 1, none⟩ = false := by
            unfold World.frozen?
            dsimp only
            rw [hgG]
            rfl
          have cz : WG.cell? ⟨w1.heap.size, 1, none⟩ = some (.int .u8 0) := by
            unfold World.cell?
            dsimp only
            rw [hgG]
            rfl
          clear hWG hBG hgG
          repeat (first | (refine wpOrdZ_take (v := ?_) rfl rfl rfl (fun W hW => ?_) ?_; rotate_left; (focus (go_simp; with_reducible rfl)); simp only [Act.put, List.setIfInBounds_toArray, List.set_cons_succ, List.set_cons_zero]) | (refine wpOrdZ_skip rfl rfl ?_; simp only [Act.put, List.setIfInBounds_toArray, List.set_cons_succ, List.set_cons_zero]))
          refine wpOrdZ_call rfl rfl rfl ?_
          go_simp
          refine wpOrdZ_nil ?_
          have hm := heap_setCell_same WG w1.heap.size 1 _ 5 (.int .u8 d0) HGG.out
          have hbs := HBG.out.setCell (p := ⟨w1.heap.size, 1, none⟩) (Nat.le_refl _) (.int .u8 d0)
          clear v0 v1 fz cz
          go_wp2_with fail
          go_roundw
          case rel => exact ⟨.inr (.inl ⟨rfl, rfl, hm⟩), hbs⟩
          case measure => simp [intOf]
        · have hu0 := Lib.hid (fun W (hW : Below wr.heap.size wr W) => HC.out W (hbq.trans (hW.mono hbq.size)))
          obtain ⟨g0, g1⟩ := HCP.out _ hbq
          have HGQ := Lib.hid hgq
          have HBQ := Lib.hid hbq
          clear hgq hbq
          go_upto_region 14 with fail
          refine wp_region_ordZ 13 [0, 1, 2, 3, 4, 5, 6, 7, 8, 9, 10, 11, 12, 13] [13] (by kernel_rfl) (by kernel_rfl) (by kernel_rfl) (fun d _ _ _ _ h => by cases d <;> exact h) (by kernel_rfl) ?_
          intro WG hWG hBG
          have hgG : WG.heap[w1.heap.size]? = some (.cells (R1 M d0).toArray 5 (0, 0)) := by rw [hWG]; exact HGQ.out
          have v0 := fun W (hW : Below WG.heap.size WG W) => (HCP.out W (HBQ.out.trans ((hBG.trans (hW.mono hBG.size)).mono HBQ.out.size))).1
          have v1 : ∀ W, Below WG.heap.size WG W → W.cell? (⟨ad.block, ad.off + 1, none⟩) = some (.int .u8 d1) := fun W hW => by have := hu0.out W (hBG.trans (hW.mono hBG.size)) 1 (.int .u8 d1) rfl; exact this
          have HBG := Lib.hid (HBQ.out.trans (hBG.mono HBQ.out.size))
          have HGG := Lib.hid hgG
          have fz : WG.frozen? ⟨w1.heap.size, 2, none⟩ = false := by
            unfold World.frozen?
            dsimp only
            rw [hgG]
            rfl
          have cz : WG.cell? ⟨w1.heap.size, 2, none⟩ = some (.int .u8 0) := by
            unfold World.cell?
            dsimp only
            rw [hgG]
            rfl
          clear hWG hBG hgG
          repeat (first | (refine wpOrdZ_take (v := ?_) rfl rfl rfl (fun W hW => ?_) ?_; rotate_left; (focus (go_simp; with_reducible rfl)); simp only [Act.put, List.setIfInBounds_toArray, List.set_cons_succ, List.set_cons_zero]) | (refine wpOrdZ_skip rfl rfl ?_; simp only [Act.put, List.setIfInBounds_toArray, List.set_cons_succ, List.set_cons_zero]))
          refine wpOrdZ_call rfl rfl rfl ?_
          go_simp
          refine wpOrdZ_nil ?_
          have hm := heap_setCell_same WG w1.heap.size 2 _ 5 (.int .u8 d1) HGG.out
          have hbs := HBG.out.setCell (p := ⟨w1.heap.size, 2, none⟩) (Nat.le_refl _) (.int .u8 d1)
          clear v0 v1 fz cz
          go_wp2_with fail
          go_roundw
          case rel => exact ⟨.inr (.inr ⟨rfl, rfl, hm⟩), hbs⟩
          case measure => simp [intOf]
        · obtain ⟨g0, g1⟩ := HCP.out _ hbq
          have HGQ := Lib.hid hgq
          have HBQ := Lib.hid hbq
          clear hgq hbq
          go_wp2_with fail
          go_roundw
          case rel => exact .inr ⟨rfl, HGQ.out, HBQ.out⟩
          case measure => simp [intOf]
    · go_wp2_with fail
      go_ret2
      exact ⟨w1.heap.size, rfl, hG0, hg, HB1.out.trans (hb.mono hG0)⟩

end Go.Proofs.YtlbipmlbkcdmnaaGreat

/-
  The document's answer for pull: a file's bytes, whole or with holes.
-/
namespace Go.Proofs.YtlbipmlbkcdmnaaGreat
open Go.RowKit Go.Shelf

theorem rd_block {w : World} {g N : Nat} {xs : List Int} (hg : w.heap[g]? = some (.cells (xs.map (Value.int .u8)).toArray 5 (0, 0))) (hl : N = xs.length) : Rd w .u8 (some ⟨g, 0, none⟩) N xs := by
  refine ⟨by omega, fun j hj => ⟨_, rfl, ?_⟩⟩
  rw [Addr.add_lit, Nat.zero_add]
  unfold World.cell?
  dsimp only
  rw [hg]
  have hj2 : j < xs.length := by omega
  simp [List.getD_eq_getElem?_getD, List.getElem?_eq_getElem hj2]

set_option maxRecDepth 100000 in
set_option maxHeartbeats 4000000 in
theorem refFile_any {w : World} {m : Mem} {pv dv : Value} (hM : MemOk w m pv dv) :
    Calls Tryz.prog 61 #[.agg (memCells m pv dv).toArray] w fun e w' => ∃ A n c, e = .returned (.tuple #[.slice A n c, .int .i64 (fileC m)]) ∧ (fileC m = 0 → (m.holes = false ∧ Value.slice A n c = dv) ∨ (m.holes = true ∧ ∃ g, A = some ⟨g, 0, none⟩ ∧ w.heap.size ≤ g ∧ w'.heap[g]? = some (.cells ((expandL m).map (Value.int .u8)).toArray 5 (0, 0)) ∧ n = (expandL m).length ∧ n ≤ c ∧ n ≤ 4000000000000)) ∧ Below w.heap.size w w' := by
  have h1 := heap_alloc_new w (.cells (memCells m pv dv).toArray 32)
  have hb1 : Below w.heap.size w (w.alloc (.cells (memCells m pv dv).toArray 32)) := (Below.refl _ _).alloc (Nat.le_refl _) _
  generalize hw1 : w.alloc (.cells (memCells m pv dv).toArray 32) = w1 at h1 hb1
  have hM1 := hM.below hb1
  obtain ⟨dA, dc, rfl, hdr, hdc, hdl⟩ := hM1.data
  obtain ⟨pA, pn, pc, rfl⟩ := hM.slice
  have hcell : ∀ j v, (memCells m (.slice pA pn pc) (.slice dA m.data.length dc))[j]? = some v → w1.cell? ⟨w.heap.size, j, none⟩ = some v := fun j v hj => by
    have := row_cells h1 j v hj
    rwa [Addr.add_lit, Nat.zero_add] at this
  have c13 := hcell 13 (.int .i64 m.real) rfl
  have c14 := hcell 14 (.bool m.holes) rfl
  have c15 := hcell 15 (.slice pA pn pc) rfl
  have c17 := hcell 17 (.slice dA m.data.length dc) rfl
  have HB1 := Lib.hid hb1
  have HFC := Lib.hid (show fileC m = if m.holes = true then if m.real < 3 then 11 else 0 else 0 from rfl)
  clear hcell h1 hb1 hM
  generalize fileC m = fc at HFC ⊢
  cases hh : m.holes with
  | false =>
    rw [hh] at c14
    have hfc : fc = 0 := by rw [HFC.out, hh]; rfl
    subst hfc
    clear hdr
    go_enter Tryz.func61, Tryz.ntmps61
    go_wp2_with fail
    go_ret2
    exact ⟨_, _, _, rfl, fun _ => .inl ⟨by trivial, rfl⟩, HB1.out⟩
  | true =>
    rw [hh] at c14
    obtain ⟨⟨b, off, c, hpv, g0, g1⟩, hl2, hr1, hr2⟩ := hM1.parts hh
    injection hpv with hp1 hp2 hp3
    subst hp1 hp2 hp3
    have hfc : fc = if m.real < 3 then 11 else 0 := by rw [HFC.out, hh]; rfl
    clear HFC hM1
    have HHH := Lib.hid hh
    clear hh
    by_cases h3 : m.real < 3
    · rw [if_pos h3] at hfc
      subst hfc
      have HX := refExpand_bad (A := dA) (dc := dc) (c := pc) g0 g1 hr1 h3 hl2
      clear hl2 h3 hr1 hr2 g0 g1 hdr hdc hdl
      go_enter Tryz.func61, Tryz.ntmps61
      go_wp2_with fail
      refine HX.mono ?_
      rintro e w2 ⟨rfl, hb2⟩
      go_wp2_with fail
      go_ret2
      refine ⟨_, _, _, rfl, ?_, HB1.out.trans (hb2.mono HB1.out.size)⟩
      intro h
      exact absurd h (by decide)
    · rw [if_neg h3] at hfc
      subst hfc
      obtain ⟨M, hM⟩ : ∃ M : Nat, m.real = ((M + 3 : Nat) : Int) := ⟨(m.real - 3).toNat, by omega⟩
      rw [hM] at c13
      obtain ⟨d0, d1, hdd⟩ : ∃ d0 d1, m.data = [d0, d1] := by
        match h : m.data, hl2 with
        | [a, b], _ => exact ⟨a, b, rfl⟩
      rw [hdd] at hdr hdc c17
      have hfd2 : expandL m = 0 :: d0 :: d1 :: List.replicate M 0 := by
        unfold expandL
        rw [hdd, hM, Int.toNat_natCast]
        rfl
      have HX := refExpand_any (dc := dc) (c := pc) g0 g1 (M := M) (by omega) hdr hdc
      have HFD := Lib.hid hfd2
      have hMM := Lib.hid (show M ≤ 5 by omega)
      clear hfd2 hdr hl2 hdd hM h3 hr1 hr2
      generalize hN : ((M + 3 : Nat) : Int) = NN at c13 HX
      go_enter Tryz.func61, Tryz.ntmps61
      clear hN
      go_wp2_with fail
      refine HX.mono ?_
      rintro e w2 ⟨g, rfl, hg0, hg, hb2⟩
      have HG := Lib.hid hg
      clear hg HX
      go_wp2_with fail
      go_ret2
      refine ⟨_, _, _, rfl, fun _ => .inr ⟨by trivial, g, rfl, by have := HB1.out.size; omega, ?_, by rw [HFD.out]; simp, Nat.le_refl _, by have := hMM.out; omega⟩, HB1.out.trans (hb2.mono HB1.out.size)⟩
      rw [HFD.out, HG.out]
      unfold R2
      simp

end Go.Proofs.YtlbipmlbkcdmnaaGreat
