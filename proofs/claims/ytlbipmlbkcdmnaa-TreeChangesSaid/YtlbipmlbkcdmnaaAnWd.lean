/-
  The walk of the law TreeChanges, for nodes and texts as great as an argument may be.
-/
import Derived.Test.YtlbipmlbkcdmnaaAmWd
namespace Go.Proofs.Ytlbipmlbkcdmnaa
open Go.RowKit Go.Shelf

set_option maxRecDepth 100000 in
set_option maxHeartbeats 8000000 in
theorem changes_walk {A : Option Addr} {n c : Nat} {ns : List Nd} {ss : List Sn} (x : Nd) (s : Sn) (str : List UInt8) {Ac : Option Addr} {nc cc : Nat} {bs : List Int} {k : Int} (w : World)
    (hN : Nodes w A ns) (hL : Like w ns ss) (hl : n = ns.length) (hnil : A = none → n = 0) (hn : n ≤ 2199023255488) (hss : ∀ t ∈ ss, t.path.length ≤ 140737488355328 ∧ t.data.length ≤ 140737488355328 ∧ t.link.length ≤ 140737488355328)
    (hx : NdAt w x s) (hxs : s.path.length ≤ 140737488355328 ∧ s.data.length ≤ 140737488355328) (hstr : str.length ≤ 140737488355328)
    (hc : Rd w .u8 Ac nc bs) (hr : ∀ x ∈ bs, 0 ≤ x ∧ x < 256) (hnc : nc ≤ 9223372036854775807) (hk0 : 0 ≤ k) (hk : k < 256) :
    Calls Try.prog 5 #[.slice A n c, .agg x.cells.toArray, .string ⟨str.toArray⟩, .slice Ac nc cc, .int .u8 k] w fun e w' => e = .returned (.bool true) ∧ Below w.heap.size w w' := by
  obtain ⟨wa, hwa⟩ : ∃ wa, wa = w.alloc (.cells x.cells.toArray 31) := ⟨_, rfl⟩
  have hba : Below w.heap.size w wa := by rw [hwa]; exact (Below.refl _ _).alloc (Nat.le_refl _) _
  have hka : wa.heap[w.heap.size]? = some (.cells x.cells.toArray 31 (0, 0)) := by rw [hwa]; exact heap_alloc_new _ _
  have hga := (Array.getElem?_eq_some_iff.1 hka).1
  unfold Nd.cells at hka hwa ⊢
  obtain ⟨d0, d1, d2, d3⟩ := node_cells hka
  have hxl : x.len = s.data.length := hx.2.2.2.1.1.symm
  have hxp : x.path = s.path := hx.1
  have hwt : ∀ (j : Nat) (z : Nd), ns[j]? = some z → z.path.length ≤ 140737488355328 ∧ z.len ≤ 140737488355328 ∧ z.link.length ≤ 140737488355328 := fun j z hz => by
    have hj := (List.getElem?_eq_some_iff.1 hz).1
    have ht : ss[j]? = some (ss[j]'(by rw [← hL.1]; exact hj)) := List.getElem?_eq_getElem _
    have h1 := hL.2 j z _ hz ht
    have h2 := hss _ (List.mem_of_getElem? ht)
    rw [h1.1, h1.2.2.1, ← h1.2.2.2.1.1]
    exact h2
  have hx1 : x.path.length ≤ 140737488355328 := by rw [hxp]; exact hxs.1
  have hx2 : x.len ≤ 140737488355328 := by rw [hxl]; exact hxs.2
  have hnss : n = ss.length := by rw [hl]; exact hL.1
  have HROW := Lib.hid (show RowOf wa (.slice A n c) ss from ⟨A, c, ns, by rw [hnss], hN.below hba, hL.below hba, fun h => by rw [← hnss]; exact hnil h⟩)
  have HN := Lib.hid (hN.below hba)
  have HL := Lib.hid hl
  have HXA := Lib.hid (hx.below hba)
  have HCA := Lib.hid (hc.below hba)
  have HBA := Lib.hid hba
  have hSh : Short ss := ⟨by omega, fun t ht => by have := (hss t ht).1; omega⟩
  have hShP : Short (putG Sn.path s ss) := Short.put ⟨by omega, fun t ht => by have := (hss t ht).1; omega⟩ (by omega)
  have HNS := Lib.hid hnss
  clear hN hL hl hnil hx hc hba hss hxl hxp hxs hnss
  go_enter Try.func5, Try.ntmps5
  go_wp2_with fail
  rw [← hwa]
  clear hwa
  go_loopw [11, 12, 29, 30, 31, 32, 33, 34, 35, 36, 37, 38, 39, 40, 41, 42, 43, 44, 45, 46, 47, 48, 49, 50, 51, 52, 53, 54, 55, 56] (fun v11 v12 _ _ _ _ _ _ _ _ _ _ _ _ _ _ _ _ _ _ _ _ _ _ _ _ _ _ _ _ wr => ∃ (j : Nat) (mm : Int), j ≤ n ∧ v12 = .int .i64 j ∧ v11 = .int .i64 mm ∧ Below wa.heap.size wa wr) (fun _ v12 _ _ _ _ _ _ _ _ _ _ _ _ _ _ _ _ _ _ _ _ _ _ _ _ _ _ _ _ _ => n - (intOf v12).toNat)
  case atStart =>
    exact ⟨0, _, Nat.zero_le _, rfl, rfl, Below.refl _ _⟩
  case round =>
    obtain ⟨j, mm, hj, rfl, rfl, hbr⟩ := hrel
    by_cases hlt : j < n
    · have hjz : (j : Int) < (n : Int) := by omega
      obtain ⟨z, hz⟩ : ∃ z, ns[j]? = some z := ⟨_, List.getElem?_eq_getElem (by have := HL.out; omega)⟩
      obtain ⟨z1, z2, z3⟩ := hwt j z hz
      rcases HN.out with rfl | ⟨b, off, rfl, hbl2, hcell⟩
      · simp at hz
      have HNQ : ∀ W, Below wa.heap.size wa W → W.cell? ⟨b, off + j * 4, none⟩ = some (.string ⟨z.path.toArray⟩) ∧ W.cell? ⟨b, off + j * 4 + 2, none⟩ = some (.slice z.adr z.len z.cap) ∧ W.cell? ⟨b, off + j * 4 + 3, none⟩ = some (.string ⟨z.link.toArray⟩) := fun W hW => by
        obtain ⟨x0, x1, x2, x3⟩ := hcell j z hz
        exact ⟨(hW.cell (p := ⟨b, off + j * 4, none⟩) hbl2).trans x0, (hW.cell (p := ⟨b, off + j * 4 + 2, none⟩) hbl2).trans x2, (hW.cell (p := ⟨b, off + j * 4 + 3, none⟩) hbl2).trans x3⟩
      have hw1 : IntKind.i64.wrap ((z.path.length : Int) + (z.len : Int)) = (z.path.length : Int) + (z.len : Int) := by rw [IntKind.wrap_i64]; omega
      have hw2 : IntKind.i64.wrap ((z.path.length : Int) + (z.len : Int) + (z.link.length : Int)) = (z.path.length : Int) + (z.len : Int) + (z.link.length : Int) := by rw [IntKind.wrap_i64]; omega
      clear hcell hz HN
      go_wp2_with fail
      refine wp_region_ordV [0, 1, 2, 3, 4, 5, 6, 7, 8, 9, 10, 11, 12, 13, 14, 15, 16, 17, 18, 19, 20, 21, 22] [] (by kernel_rfl) (by kernel_rfl) (by kernel_rfl) (fun d _ _ _ _ h => by cases d <;> exact h) (by kernel_rfl) ?_
      intro WG hWG hBG
      have HBG := Lib.hid (hbr.trans (hBG.mono hbr.size))
      have u0 := fun W (hW : Below WG.heap.size WG W) => (HNQ W (HBG.out.trans (hW.mono HBG.out.size))).1
      have u2 := fun W (hW : Below WG.heap.size WG W) => (HNQ W (HBG.out.trans (hW.mono HBG.out.size))).2.1
      have u3 := fun W (hW : Below WG.heap.size WG W) => (HNQ W (HBG.out.trans (hW.mono HBG.out.size))).2.2
      clear hWG hBG
      repeat (first | (refine wpOrd_take (v := ?_) rfl rfl rfl (fun W hW => ?_) ?_; rotate_left; (focus (go_simp; with_reducible rfl)); simp only [Act.put, List.setIfInBounds_toArray, List.set_cons_succ, List.set_cons_zero]) | (refine wpOrd_skip rfl rfl ?_; simp only [Act.put, List.setIfInBounds_toArray, List.set_cons_succ, List.set_cons_zero]))
      refine wpOrd_nil ?_
      clear u0 u2 u3
      go_wp2_with fail
      go_roundw
      case rel => exact ⟨j + 1, _, by omega, by go_num, rfl, HBG.out⟩
      case measure => simp [intOf]; omega
    · obtain rfl : j = n := by omega
      by_cases h500 : 500 < mm
      · have h5z : (500 : Int) < mm := h500
        go_wp2_with (go_at_call 17; refine (known_any _).mono ?_; rintro e w3 ⟨rfl, hb3⟩)
        go_ret
        exact ⟨rfl, HBA.out.trans ((hbr.trans (hb3.mono hbr.size)).mono HBA.out.size)⟩
      · have h5z : ¬ (500 : Int) < mm := h500
        have hT := fun W (hW : Below wa.heap.size wa W) => tree_row (c := cc) (HCA.out.below hW) hr hnc
        have hP := fun w => path_any k w hk0 hk
        have hps := path_short k
        have hShT := Short.tree bs
        have hlenT := tree_len bs
        have hshT := tree_short bs
        generalize hp : pathOf k = p at hP hps
        generalize treeL bs = tT at hT hShT hlenT hshT
        have hShQ : Short (putG Sn.path { s with path := p } tT) := Short.put ⟨by omega, fun t ht => by have := hshT t ht; omega⟩ (show p.length ≤ _ by omega)
        clear hlenT hshT hr hp
        go_wp2_with (first
          | (go_at_call 17; refine (known_any _).mono ?_; rintro e w3 ⟨rfl, hb3⟩; have hb3' := hbr.trans (hb3.mono hbr.size))
          | (go_at_call 24; refine (hT _ hb3').mono ?_; rintro e w4 ⟨vT, rfl, hrT, hb4⟩; have hb4' := hb3'.trans (hb4.mono hb3'.size); obtain ⟨n0, n1, n2, n3⟩ := node_cells ((hb4'.block _ hga).trans hka))
          | (go_at_call 15; refine (hP _).mono ?_; rintro e w5 ⟨rfl, hb5⟩; have ho5 := (hb5.block w4.heap.size (by simp)).trans (heap_alloc_new w4 (.cells #[.string ⟨x.path.toArray⟩, .int .u8 x.kind, .slice x.adr x.len x.cap, .string ⟨x.link.toArray⟩] 31)); obtain ⟨o0, o1, o2, o3⟩ := node_cells ho5; obtain ⟨f0, f1, f2, f3⟩ := node_frozen ho5))
        obtain ⟨wb, hwb⟩ : ∃ wb, wb = w5.setCell ⟨w4.heap.size, 0, none⟩ (.string ⟨p.toArray⟩) := ⟨_, rfl⟩
        rw [← hwb]
        have hbb : Below w4.heap.size w4 wb := by
          rw [hwb]
          exact (((Below.refl _ w4).alloc (Nat.le_refl _) (.cells #[.string ⟨x.path.toArray⟩, .int .u8 x.kind, .slice x.adr x.len x.cap, .string ⟨x.link.toArray⟩] 31)).trans (hb5.mono (by simp))).setCell (p := ⟨w4.heap.size, 0, none⟩) (Nat.le_refl _) _
        have hkO : wb.heap[w4.heap.size]? = some (.cells #[.string ⟨p.toArray⟩, .int .u8 x.kind, .slice x.adr x.len x.cap, .string ⟨x.link.toArray⟩] 31 (0, 0)) := by rw [hwb]; exact heap_setCell_same _ w4.heap.size 0 _ 31 _ ho5
        have hab : Below wa.heap.size wa wb := hb4'.trans (hbb.mono hb4'.size)
        have hkX := (hab.block _ hga).trans hka
        have hgX := (Array.getElem?_eq_some_iff.1 hkX).1
        have hgO := (Array.getElem?_eq_some_iff.1 hkO).1
        have HXC : ∀ W, Below wb.heap.size wb W → W.cell? ⟨w.heap.size, 0, none⟩ = some (.string ⟨x.path.toArray⟩) ∧ W.cell? ⟨w.heap.size, 1, none⟩ = some (.int .u8 x.kind) ∧ W.cell? ⟨w.heap.size, 2, none⟩ = some (.slice x.adr x.len x.cap) ∧ W.cell? ⟨w.heap.size, 3, none⟩ = some (.string ⟨x.link.toArray⟩) := fun W hW => node_cells ((hW.block _ hgX).trans hkX)
        have HOC := Lib.hid (show ∀ W, Below wb.heap.size wb W → W.cell? ⟨w4.heap.size, 0, none⟩ = some (.string ⟨p.toArray⟩) ∧ W.cell? ⟨w4.heap.size, 1, none⟩ = some (.int .u8 x.kind) ∧ W.cell? ⟨w4.heap.size, 2, none⟩ = some (.slice x.adr x.len x.cap) ∧ W.cell? ⟨w4.heap.size, 3, none⟩ = some (.string ⟨x.link.toArray⟩) from fun W hW => node_cells ((hW.block _ hgO).trans hkO))
        have HR := Lib.hid (HROW.out.below hab)
        have HT := Lib.hid (hrT.below hbb)
        have HXN := Lib.hid (HXA.out.below hab)
        have HYN := Lib.hid (show NdAt wb { x with path := p } { s with path := p } from ⟨rfl, HXN.out.2.1, HXN.out.2.2.1, HXN.out.2.2.2.1, HXN.out.2.2.2.2⟩)
        have HBb := Lib.hid (HBA.out.trans (hab.mono HBA.out.size))
        have HPath := hP
        clear n0 n1 n2 n3 o0 o1 o2 o3 f0 f1 f2 f3 ho5 hb5 hb4 hb3 hb3' hb4' hbr hbb hkO hab hkX hgX hgO hwb hrT hP hT hka hga HROW HXA HCA HBA d0 d1 d2 d3 HN
        generalize w4.heap.size = gO at HOC ⊢
        refine wp_region_ordV [0, 1, 3, 4, 2, 5, 6, 7, 8, 9, 11, 12, 10, 13, 14, 15, 16] [2, 5, 6, 10, 13, 14] (by kernel_rfl) (by kernel_rfl) (by kernel_rfl) (fun d _ _ _ _ h => by cases d <;> exact h) (by kernel_rfl) ?_
        intro WG hWG hBG
        have HBG := Lib.hid (HBb.out.trans (hBG.mono HBb.out.size))
        have u0 := fun W (hW : Below WG.heap.size WG W) => (HXC W (hBG.trans (hW.mono hBG.size))).1
        have u1 := fun W (hW : Below WG.heap.size WG W) => (HXC W (hBG.trans (hW.mono hBG.size))).2.1
        have u2 := fun W (hW : Below WG.heap.size WG W) => (HXC W (hBG.trans (hW.mono hBG.size))).2.2.1
        have u3 := fun W (hW : Below WG.heap.size WG W) => (HXC W (hBG.trans (hW.mono hBG.size))).2.2.2
        have HRG := Lib.hid (HR.out.below hBG)
        have HTG := Lib.hid (HT.out.below hBG)
        have HXG := Lib.hid (HXN.out.below hBG)
        have HYG := Lib.hid (HYN.out.below hBG)
        have HOG := Lib.hid (show ∀ W, Below WG.heap.size WG W → _ from fun W (hW : Below WG.heap.size WG W) => HOC.out W (hBG.trans (hW.mono hBG.size)))
        have HP1 := put_row HRG.out x s HXG.out hSh
        unfold Nd.cells at HP1
        clear hBG hWG HXC
        repeat (first | (refine wpOrd_take (v := ?_) rfl rfl rfl (fun W hW => ?_) ?_; rotate_left; (focus (go_simp; with_reducible rfl)); simp only [Act.put, List.setIfInBounds_toArray, List.set_cons_succ, List.set_cons_zero]) | (refine wpOrd_skip rfl rfl ?_; simp only [Act.put, List.setIfInBounds_toArray, List.set_cons_succ, List.set_cons_zero]))
        refine wpOrd_call rfl rfl rfl ?_
        go_simp
        refine HP1.mono ?_
        rintro e w1 ⟨v1, rfl, hr1, hb1⟩
        refine ⟨hb1, ?_⟩
        have HP2 := refPut_row (HRG.out.below hb1) x s (HXG.out.below hb1) hSh
        unfold Nd.cells at HP2
        repeat (first | (refine wpOrd_take (v := ?_) rfl rfl rfl (fun W hW => ?_) ?_; rotate_left; (focus (go_simp; with_reducible rfl)); simp only [Act.put, List.setIfInBounds_toArray, List.set_cons_succ, List.set_cons_zero]) | (refine wpOrd_skip rfl rfl ?_; simp only [Act.put, List.setIfInBounds_toArray, List.set_cons_succ, List.set_cons_zero]))
        refine wpOrd_call rfl rfl rfl ?_
        go_simp
        refine HP2.mono ?_
        rintro e w2 ⟨v2, rfl, hr2, hb2⟩
        refine ⟨hb2, ?_⟩
        repeat (first | (refine wpOrd_take (v := ?_) rfl rfl rfl (fun W hW => ?_) ?_; rotate_left; (focus (go_simp; with_reducible rfl)); simp only [Act.put, List.setIfInBounds_toArray, List.set_cons_succ, List.set_cons_zero]) | (refine wpOrd_skip rfl rfl ?_; simp only [Act.put, List.setIfInBounds_toArray, List.set_cons_succ, List.set_cons_zero]))
        refine wpOrd_call rfl rfl rfl ?_
        go_simp
        refine (same_row (hr1.below hb2) hr2 (by have := hShP.1; omega)).mono ?_
        rintro e w3 ⟨rfl, hb3⟩
        refine ⟨hb3, ?_⟩
        have hBG3 := hb1.trans ((hb2.trans (hb3.mono hb2.size)).mono hb1.size)
        repeat (first | (refine wpOrd_take (v := ?_) rfl rfl rfl (fun W hW => ?_) ?_; rotate_left; (focus (go_simp; with_reducible rfl)); simp only [Act.put, List.setIfInBounds_toArray, List.set_cons_succ, List.set_cons_zero]) | (refine wpOrd_skip rfl rfl ?_; simp only [Act.put, List.setIfInBounds_toArray, List.set_cons_succ, List.set_cons_zero]))
        refine wpOrd_call rfl rfl rfl ?_
        go_simp
        refine (remove_row (HRG.out.below hBG3) str (by omega) hSh).mono ?_
        rintro e w4 ⟨v4, rfl, hr4, hb4⟩
        refine ⟨hb4, ?_⟩
        have hBG4 := hBG3.trans (hb4.mono hBG3.size)
        repeat (first | (refine wpOrd_take (v := ?_) rfl rfl rfl (fun W hW => ?_) ?_; rotate_left; (focus (go_simp; with_reducible rfl)); simp only [Act.put, List.setIfInBounds_toArray, List.set_cons_succ, List.set_cons_zero]) | (refine wpOrd_skip rfl rfl ?_; simp only [Act.put, List.setIfInBounds_toArray, List.set_cons_succ, List.set_cons_zero]))
        refine wpOrd_call rfl rfl rfl ?_
        go_simp
        refine (refRemove_row (HRG.out.below hBG4) str (by omega) hSh).mono ?_
        rintro e w5 ⟨v5, rfl, hr5, hb5⟩
        refine ⟨hb5, ?_⟩
        repeat (first | (refine wpOrd_take (v := ?_) rfl rfl rfl (fun W hW => ?_) ?_; rotate_left; (focus (go_simp; with_reducible rfl)); simp only [Act.put, List.setIfInBounds_toArray, List.set_cons_succ, List.set_cons_zero]) | (refine wpOrd_skip rfl rfl ?_; simp only [Act.put, List.setIfInBounds_toArray, List.set_cons_succ, List.set_cons_zero]))
        refine wpOrd_call rfl rfl rfl ?_
        go_simp
        refine (same_row (hr4.below hb5) hr5 (by have := (hSh.gone str).1; omega)).mono ?_
        rintro e w6 ⟨rfl, hb6⟩
        refine ⟨hb6, ?_⟩
        have hBG6 := hBG4.trans ((hb5.trans (hb6.mono hb5.size)).mono hBG4.size)
        repeat (first | (refine wpOrd_take (v := ?_) rfl rfl rfl (fun W hW => ?_) ?_; rotate_left; (focus (go_simp; with_reducible rfl)); simp only [Act.put, List.setIfInBounds_toArray, List.set_cons_succ, List.set_cons_zero]) | (refine wpOrd_skip rfl rfl ?_; simp only [Act.put, List.setIfInBounds_toArray, List.set_cons_succ, List.set_cons_zero]))
        refine wpOrd_nil ?_
        have HB6 := Lib.hid (HBG.out.trans (hBG6.mono HBG.out.size))
        have HT6 := Lib.hid (HTG.out.below hBG6)
        have HY6 := Lib.hid (HYG.out.below hBG6)
        have HO6 := Lib.hid (show ∀ W, Below w6.heap.size w6 W → _ from fun W (hW : Below w6.heap.size w6 W) => HOG.out W (hBG6.trans (hW.mono hBG6.size)))
        clear u0 u1 u2 u3 hb1 hb2 hb3 hb4 hb5 hb6 hBG3 hBG4 hBG6 hr1 hr2 hr4 hr5 HP1 HP2 HRG HTG HXG HYG HOG HBG
        go_wp2_with fail
        refine wp_region_ordV [0, 1, 2, 3, 5, 6, 4, 7, 8, 9, 10, 11, 12, 15, 16, 13, 14, 17, 18, 19, 20, 21] [4, 7, 8, 13, 14, 17, 18, 19] (by kernel_rfl) (by kernel_rfl) (by kernel_rfl) (fun d _ _ _ _ h => by cases d <;> exact h) (by kernel_rfl) ?_
        intro WG hWG hBG
        have HBG := Lib.hid (HB6.out.trans (hBG.mono HB6.out.size))
        have u0 := fun W (hW : Below WG.heap.size WG W) => (HO6.out W (hBG.trans (hW.mono hBG.size))).1
        have u1 := fun W (hW : Below WG.heap.size WG W) => (HO6.out W (hBG.trans (hW.mono hBG.size))).2.1
        have u2 := fun W (hW : Below WG.heap.size WG W) => (HO6.out W (hBG.trans (hW.mono hBG.size))).2.2.1
        have u3 := fun W (hW : Below WG.heap.size WG W) => (HO6.out W (hBG.trans (hW.mono hBG.size))).2.2.2
        have HTG := Lib.hid (HT6.out.below hBG)
        have HYG := Lib.hid (HY6.out.below hBG)
        have HP1 := put_row HTG.out _ _ HYG.out hShT
        unfold Nd.cells at HP1
        dsimp only at HP1
        clear hBG hWG HO6 HT6 HY6
        repeat (first | (refine wpOrd_take (v := ?_) rfl rfl rfl (fun W hW => ?_) ?_; rotate_left; (focus (go_simp; with_reducible rfl)); simp only [Act.put, List.setIfInBounds_toArray, List.set_cons_succ, List.set_cons_zero]) | (refine wpOrd_skip rfl rfl ?_; simp only [Act.put, List.setIfInBounds_toArray, List.set_cons_succ, List.set_cons_zero]))
        refine wpOrd_call rfl rfl rfl ?_
        go_simp
        refine HP1.mono ?_
        rintro e w1 ⟨v1, rfl, hr1, hb1⟩
        refine ⟨hb1, ?_⟩
        have HP2 := refPut_row (HTG.out.below hb1) _ _ (HYG.out.below hb1) hShT
        unfold Nd.cells at HP2
        dsimp only at HP2
        repeat (first | (refine wpOrd_take (v := ?_) rfl rfl rfl (fun W hW => ?_) ?_; rotate_left; (focus (go_simp; with_reducible rfl)); simp only [Act.put, List.setIfInBounds_toArray, List.set_cons_succ, List.set_cons_zero]) | (refine wpOrd_skip rfl rfl ?_; simp only [Act.put, List.setIfInBounds_toArray, List.set_cons_succ, List.set_cons_zero]))
        refine wpOrd_call rfl rfl rfl ?_
        go_simp
        refine HP2.mono ?_
        rintro e w2 ⟨v2, rfl, hr2, hb2⟩
        refine ⟨hb2, ?_⟩
        repeat (first | (refine wpOrd_take (v := ?_) rfl rfl rfl (fun W hW => ?_) ?_; rotate_left; (focus (go_simp; with_reducible rfl)); simp only [Act.put, List.setIfInBounds_toArray, List.set_cons_succ, List.set_cons_zero]) | (refine wpOrd_skip rfl rfl ?_; simp only [Act.put, List.setIfInBounds_toArray, List.set_cons_succ, List.set_cons_zero]))
        refine wpOrd_call rfl rfl rfl ?_
        go_simp
        refine (same_row (hr1.below hb2) hr2 (by have := hShQ.1; omega)).mono ?_
        rintro e w3 ⟨rfl, hb3⟩
        refine ⟨hb3, ?_⟩
        have hBG3 := hb1.trans ((hb2.trans (hb3.mono hb2.size)).mono hb1.size)
        repeat (first | (refine wpOrd_take (v := ?_) rfl rfl rfl (fun W hW => ?_) ?_; rotate_left; (focus (go_simp; with_reducible rfl)); simp only [Act.put, List.setIfInBounds_toArray, List.set_cons_succ, List.set_cons_zero]) | (refine wpOrd_skip rfl rfl ?_; simp only [Act.put, List.setIfInBounds_toArray, List.set_cons_succ, List.set_cons_zero]))
        refine wpOrd_call rfl rfl rfl ?_
        go_simp
        refine (HPath _).mono ?_
        rintro e w4 ⟨rfl, hb4⟩
        refine ⟨hb4, ?_⟩
        have hBG4 := hBG3.trans (hb4.mono hBG3.size)
        repeat (first | (refine wpOrd_take (v := ?_) rfl rfl rfl (fun W hW => ?_) ?_; rotate_left; (focus (go_simp; with_reducible rfl)); simp only [Act.put, List.setIfInBounds_toArray, List.set_cons_succ, List.set_cons_zero]) | (refine wpOrd_skip rfl rfl ?_; simp only [Act.put, List.setIfInBounds_toArray, List.set_cons_succ, List.set_cons_zero]))
        refine wpOrd_call rfl rfl rfl ?_
        go_simp
        refine (remove_row (HTG.out.below hBG4) p (by omega) hShT).mono ?_
        rintro e w5 ⟨v5, rfl, hr5, hb5⟩
        refine ⟨hb5, ?_⟩
        have hBG5 := hBG4.trans (hb5.mono hBG4.size)
        repeat (first | (refine wpOrd_take (v := ?_) rfl rfl rfl (fun W hW => ?_) ?_; rotate_left; (focus (go_simp; with_reducible rfl)); simp only [Act.put, List.setIfInBounds_toArray, List.set_cons_succ, List.set_cons_zero]) | (refine wpOrd_skip rfl rfl ?_; simp only [Act.put, List.setIfInBounds_toArray, List.set_cons_succ, List.set_cons_zero]))
        refine wpOrd_call rfl rfl rfl ?_
        go_simp
        refine (HPath _).mono ?_
        rintro e w7 ⟨rfl, hb7⟩
        refine ⟨hb7, ?_⟩
        have hBG7 := hBG5.trans (hb7.mono hBG5.size)
        repeat (first | (refine wpOrd_take (v := ?_) rfl rfl rfl (fun W hW => ?_) ?_; rotate_left; (focus (go_simp; with_reducible rfl)); simp only [Act.put, List.setIfInBounds_toArray, List.set_cons_succ, List.set_cons_zero]) | (refine wpOrd_skip rfl rfl ?_; simp only [Act.put, List.setIfInBounds_toArray, List.set_cons_succ, List.set_cons_zero]))
        refine wpOrd_call rfl rfl rfl ?_
        go_simp
        refine (refRemove_row (HTG.out.below hBG7) p (by omega) hShT).mono ?_
        rintro e w8 ⟨v8, rfl, hr8, hb8⟩
        refine ⟨hb8, ?_⟩
        repeat (first | (refine wpOrd_take (v := ?_) rfl rfl rfl (fun W hW => ?_) ?_; rotate_left; (focus (go_simp; with_reducible rfl)); simp only [Act.put, List.setIfInBounds_toArray, List.set_cons_succ, List.set_cons_zero]) | (refine wpOrd_skip rfl rfl ?_; simp only [Act.put, List.setIfInBounds_toArray, List.set_cons_succ, List.set_cons_zero]))
        refine wpOrd_call rfl rfl rfl ?_
        go_simp
        refine (same_row ((hr5.below hb7).below hb8) hr8 (by have := (hShT.gone p).1; omega)).mono ?_
        rintro e w9 ⟨rfl, hb9⟩
        refine ⟨hb9, ?_⟩
        have hBG9 := hBG7.trans ((hb8.trans (hb9.mono hb8.size)).mono hBG7.size)
        repeat (first | (refine wpOrd_take (v := ?_) rfl rfl rfl (fun W hW => ?_) ?_; rotate_left; (focus (go_simp; with_reducible rfl)); simp only [Act.put, List.setIfInBounds_toArray, List.set_cons_succ, List.set_cons_zero]) | (refine wpOrd_skip rfl rfl ?_; simp only [Act.put, List.setIfInBounds_toArray, List.set_cons_succ, List.set_cons_zero]))
        refine wpOrd_nil ?_
        go_wp2_with fail
        go_ret
        exact ⟨rfl, HBG.out.trans (hBG9.mono HBG.out.size)⟩

end Go.Proofs.Ytlbipmlbkcdmnaa
