/-
  Members laid together, and one behind the other: the law's walk.
-/
import Derived.Test.YtlbipmlbkcdmnaaLcV
import Derived.Test.YtlbipmlbkcdmnaaBtV
namespace Go.Proofs.Ytlbipmlbkcdmnaa
open Go.RowKit Go.Shelf

theorem mems_from {w : World} {A : Option Addr} {n c : Nat} {ms : List Mem} (h : MemsRow w (.slice A n c) ms) (k c' : Nat) (hnc : n ≤ c) : MemsRow w (.slice (if c = k then A else A.map fun x => x.add (k * 18)) (n - k) c') (ms.drop k) := by
  obtain ⟨A', c2, e, h⟩ := h
  injection e with e1 e2 e3
  subst e1
  refine ⟨_, c', by rw [List.length_drop, e2], fun j m hm => ?_⟩
  rw [List.getElem?_drop] at hm
  have hl := (List.getElem?_eq_some_iff.1 hm).1
  obtain ⟨b, off, pv, dv, rfl, e2', e3'⟩ := h (k + j) m hm
  rw [if_neg (by omega)]
  refine ⟨b, off + k * 18, pv, dv, by rw [Option.map_some, Addr.add_lit], e2', fun i x hx => ?_⟩
  have := e3' i x hx
  rw [show off + k * 18 + j * 18 + i = off + (k + j) * 18 + i by omega]
  exact this

theorem one_len {o : Opt} {m : Mem} {ss : List Sn} (h : ∀ s ∈ ss, s.path.length ≤ 100000) (hm : FitsE o m) : (oneV o ss m).1.length ≤ ss.length + 3000 ∧ ∀ s ∈ (oneV o ss m).1, s.path.length ≤ 100000 := by
  rcases one_shape o ss m with e | ⟨s, hs, e⟩
  · rw [e]
    exact ⟨by omega, h⟩
  · rw [e]
    have hw := where_len o.root m.name
    rw [← hs] at hw
    have h1 := hm.root
    have h2 := hm.name
    obtain ⟨h3, h4⟩ := ahead_short o.root s.path
    obtain ⟨h5, h6⟩ := layDirs_short (m := 100000) (aheadL o.root s.path) ss (fun a ha => by have := h4 a ha; omega) h
    refine ⟨?_, fun t ht => ?_⟩
    · have h7 := putG_len Sn.path s (goneL s.path ((aheadL o.root s.path).foldl layDir ss))
      have h8 : (goneL s.path ((aheadL o.root s.path).foldl layDir ss)).length ≤ ((aheadL o.root s.path).foldl layDir ss).length := List.length_filter_le _ _
      unfold layL
      omega
    · unfold layL at ht
      refine putG_bound (m := 100000) (by omega) (fun t ht => ?_) t ht
      exact h6 t (List.mem_filter.1 ht).1

theorem tree_len2 (o : Opt) : ∀ (ms : List Mem) (ss : List Sn), (∀ s ∈ ss, s.path.length ≤ 100000) → (∀ m ∈ ms, FitsE o m) → (treeV o ss ms).length ≤ ss.length + 3000 * ms.length ∧ ∀ s ∈ treeV o ss ms, s.path.length ≤ 100000
  | [], ss, h, _ => ⟨by simp [treeV], h⟩
  | m :: r, ss, h, hf => by
    obtain ⟨h1, h2⟩ := one_len h (hf m (by simp))
    obtain ⟨h3, h4⟩ := tree_len2 o r _ h2 (fun x hx => hf x (List.mem_cons_of_mem _ hx))
    unfold treeV at h3 h4 ⊢
    rw [List.foldl_cons, List.length_cons]
    exact ⟨by omega, h4⟩

set_option maxRecDepth 100000 in
set_option maxHeartbeats 4000000 in
theorem pullOrder_walk {Ac Ad : Option Addr} {nc cc nd cd : Nat} {bs ds : List Int} {k a : Int} (w : World) (hc : Rd w .u8 Ac nc bs) (hrc : ∀ x ∈ bs, 0 ≤ x ∧ x < 256) (hnc : nc ≤ 9223372036854775807)
    (hd : Rd w .u8 Ad nd ds) (hrd : ∀ x ∈ ds, 0 ≤ x ∧ x < 256) (hnd : nd ≤ 9223372036854775807) (hcd : nd ≤ cd) (hk0 : 0 ≤ k) (hk : k < 256) (ha0 : 0 ≤ a) (ha : a < 256) :
    Calls Try.prog 9 #[.slice Ac nc cc, .slice Ad nd cd, .int .u8 k, .int .u8 a] w fun e w' => e = .returned (.bool true) ∧ Below w.heap.size w w' := by
  have HK := pullKnown
  have HH := Lib.hid (fun W (hW : Below w.heap.size w W) i hi hin => member_any (c := cd) (hd.below hW) hrd hnd hcd i hi hin)
  have HT := tree_row (c := cc) hc hrc hnc
  have HOP := Lib.hid (fun W => options_det k W hk0 hk)
  have hor := optV_root k
  have htl := tree_len bs
  have hts := tree_short bs
  generalize treeL bs = t0 at HT htl hts
  generalize optV k = o at HOP hor
  obtain ⟨i0, hi, hzz0, hzz1, hzz2⟩ := info_parts Try.info56
  have HI0 := Lib.hid hi
  have HI1 := Lib.hid hzz0
  have HI2 := Lib.hid hzz1
  have HI3 := Lib.hid hzz2
  clear hc hd hi hzz0 hzz1 hzz2
  go_enter Try.func9, Try.ntmps9
  go_wp2_with fail
  refine HT.mono ?_
  rintro e w1 ⟨tv, rfl, hR1, hb1⟩
  have HR1 := Lib.hid hR1
  have HBW := Lib.hid hb1
  have hw1s := hb1.size
  clear HT hR1 hb1
  go_wp2_with fail
  go_loopw [10, 11, 21, 22, 23, 24, 25, 26, 27, 28, 29, 30, 31, 32, 33, 34, 35, 36] (fun v10 v11 _ _ _ _ _ _ _ _ _ _ _ _ _ _ _ _ wr => ∃ (i : Nat) (ts : List Tri), i ≤ 30 ∧ v11 = .int .i64 i ∧ ts.length ≤ i ∧ wr.ownsRow w1.heap.size 56 18 v10 ts.length (cellsM ts) ∧ (∀ t ∈ ts, MemT wr t.1 t.2.1 t.2.2 ∧ t.1.name.length ≤ 1000 ∧ t.1.link.length ≤ 1000) ∧ Below w1.heap.size w1 wr)
    (fun v10 v11 _ _ _ _ _ _ _ _ _ _ _ _ _ _ _ _ _ => 100 - (intOf v11).toNat)
  case atStart => exact ⟨0, [], by omega, rfl, by simp, World.ownsRow_nil _ _ _ _, by simp, Below.refl _ _⟩
  case round =>
    obtain ⟨i, ts, hi, rfl, hlen, ho, hts, hb⟩ := hrel
    have HO := Lib.hid ho
    have HTS := Lib.hid hts
    have HB := Lib.hid hb
    have hwr := hb.size
    clear ho hts hb
    by_cases hgo : i < nd ∧ i < 24
    · obtain ⟨hkn, hk24⟩ := hgo
      have hkz : (i : Int) < (nd : Int) := by omega
      have hkz2 : (i : Int) < 24 := by omega
      go_wp2_with fail
      refine (HH.out wr (HBW.out.trans (HB.out.mono HBW.out.size)) i (by omega) hkn).mono ?_
      rintro e w5 ⟨m, pv, dv, rfl, hT, hn1, hl1, hb5⟩
      obtain ⟨pA, pn, pc, rfl⟩ := hT.ok.slice
      obtain ⟨dA, dc, rfl, _⟩ := hT.ok.data
      have HT5 := Lib.hid hT
      have HTS5 := Lib.hid (fun t (ht : t ∈ ts) => ((HTS.out t ht).1.below hb5 : MemT w5 t.1 t.2.1 t.2.2))
      have HO5 := Lib.hid (own_below HO.out hb5)
      have HB5 := Lib.hid (HB.out.trans (hb5.mono HB.out.size))
      have HNL := Lib.hid (And.intro hn1 hl1)
      have hw5 : w1.heap.size ≤ w5.heap.size := HB5.out.size
      have hs48 := slice48 m pA dA pn pc m.data.length dc w5
      obtain ⟨A3, c3, rfl⟩ := own_form HO.out
      clear hb5 hT hn1 hl1
      dsimp only
      go_step
      refine wpList_run (.slice (some ⟨w5.heap.size, 0, none⟩) 1 1) (w5.alloc (.cells (memCells m (.slice pA pn pc) (.slice dA m.data.length dc)).toArray 56)) ?_ ?_
      · unfold execOp
        simp only [List.map_toArray, List.map_cons, List.map_nil, Act.eval]
        show (Instr.buildSlice 48 1 #[(0, .agg (memCells m (.slice pA pn pc) (.slice dA m.data.length dc)).toArray)] >>= fun x => pure (Next.value x)).run Try.prog w5 = _
        rw [Sem.run_bind, hs48]
        rfl
      clear hs48
      go_wp2_with (at_builtin; refine wpList_append_own _ rfl _ _ 48 rfl w1.heap.size 56 i0 _ 18 224 Try.underlying48 HI0.out HI1.out HI2.out HI3.out rfl (by decide) (.slice A3 ts.length c3) ts.length (cellsM ts) rfl (HO5.out.alloc _) ⟨_, 0, none⟩ 1 1 (memCells m (.slice pA pn pc) (.slice dA m.data.length dc)) rfl rfl (cells_new _ (memCells m (.slice pA pn pc) (.slice dA m.data.length dc)).toArray 56) (memCells_one _ _ _ _ _ _ _) (by unfold maxLen; omega) (by omega) (by simp; omega) ?_; intro v' w8 hown8 hgrow8 _; rw [show cellsM ts ++ memCells m (.slice pA pn pc) (.slice dA m.data.length dc) = cellsM (ts ++ [(m, .slice pA pn pc, .slice dA m.data.length dc)]) from cellsM_snoc ts (m, .slice pA pn pc, .slice dA m.data.length dc)] at hown8; obtain ⟨A9, c9, rfl⟩ := own_form hown8)
      have hb7 : Below w5.heap.size w5 (w5.alloc (.cells (memCells m (.slice pA pn pc) (.slice dA m.data.length dc)).toArray 56)) := (Below.refl _ _).alloc (Nat.le_refl _) _
      have hfin : ∀ t ∈ ts ++ [(m, .slice pA pn pc, .slice dA m.data.length dc)], MemT w8 t.1 t.2.1 t.2.2 ∧ t.1.name.length ≤ 1000 ∧ t.1.link.length ≤ 1000 := fun t ht => by
        rcases List.mem_append.1 ht with ht | ht
        · exact ⟨((HTS5.out t ht).below hb7).grown (HO5.out.alloc _) hgrow8, (HTS.out t ht).2⟩
        · rw [List.mem_singleton.1 ht]
          exact ⟨(HT5.out.below hb7).grown (HO5.out.alloc _) hgrow8, HNL.out⟩
      have hbf := (HB5.out.alloc HB5.out.size _).grown hgrow8 (by have := HB5.out.size; simp; omega) (fun j e => own_from HO5.out j e)
      go_roundw
      case rel => exact ⟨i + 3, ts ++ [(m, .slice pA pn pc, .slice dA m.data.length dc)], by omega, by go_num, by simp; omega, by simpa using hown8, hfin, hbf⟩
      case measure => simp only [intOf]; omega
    · have hms := mems_row HO.out (fun t ht => (HTS.out t ht).1.ok)
      have hfe : ∀ m ∈ ts.map Prod.fst, FitsE o m := fun m hm => by
        obtain ⟨t, ht, rfl⟩ := List.mem_map.1 hm
        obtain ⟨_, h1, h2⟩ := HTS.out t ht
        exact ⟨by omega, h2, h1⟩
      have hml : (ts.map Prod.fst).length = ts.length := List.length_map ..
      obtain ⟨A3, c3, rfl⟩ := own_form HO.out
      have hcap := own_cap HO.out
      generalize ts.map Prod.fst = ms at hms hfe hml
      have htl2 : (ts.length : Int) + 1 ≤ 31 := by omega
      have hN0 : 0 ≤ a % ((ts.length : Int) + 1) ∧ a % ((ts.length : Int) + 1) < (ts.length : Int) + 1 := ⟨Int.emod_nonneg _ (by omega), Int.emod_lt_of_pos _ (by omega)⟩
      obtain ⟨N, hN⟩ : ∃ N : Nat, a % ((ts.length : Int) + 1) = (N : Int) := ⟨(a % ((ts.length : Int) + 1)).toNat, by omega⟩
      have hNL : N ≤ ts.length := by omega
      have hNz : (N : Int) ≤ (c3 : Int) := by omega
      have hne : ((ts.length : Int) + 1 == 0) = false := by simpa using (show ¬ ((ts.length : Int) + 1 = 0) by omega)
      have hfit : FitsN 0 t0 := ⟨by omega, fun s hs => by have := hts s hs; omega⟩
      have hml100 : ms.length ≤ 100 := by omega
      have htk := mems_take hms N c3 (by omega)
      obtain ⟨⟨xt, xr⟩, hxab⟩ : ∃ x, extractV o t0 ms = x := ⟨_, rfl⟩
      have HR := Lib.hid (HR1.out.below HB.out)
      have HBR := Lib.hid (HBW.out.trans (HB.out.mono HBW.out.size))
      have HMS := Lib.hid hms
      have HTKX := Lib.hid htk
      have hfin1 : (extractV o (extractV o t0 (ms.take N)).1 (ms.drop N)).1 = xt := by rw [extract_tree, extract_tree, ← tree_append, List.take_append_drop, ← extract_tree, hxab]
      have hfin2 : xr.length = (extractV o t0 (ms.take N)).2.length + (extractV o (extractV o t0 (ms.take N)).1 (ms.drop N)).2.length := by
        rw [extract_bad, extract_bad, extract_tree, ← bad_append, List.take_append_drop, ← extract_bad, hxab]
      have hq1 : (extractV o (extractV o t0 (ms.take N)).1 (ms.drop N)).2.length ≤ 100 := by rw [extract_bad]; have := bad_le o (ms.drop N) (extractV o t0 (ms.take N)).1; rw [List.length_drop] at this; omega
      have hq2 : (extractV o t0 (ms.take N)).2.length ≤ 100 := by rw [extract_bad]; have := bad_le o (ms.take N) t0; rw [List.length_take] at this; omega
      have hp0 : ∀ s ∈ t0, s.path.length ≤ 100000 := fun s hs => by have := hts s hs; omega
      have hfit2 : FitsN 0 (extractV o t0 (ms.take N)).1 := by
        rw [extract_tree]
        obtain ⟨h1, h2⟩ := tree_len2 o (ms.take N) t0 hp0 (fun m hm => hfe m (List.mem_of_mem_take hm))
        rw [List.length_take] at h1
        exact ⟨by omega, h2⟩
      have hxlen : xt.length ≤ 1000000 := by
        have h1 := (tree_len2 o ms t0 hp0 hfe).1
        rw [← extract_tree, hxab] at h1
        have : xt.length ≤ t0.length + 3000 * ms.length := h1
        omega
      clear htk hms hN0
      by_cases hkn : i < nd
      all_goals
        have hkz : (i : Int) < (nd : Int) ∧ ¬ (i : Int) < 24 ∨ ¬ (i : Int) < (nd : Int) := by omega
        rcases hkz with ⟨hkz, hkz2⟩ | hkz
      · go_wp2_with fail
        refine (HOP.out _).mono ?_
        rintro e w2 ⟨rfl, hb2⟩
        have HBa := HBR.out.trans (hb2.mono HBR.out.size)
        go_wp2_with fail
        refine (extract_any (o := o) ((HR.out.below hb2)) (HMS.out.below hb2) hfe hfit hml100).mono ?_
        rintro e w3 ⟨va, ra, rfl, hRa, hOa, hb3⟩
        rw [hxab] at hRa hOa
        have hb23 := hb2.trans (hb3.mono hb2.size)
        have HR3 := Lib.hid (HR.out.below hb23)
        have HM3 := Lib.hid (HMS.out.below hb23)
        have HRa := Lib.hid hRa
        have HBb := Lib.hid (HBR.out.trans (hb23.mono HBR.out.size))
        obtain ⟨Aa, ca, rfl⟩ := own_form hOa
        clear HBa hb2 hb3 hb23 hRa hOa
        dsimp only
        go_upto_region 9 with fail
        refine wp_region_ordV [0, 1, 2, 3, 4, 5, 6, 7, 8, 9, 10, 11] [5, 6] (by kernel_rfl) (by kernel_rfl) (by kernel_rfl) (fun d _ _ _ _ h => by cases d <;> exact h) (by kernel_rfl) ?_
        intro WG hWG hBG
        have HRG := Lib.hid (HR3.out.below hBG)
        have HMG := Lib.hid (HM3.out.below hBG)
        have HaG := Lib.hid (HRa.out.below hBG)
        have HbG := Lib.hid (HBb.out.trans (hBG.mono HBb.out.size))
        clear hBG hWG
        repeat (first | (refine wpOrd_take (v := ?_) rfl rfl rfl (fun W hW => ?_) ?_; rotate_left; (focus (go_simp; with_reducible rfl)); simp only [Act.put, List.setIfInBounds_toArray, List.set_cons_succ, List.set_cons_zero]) | (refine wpOrd_skip rfl rfl ?_; simp only [Act.put, List.setIfInBounds_toArray, List.set_cons_succ, List.set_cons_zero]))
        refine wpOrd_call rfl rfl rfl ?_
        go_simp
        refine (HOP.out _).mono ?_
        rintro e w4 ⟨rfl, hb4⟩
        refine ⟨hb4, ?_⟩
        repeat (first | (refine wpOrd_take (v := ?_) rfl rfl rfl (fun W hW => ?_) ?_; rotate_left; (focus (go_simp; with_reducible rfl)); simp only [Act.put, List.setIfInBounds_toArray, List.set_cons_succ, List.set_cons_zero]) | (refine wpOrd_skip rfl rfl ?_; simp only [Act.put, List.setIfInBounds_toArray, List.set_cons_succ, List.set_cons_zero]))
        refine wpOrd_call rfl rfl rfl ?_
        go_simp
        refine (extract_any (o := o) (HRG.out.below hb4) (mems_take (HMG.out.below hb4) N c3 (by omega)) (fun m hm => hfe m (List.mem_of_mem_take hm)) hfit (by rw [List.length_take]; omega)).mono ?_
        rintro e w5 ⟨vb, rb, rfl, hRb, hOb, hb5⟩
        refine ⟨hb5, ?_⟩
        repeat (first | (refine wpOrd_take (v := ?_) rfl rfl rfl (fun W hW => ?_) ?_; rotate_left; (focus (go_simp; with_reducible rfl)); simp only [Act.put, List.setIfInBounds_toArray, List.set_cons_succ, List.set_cons_zero]) | (refine wpOrd_skip rfl rfl ?_; simp only [Act.put, List.setIfInBounds_toArray, List.set_cons_succ, List.set_cons_zero]))
        refine wpOrd_nil ?_
        have HRb := Lib.hid hRb
        have hb45 := hb4.trans (hb5.mono hb4.size)
        have HM5 := Lib.hid (HMG.out.below hb45)
        have Ha5 := Lib.hid (HaG.out.below hb45)
        have Hb5 := Lib.hid (HbG.out.trans (hb45.mono HbG.out.size))
        obtain ⟨Ab, cb, rfl⟩ := own_form hOb
        clear hRb hOb hb4 hb5 hb45
        go_upto_region 10 with fail
        refine wp_region_ordV [0, 1, 2, 3, 4, 5, 6, 7, 8, 9, 10, 11] [5, 6] (by kernel_rfl) (by kernel_rfl) (by kernel_rfl) (fun d _ _ _ _ h => by cases d <;> exact h) (by kernel_rfl) ?_
        intro WH hWH hBH
        have HRH := Lib.hid (HRb.out.below hBH)
        have HMH := Lib.hid (HM5.out.below hBH)
        have HaH := Lib.hid (Ha5.out.below hBH)
        have HbH := Lib.hid (Hb5.out.trans (hBH.mono Hb5.out.size))
        clear hBH hWH
        repeat (first | (refine wpOrd_take (v := ?_) rfl rfl rfl (fun W hW => ?_) ?_; rotate_left; (focus (go_simp; with_reducible rfl)); simp only [Act.put, List.setIfInBounds_toArray, List.set_cons_succ, List.set_cons_zero]) | (refine wpOrd_skip rfl rfl ?_; simp only [Act.put, List.setIfInBounds_toArray, List.set_cons_succ, List.set_cons_zero]))
        refine wpOrd_call rfl rfl rfl ?_
        go_simp
        refine (HOP.out _).mono ?_
        rintro e w6 ⟨rfl, hb6⟩
        refine ⟨hb6, ?_⟩
        repeat (first | (refine wpOrd_take (v := ?_) rfl rfl rfl (fun W hW => ?_) ?_; rotate_left; (focus (go_simp; with_reducible rfl)); simp only [Act.put, List.setIfInBounds_toArray, List.set_cons_succ, List.set_cons_zero]) | (refine wpOrd_skip rfl rfl ?_; simp only [Act.put, List.setIfInBounds_toArray, List.set_cons_succ, List.set_cons_zero]))
        refine wpOrd_call rfl rfl rfl ?_
        go_simp
        refine (extract_any (o := o) (HRH.out.below hb6) (mems_from (HMH.out.below hb6) N (c3 - N) (by omega)) (fun m hm => hfe m (List.mem_of_mem_drop hm)) hfit2 (by rw [List.length_drop]; omega)).mono ?_
        rintro e w7 ⟨vc, rc, rfl, hRc, hOc, hb7⟩
        refine ⟨hb7, ?_⟩
        repeat (first | (refine wpOrd_take (v := ?_) rfl rfl rfl (fun W hW => ?_) ?_; rotate_left; (focus (go_simp; with_reducible rfl)); simp only [Act.put, List.setIfInBounds_toArray, List.set_cons_succ, List.set_cons_zero]) | (refine wpOrd_skip rfl rfl ?_; simp only [Act.put, List.setIfInBounds_toArray, List.set_cons_succ, List.set_cons_zero]))
        refine wpOrd_nil ?_
        generalize (if c3 = N then A3 else Option.map (fun x => x.add (N * 18)) A3) = XA
        rw [hfin1] at hRc
        have hb67 := hb6.trans (hb7.mono hb6.size)
        have HRc := Lib.hid hRc
        have Ha7 := Lib.hid (HaH.out.below hb67)
        have Hb7 := Lib.hid (HbH.out.trans (hb67.mono HbH.out.size))
        obtain ⟨Ac7, cc7, rfl⟩ := own_form hOc
        generalize (extractV o (extractV o t0 (ms.take N)).1 (ms.drop N)).2.length = q1 at hfin2 hq1
        generalize (extractV o t0 (ms.take N)).2.length = q2 at hfin2 hq2
        have hsw : IntKind.i64.wrap ((q2 : Int) + (q1 : Int)) = (q2 : Int) + (q1 : Int) := by rw [IntKind.wrap_i64]; omega
        have hsq : ((q2 : Int) + (q1 : Int) == (xr.length : Int)) = true := by rw [beq_iff_eq]; omega
        have hsb : ((xr.length : Int) == (xr.length : Int)) = true := by simp
        clear hRc hOc hb6 hb7 hb67 hfin1 hfin2
        go_wp2_with fail
        refine (HK _).mono ?_
        rintro e w8 ⟨rfl, hb8⟩
        go_wp2_with fail
        refine (same_row (Ha7.out.below hb8) (HRc.out.below hb8) (by omega)).mono ?_
        rintro e w9 ⟨rfl, hb9⟩
        have H9 := Lib.hid (Hb7.out.trans ((hb8.trans (hb9.mono hb8.size)).mono Hb7.out.size))
        clear hb8 hb9
        go_wp2_with fail
        go_ret
        exact ⟨rfl, H9.out⟩
      · omega
      · omega
      · go_wp2_with fail
        refine (HOP.out _).mono ?_
        rintro e w2 ⟨rfl, hb2⟩
        have HBa := HBR.out.trans (hb2.mono HBR.out.size)
        go_wp2_with fail
        refine (extract_any (o := o) ((HR.out.below hb2)) (HMS.out.below hb2) hfe hfit hml100).mono ?_
        rintro e w3 ⟨va, ra, rfl, hRa, hOa, hb3⟩
        rw [hxab] at hRa hOa
        have hb23 := hb2.trans (hb3.mono hb2.size)
        have HR3 := Lib.hid (HR.out.below hb23)
        have HM3 := Lib.hid (HMS.out.below hb23)
        have HRa := Lib.hid hRa
        have HBb := Lib.hid (HBR.out.trans (hb23.mono HBR.out.size))
        obtain ⟨Aa, ca, rfl⟩ := own_form hOa
        clear HBa hb2 hb3 hb23 hRa hOa
        dsimp only
        go_upto_region 9 with fail
        refine wp_region_ordV [0, 1, 2, 3, 4, 5, 6, 7, 8, 9, 10, 11] [5, 6] (by kernel_rfl) (by kernel_rfl) (by kernel_rfl) (fun d _ _ _ _ h => by cases d <;> exact h) (by kernel_rfl) ?_
        intro WG hWG hBG
        have HRG := Lib.hid (HR3.out.below hBG)
        have HMG := Lib.hid (HM3.out.below hBG)
        have HaG := Lib.hid (HRa.out.below hBG)
        have HbG := Lib.hid (HBb.out.trans (hBG.mono HBb.out.size))
        clear hBG hWG
        repeat (first | (refine wpOrd_take (v := ?_) rfl rfl rfl (fun W hW => ?_) ?_; rotate_left; (focus (go_simp; with_reducible rfl)); simp only [Act.put, List.setIfInBounds_toArray, List.set_cons_succ, List.set_cons_zero]) | (refine wpOrd_skip rfl rfl ?_; simp only [Act.put, List.setIfInBounds_toArray, List.set_cons_succ, List.set_cons_zero]))
        refine wpOrd_call rfl rfl rfl ?_
        go_simp
        refine (HOP.out _).mono ?_
        rintro e w4 ⟨rfl, hb4⟩
        refine ⟨hb4, ?_⟩
        repeat (first | (refine wpOrd_take (v := ?_) rfl rfl rfl (fun W hW => ?_) ?_; rotate_left; (focus (go_simp; with_reducible rfl)); simp only [Act.put, List.setIfInBounds_toArray, List.set_cons_succ, List.set_cons_zero]) | (refine wpOrd_skip rfl rfl ?_; simp only [Act.put, List.setIfInBounds_toArray, List.set_cons_succ, List.set_cons_zero]))
        refine wpOrd_call rfl rfl rfl ?_
        go_simp
        refine (extract_any (o := o) (HRG.out.below hb4) (mems_take (HMG.out.below hb4) N c3 (by omega)) (fun m hm => hfe m (List.mem_of_mem_take hm)) hfit (by rw [List.length_take]; omega)).mono ?_
        rintro e w5 ⟨vb, rb, rfl, hRb, hOb, hb5⟩
        refine ⟨hb5, ?_⟩
        repeat (first | (refine wpOrd_take (v := ?_) rfl rfl rfl (fun W hW => ?_) ?_; rotate_left; (focus (go_simp; with_reducible rfl)); simp only [Act.put, List.setIfInBounds_toArray, List.set_cons_succ, List.set_cons_zero]) | (refine wpOrd_skip rfl rfl ?_; simp only [Act.put, List.setIfInBounds_toArray, List.set_cons_succ, List.set_cons_zero]))
        refine wpOrd_nil ?_
        have HRb := Lib.hid hRb
        have hb45 := hb4.trans (hb5.mono hb4.size)
        have HM5 := Lib.hid (HMG.out.below hb45)
        have Ha5 := Lib.hid (HaG.out.below hb45)
        have Hb5 := Lib.hid (HbG.out.trans (hb45.mono HbG.out.size))
        obtain ⟨Ab, cb, rfl⟩ := own_form hOb
        clear hRb hOb hb4 hb5 hb45
        go_upto_region 10 with fail
        refine wp_region_ordV [0, 1, 2, 3, 4, 5, 6, 7, 8, 9, 10, 11] [5, 6] (by kernel_rfl) (by kernel_rfl) (by kernel_rfl) (fun d _ _ _ _ h => by cases d <;> exact h) (by kernel_rfl) ?_
        intro WH hWH hBH
        have HRH := Lib.hid (HRb.out.below hBH)
        have HMH := Lib.hid (HM5.out.below hBH)
        have HaH := Lib.hid (Ha5.out.below hBH)
        have HbH := Lib.hid (Hb5.out.trans (hBH.mono Hb5.out.size))
        clear hBH hWH
        repeat (first | (refine wpOrd_take (v := ?_) rfl rfl rfl (fun W hW => ?_) ?_; rotate_left; (focus (go_simp; with_reducible rfl)); simp only [Act.put, List.setIfInBounds_toArray, List.set_cons_succ, List.set_cons_zero]) | (refine wpOrd_skip rfl rfl ?_; simp only [Act.put, List.setIfInBounds_toArray, List.set_cons_succ, List.set_cons_zero]))
        refine wpOrd_call rfl rfl rfl ?_
        go_simp
        refine (HOP.out _).mono ?_
        rintro e w6 ⟨rfl, hb6⟩
        refine ⟨hb6, ?_⟩
        repeat (first | (refine wpOrd_take (v := ?_) rfl rfl rfl (fun W hW => ?_) ?_; rotate_left; (focus (go_simp; with_reducible rfl)); simp only [Act.put, List.setIfInBounds_toArray, List.set_cons_succ, List.set_cons_zero]) | (refine wpOrd_skip rfl rfl ?_; simp only [Act.put, List.setIfInBounds_toArray, List.set_cons_succ, List.set_cons_zero]))
        refine wpOrd_call rfl rfl rfl ?_
        go_simp
        refine (extract_any (o := o) (HRH.out.below hb6) (mems_from (HMH.out.below hb6) N (c3 - N) (by omega)) (fun m hm => hfe m (List.mem_of_mem_drop hm)) hfit2 (by rw [List.length_drop]; omega)).mono ?_
        rintro e w7 ⟨vc, rc, rfl, hRc, hOc, hb7⟩
        refine ⟨hb7, ?_⟩
        repeat (first | (refine wpOrd_take (v := ?_) rfl rfl rfl (fun W hW => ?_) ?_; rotate_left; (focus (go_simp; with_reducible rfl)); simp only [Act.put, List.setIfInBounds_toArray, List.set_cons_succ, List.set_cons_zero]) | (refine wpOrd_skip rfl rfl ?_; simp only [Act.put, List.setIfInBounds_toArray, List.set_cons_succ, List.set_cons_zero]))
        refine wpOrd_nil ?_
        generalize (if c3 = N then A3 else Option.map (fun x => x.add (N * 18)) A3) = XA
        rw [hfin1] at hRc
        have hb67 := hb6.trans (hb7.mono hb6.size)
        have HRc := Lib.hid hRc
        have Ha7 := Lib.hid (HaH.out.below hb67)
        have Hb7 := Lib.hid (HbH.out.trans (hb67.mono HbH.out.size))
        obtain ⟨Ac7, cc7, rfl⟩ := own_form hOc
        generalize (extractV o (extractV o t0 (ms.take N)).1 (ms.drop N)).2.length = q1 at hfin2 hq1
        generalize (extractV o t0 (ms.take N)).2.length = q2 at hfin2 hq2
        have hsw : IntKind.i64.wrap ((q2 : Int) + (q1 : Int)) = (q2 : Int) + (q1 : Int) := by rw [IntKind.wrap_i64]; omega
        have hsq : ((q2 : Int) + (q1 : Int) == (xr.length : Int)) = true := by rw [beq_iff_eq]; omega
        have hsb : ((xr.length : Int) == (xr.length : Int)) = true := by simp
        clear hRc hOc hb6 hb7 hb67 hfin1 hfin2
        go_wp2_with fail
        refine (HK _).mono ?_
        rintro e w8 ⟨rfl, hb8⟩
        go_wp2_with fail
        refine (same_row (Ha7.out.below hb8) (HRc.out.below hb8) (by omega)).mono ?_
        rintro e w9 ⟨rfl, hb9⟩
        have H9 := Lib.hid (Hb7.out.trans ((hb8.trans (hb9.mono hb8.size)).mono Hb7.out.size))
        clear hb8 hb9
        go_wp2_with fail
        go_ret
        exact ⟨rfl, H9.out⟩

end Go.Proofs.Ytlbipmlbkcdmnaa
