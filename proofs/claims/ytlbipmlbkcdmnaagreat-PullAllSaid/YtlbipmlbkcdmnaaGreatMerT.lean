/-
  The document's answer for pull: all members; two rows of refusals.
-/
import Derived.Test.YtlbipmlbkcdmnaaGreatNkV
import Derived.Test.YtlbipmlbkcdmnaaGreatLcV
import Derived.Test.YtlbipmlbkcdmnaaGreatBtV
namespace Go.Proofs.YtlbipmlbkcdmnaaGreat
open Go.RowKit Go.Shelf

theorem zr_num : ∀ u ∈ (Value.agg #[.int .i64 0, .int .u16 0]).cells.toList, NumV u := by
  intro u hu
  simp [Value.cells] at hu
  rcases hu with rfl | rfl
  · exact .inl ⟨_, rfl⟩
  · exact .inr ⟨_, rfl⟩

set_option maxRecDepth 100000 in
set_option maxHeartbeats 4000000 in
theorem refExtract_any {w : World} {v va : Value} {ss : List Sn} {ms : List Mem} {o : Opt} (h : RowOf w v ss) (hM : MemsRow w va ms) (hF : ∀ m ∈ ms, FitsE o m) (hS : FitsN 0 ss) (hn : ms.length ≤ 100) :
    Calls Tryz.prog 9 #[v, va, .agg (optCells o).toArray] w fun e w' => ∃ v' r', e = .returned (.tuple #[v', r']) ∧ RowOf w' v' (extractV o ss ms).1 ∧ w'.ownsRow w.heap.size 66 2 r' (extractV o ss ms).2.length (cellsR (extractV o ss ms).2) ∧ Below w.heap.size w w' := by
  obtain ⟨i56, hi56, hz56⟩ := size56
  obtain ⟨i62, hi62, hz62⟩ := size62
  have h1 := heap_alloc_new w (.cells (optCells o).toArray 40)
  have hb1 : Below w.heap.size w (w.alloc (.cells (optCells o).toArray 40)) := (Below.refl _ _).alloc (Nat.le_refl _) _
  generalize hw1 : w.alloc (.cells (optCells o).toArray 40) = w1 at h1 hb1
  have HR0 := Lib.hid (h.below hb1)
  obtain ⟨Am, cm, rfl, hmem⟩ := hM
  have hkk : ∀ (W : World), Below w1.heap.size w1 W → ∀ j v, (optCells o)[j]? = some v → W.cell? ((⟨w.heap.size, 0, none⟩ : Addr).add j) = some v := fun W hW =>
    row_cells ((hW.block _ (Array.getElem?_eq_some_iff.1 h1).1).trans h1)
  have HK := Lib.hid hkk
  have HMEM := Lib.hid (show ∀ W, Below w.heap.size w W → ∀ (j : Nat) (m : Mem), ms[j]? = some m → ∃ b off pv dv, Am = some ⟨b, off, none⟩ ∧ MemOk W m pv dv ∧ ∀ (i : Nat) (x : Value), (memCells m pv dv)[i]? = some x → W.cell? ⟨b, off + j * 18 + i, none⟩ = some x from fun W hW j m hm => by
    obtain ⟨b, off, pv, dv, k1, k2, k3⟩ := hmem j m hm
    exact ⟨b, off, pv, dv, k1, k2.below hW, fun i x hx => (hW.cell (World.block_lt_of_cell? _ _ (k3 i x hx))).trans (k3 i x hx)⟩)
  have HX := Lib.hid (show extractV o ss ms = ms.zipIdx.foldl (stepV o) (ss, []) from rfl)
  have HB1 := Lib.hid hb1
  have HI62 := Lib.hid hi62
  have HZ62 := Lib.hid hz62
  have HI56 := Lib.hid hi56
  have HZ56 := Lib.hid hz56
  have HS0 := Lib.hid hS
  have HFE := Lib.hid hF
  go_enter Tryz.func9, Tryz.ntmps9
  go_wp2_with fail
  clear hkk hmem hb1 hi56 hz56 hi62 hz62 h1 hS hF h
  clear hw1
  go_loopw [0, 8, 9, 10, 11, 12, 13, 14, 15, 16, 17, 18, 19, 20, 21, 22, 23, 24, 25, 26, 27, 28, 29, 30, 31, 32, 33, 34, 35, 36, 37] (fun v0 v8 v9 _ _ _ _ _ _ _ _ _ _ _ _ _ _ _ _ _ _ _ _ _ _ _ _ _ _ _ _ wr => ∃ (k : Nat) (st : List Sn × List (Nat × Int)), k ≤ ms.length ∧ v9 = .int .i64 k ∧ (ms.zipIdx.take k).foldl (stepV o) (ss, []) = st ∧ RowOf wr v0 st.1 ∧ FitsN k st.1 ∧ st.2.length ≤ k ∧ wr.ownsRow w1.heap.size 66 2 v8 st.2.length (cellsR st.2) ∧ NumsAt wr v8 ∧ Below w1.heap.size w1 wr)
    (fun _ _ v9 _ _ _ _ _ _ _ _ _ _ _ _ _ _ _ _ _ _ _ _ _ _ _ _ _ _ _ _ _ => ms.length - (intOf v9).toNat)
  case atStart => exact ⟨0, (ss, []), Nat.zero_le _, rfl, rfl, HR0.out, HS0.out, Nat.le_refl _, World.ownsRow_nil _ _ _ _, NumsAt.nil _, Below.refl _ _⟩
  case round =>
    obtain ⟨k, st, hk, rfl, hst, hRk, hSk, hlen, hOk, hnu, hbk⟩ := hrel
    by_cases hkz : k < ms.length
    · have hkz' : (k : Int) < (ms.length : Int) := by omega
      obtain ⟨m, hm⟩ : ∃ m, ms[k]? = some m := ⟨_, List.getElem?_eq_getElem hkz⟩
      have hB3 := HB1.out.trans (hbk.mono HB1.out.size)
      obtain ⟨b, off, pv, dv, rfl, hmk, hck⟩ := HMEM.out wr hB3 k m hm
      obtain ⟨pA, pn, pc, rfl⟩ := hmk.slice
      obtain ⟨dA, dc, rfl, _⟩ := hmk.data
      have hfe := HFE.out m (List.mem_of_getElem? hm)
      have HST := Lib.hid (show (ms.zipIdx.take (k + 1)).foldl (stepV o) (ss, []) = stepV o st (m, k) from by
        rw [foldl_take (stepV o) (ss, []) ms.zipIdx (k := k) (x := (m, k)) (by rw [List.getElem?_zipIdx, hm]; simp), hst])
      have HSK := Lib.hid hSk
      have HLEN := Lib.hid hlen
      have HOK := Lib.hid hOk
      have HB3 := Lib.hid hB3
      have HBK := Lib.hid hbk
      have HRK := Lib.hid hRk
      have HMK := Lib.hid hmk
      have HCK := Lib.hid (show ∀ W, Below wr.heap.size wr W → ∀ j v, (memCells m (.slice pA pn pc) (.slice dA m.data.length dc))[j]? = some v → W.cell? ((⟨b, off + k * 18, none⟩ : Addr).add j) = some v from fun W hW j v hj => by rw [Addr.add_lit]; exact (hW.cell (World.block_lt_of_cell? _ _ (hck j v hj))).trans (hck j v hj))
      have HKO := Lib.hid (show ∀ W, Below wr.heap.size wr W → ∀ j v, (optCells o)[j]? = some v → W.cell? ((⟨w.heap.size, 0, none⟩ : Addr).add j) = some v from fun W hW => HK.out W (hbk.trans (hW.mono hbk.size)))
      clear hck hst hSk hOk hB3 hbk hRk hmk hm
      go_upto_region 5 with fail
      refine wp_region_ordV [0, 1, 2, 3, 4, 5, 6, 7, 8, 9, 10, 11] [6] (by kernel_rfl) (by kernel_rfl) (by kernel_rfl) (fun d _ _ _ _ h => by cases d <;> exact h) (by kernel_rfl) ?_
      intro WG hWG hBG
      have HCG := Lib.hid (fun W (hW : Below WG.heap.size WG W) => HCK.out W (hBG.trans (hW.mono hBG.size)))
      have HOG := Lib.hid (fun W (hW : Below WG.heap.size WG W) => HKO.out W (hBG.trans (hW.mono hBG.size)))
      have HONE := Lib.hid (refOne_any (o := o) (m := m) (HRK.out.below hBG) (HMK.out.below hBG) ⟨by have := hfe.root; omega, by have := hfe.link; omega, by have := hfe.name; omega⟩ (show FitsS st.1 from ⟨by have := HSK.out.1; omega, fun s hs => by have := HSK.out.2 s hs; omega⟩))
      have HSN := Lib.hid (HSK.out.one (o := o) (m := m) hfe)
      have hoc := one_code o st.1 m
      have HBG := Lib.hid (HBK.out.trans (hBG.mono HBK.out.size))
      have HOKG := Lib.hid (own_below HOK.out hBG)
      have HNUG := Lib.hid (hnu.below HOK.out hBG)
      clear hnu
      clear hBG hWG hfe
      iterate 4 (first | (refine wpOrd_take (v := ?_) rfl rfl rfl (fun W hW => ?_) ?_; rotate_left; (focus (go_simp; with_reducible rfl)); simp only [Act.put, List.setIfInBounds_toArray, List.set_cons_succ, List.set_cons_zero]) | (refine wpOrd_skip rfl rfl ?_; simp only [Act.put, List.setIfInBounds_toArray, List.set_cons_succ, List.set_cons_zero]))
      refine wpOrd_take (v := .agg (memCells m (.slice pA pn pc) (.slice dA m.data.length dc)).toArray) rfl rfl rfl (fun W hW => exec_load_row 32 _ i56 ⟨b, off + k * 18, none⟩ (memCells m (.slice pA pn pc) (.slice dA m.data.length dc)) HI56.out HZ56.out (agg56 W) rfl (HCG.out W hW)) ?_
      simp only [Act.put, List.setIfInBounds_toArray, List.set_cons_succ, List.set_cons_zero]
      refine wpOrd_take (v := .agg (optCells o).toArray) rfl rfl rfl (fun W hW => exec_load_row 40 _ i62 ⟨w.heap.size, 0, none⟩ (optCells o) HI62.out HZ62.out (agg62 W) rfl (HOG.out W hW)) ?_
      simp only [Act.put, List.setIfInBounds_toArray, List.set_cons_succ, List.set_cons_zero]
      refine wpOrd_call rfl rfl rfl ?_
      go_simp
      refine HONE.out.mono ?_
      rintro e w5 ⟨v5, rfl, hR5, hb5⟩
      refine ⟨hb5, ?_⟩
      repeat (first | (refine wpOrd_take (v := ?_) rfl rfl rfl (fun W hW => ?_) ?_; rotate_left; (focus (go_simp; with_reducible rfl)); simp only [Act.put, List.setIfInBounds_toArray, List.set_cons_succ, List.set_cons_zero]) | (refine wpOrd_skip rfl rfl ?_; simp only [Act.put, List.setIfInBounds_toArray, List.set_cons_succ, List.set_cons_zero]))
      refine wpOrd_nil ?_
      have HB5 := Lib.hid (HBG.out.trans (hb5.mono HBG.out.size))
      have HO5 := Lib.hid (own_below HOKG.out hb5)
      have HN5 := Lib.hid (HNUG.out.below HOKG.out hb5)
      have HR5 := Lib.hid hR5
      obtain ⟨⟨os, oc⟩, hov⟩ : ∃ ov, oneV o st.1 m = ov := ⟨_, rfl⟩
      have hst2 : stepV o st (m, k) = (os, if oc = 0 then st.2 else st.2 ++ [(k, oc)]) := by unfold stepV; dsimp only; rw [hov]
      rw [hov] at HSN HR5 hoc
      rw [hst2] at HST
      rw [hov]
      clear hov hst2 hR5 hb5 HONE HCG HOG
      dsimp only at HSN HR5 hoc ⊢
      obtain ⟨A8, c8, rfl⟩ := own_form HOK.out
      by_cases hz : oc = 0
      · subst hz
        rw [if_pos rfl] at HST
        go_wp2_with fail
        go_roundw
        case rel => exact ⟨k + 1, (os, st.2), by omega, by go_num, HST.out, HR5.out, HSN.out, (by have := HLEN.out; show st.2.length ≤ k + 1; omega), HO5.out, HN5.out, HB5.out⟩
        case measure => simp only [intOf]; omega
      · rw [if_neg hz] at HST
        obtain ⟨i0, hi, hzz0, hzz1, hzz2⟩ := info_parts Tryz.info66
        obtain ⟨hoc0, hoc1⟩ := hoc
        have hwrap : IntKind.u16.wrap oc = oc := by
          simp [IntKind.wrap, IntKind.signed, IntKind.bits]
          omega
        have HNA := Lib.hid (fun O => HN5.out.below HO5.out ((Below.refl w5.heap.size w5).alloc (Nat.le_refl _) O))
        go_wp2_with (at_builtin; refine wpList_append_nums _ rfl _ _ 36 rfl w1.heap.size 66 i0 _ 2 16 Tryz.underlying36 hi hzz0 hzz1 hzz2 rfl (by decide) (.slice A8 st.2.length c8) st.2.length (cellsR st.2) rfl (HO5.out.alloc _) ⟨_, 0, none⟩ 1 1 (encR (k, oc)) rfl rfl (cells_new _ (encR (k, oc)).toArray 66) (encR_one (k, oc)) (by have := HLEN.out; unfold maxLen; omega) (by have := HLEN.out; omega) (by have := HB5.out.size; simp; omega) (by decide) (HNA.out _) zr_num (encR_num (k, oc)) ?_; intro v' w6 hown6 hgrow6 hnum6; rw [cellsR_snoc] at hown6; obtain ⟨A9, c9, rfl⟩ := own_form hown6)
        have hb25 := HB5.out
        go_roundw
        case rel => exact ⟨k + 1, (os, st.2 ++ [(k, oc)]), by omega, by go_num, HST.out, ((HR5.out.below ((Below.refl _ _).alloc (Nat.le_refl _) _)).grownNums (HO5.out.alloc _) (HNA.out _) hgrow6), HSN.out, (by have := HLEN.out; simp; omega), by simpa using hown6, hnum6, (hb25.alloc hb25.size _).grown hgrow6 (by have := hb25.size; simp; omega) (fun j e => own_from HO5.out j e)⟩
        case measure => simp only [intOf]; omega
    · obtain rfl : k = ms.length := by omega
      rw [List.take_of_length_le (by rw [List.length_zipIdx]; omega), ← HX.out] at hst
      have HFIN := Lib.hid (HB1.out.trans (hbk.mono HB1.out.size))
      have HST := Lib.hid hst
      have HRK := Lib.hid hRk
      have HOK := Lib.hid hOk
      clear hst hRk hOk hSk hbk
      go_wp2_with fail
      go_ret2
      rw [HST.out]
      exact ⟨_, _, rfl, HRK.out, own_wider HOK.out (by have := HB1.out.size; omega), HFIN.out⟩

end Go.Proofs.YtlbipmlbkcdmnaaGreat

/-
  The document's answer for pull: two rows of refusals that read alike.
-/
namespace Go.Proofs.YtlbipmlbkcdmnaaGreat
open Go.RowKit Go.Shelf

theorem cellsR_get : ∀ (rs : List (Nat × Int)) (k : Nat) (r : Nat × Int), rs[k]? = some r → (cellsR rs)[k * 2]? = some (.int .i64 r.1) ∧ (cellsR rs)[k * 2 + 1]? = some (.int .u16 r.2)
  | [], k, r, h => by simp at h
  | x :: t, 0, r, h => by
    obtain rfl : x = r := by simpa using h
    exact ⟨rfl, rfl⟩
  | x :: t, k + 1, r, h => by
    have h' : t[k]? = some r := by simpa using h
    obtain ⟨h1, h2⟩ := cellsR_get t k r h'
    have e : cellsR (x :: t) = [.int .i64 x.1, .int .u16 x.2] ++ cellsR t := rfl
    rw [e]
    refine ⟨?_, ?_⟩
    · rw [show (k + 1) * 2 = k * 2 + 2 by omega]
      exact h1
    · rw [show (k + 1) * 2 + 1 = k * 2 + 1 + 2 by omega]
      exact h2

/-- A row of refusals, read. -/
theorem refs_read {w : World} {B : Nat} {v : Value} {rs : List (Nat × Int)} (h : w.ownsRow B 66 2 v rs.length (cellsR rs)) :
    ∃ A c, v = .slice A rs.length c ∧ ∀ W, Below w.heap.size w W → ∀ (k : Nat) (r : Nat × Int), rs[k]? = some r → ∃ g, A = some ⟨g, 0, none⟩ ∧ W.cell? ⟨g, k * 2, none⟩ = some (.int .i64 r.1) ∧ W.cell? ⟨g, k * 2 + 1, none⟩ = some (.int .u16 r.2) := by
  obtain ⟨A, c, rfl⟩ := own_form h
  refine ⟨A, c, rfl, fun W hW k r hr => ?_⟩
  have hk := (List.getElem?_eq_some_iff.1 hr).1
  rcases (own_below h hW).2 with ⟨hv, h0⟩ | ⟨g, cap, cur, hv, hgb, hg, _⟩
  · omega
  · injection hv with hv1 hv2 hv3
    subst hv1
    obtain ⟨h1, h2⟩ := cellsR_get rs k r hr
    have c1 := (own_below h hW).cells (g := g) rfl _ _ h1
    have c2 := (own_below h hW).cells (g := g) rfl _ _ h2
    rw [Addr.add_lit, Nat.zero_add] at c1 c2
    exact ⟨g, rfl, c1, c2⟩

set_option maxRecDepth 100000 in
set_option maxHeartbeats 2000000 in
theorem refSameR_any {w : World} {B B' : Nat} {v v' : Value} {rs : List (Nat × Int)} (h : w.ownsRow B 66 2 v rs.length (cellsR rs)) (h' : w.ownsRow B' 66 2 v' rs.length (cellsR rs)) (hn : rs.length ≤ 1000000) :
    Calls Tryz.prog 11 #[v, v'] w fun e w' => e = .returned (.bool true) ∧ Below w.heap.size w w' := by
  obtain ⟨A, c, rfl, hc⟩ := refs_read h
  obtain ⟨A', c', rfl, hc'⟩ := refs_read h'
  have HC := Lib.hid hc
  have HC' := Lib.hid hc'
  clear h h' hc hc'
  go_enter Tryz.func11, Tryz.ntmps11
  go_wp2_with fail
  go_loopw [5, 11, 12, 13, 14, 15, 16, 17, 18, 19, 20, 21, 22, 23, 24, 25] (fun v5 _ _ _ _ _ _ _ _ _ _ _ _ _ _ _ wr => ∃ k : Nat, k ≤ rs.length ∧ v5 = .int .i64 k ∧ Below w.heap.size w wr)
    (fun v5 _ _ _ _ _ _ _ _ _ _ _ _ _ _ _ _ => rs.length - (intOf v5).toNat)
  case atStart => exact ⟨0, Nat.zero_le _, rfl, Below.refl _ _⟩
  case round =>
    obtain ⟨k, hk, rfl, hb⟩ := hrel
    by_cases hkl : k < rs.length
    · have hkz : (k : Int) < (rs.length : Int) := by omega
      obtain ⟨⟨r1, r2⟩, hr⟩ : ∃ r, rs[k]? = some r := ⟨_, List.getElem?_eq_getElem hkl⟩
      obtain ⟨g, rfl, _, _⟩ := HC.out w (Below.refl _ _) k _ hr
      obtain ⟨g', rfl, _, _⟩ := HC'.out w (Below.refl _ _) k _ hr
      have HR := Lib.hid hr
      have HB := Lib.hid hb
      clear hr hb
      go_upto_region 6 with fail
      refine wp_region_ordV [0, 1, 2, 3, 4, 5, 6, 7, 8] [] (by kernel_rfl) (by kernel_rfl) (by kernel_rfl) (fun d _ _ _ _ h => by cases d <;> exact h) (by kernel_rfl) ?_
      intro WG hWG hBG
      have HBG := Lib.hid (HB.out.trans (hBG.mono HB.out.size))
      clear hWG hBG
      have u0 : ∀ W, Below WG.heap.size WG W → W.cell? ⟨g, k * 2, none⟩ = some (.int .i64 r1) := fun W hW => by
        obtain ⟨g2, e, c1, c2⟩ := HC.out W (HBG.out.trans (hW.mono HBG.out.size)) k _ HR.out
        injection e with e; injection e with e; subst e; exact c1
      have u1 : ∀ W, Below WG.heap.size WG W → W.cell? ⟨g, k * 2 + 1, none⟩ = some (.int .u16 r2) := fun W hW => by
        obtain ⟨g2, e, c1, c2⟩ := HC.out W (HBG.out.trans (hW.mono HBG.out.size)) k _ HR.out
        injection e with e; injection e with e; subst e; exact c2
      have u2 : ∀ W, Below WG.heap.size WG W → W.cell? ⟨g', k * 2, none⟩ = some (.int .i64 r1) := fun W hW => by
        obtain ⟨g2, e, c1, c2⟩ := HC'.out W (HBG.out.trans (hW.mono HBG.out.size)) k _ HR.out
        injection e with e; injection e with e; subst e; exact c1
      have u3 : ∀ W, Below WG.heap.size WG W → W.cell? ⟨g', k * 2 + 1, none⟩ = some (.int .u16 r2) := fun W hW => by
        obtain ⟨g2, e, c1, c2⟩ := HC'.out W (HBG.out.trans (hW.mono HBG.out.size)) k _ HR.out
        injection e with e; injection e with e; subst e; exact c2
      repeat (first | (refine wpOrd_take (v := ?_) rfl rfl rfl (fun W hW => ?_) ?_; rotate_left; (focus (go_simp; with_reducible rfl)); simp only [Act.put, List.setIfInBounds_toArray, List.set_cons_succ, List.set_cons_zero]) | (refine wpOrd_skip rfl rfl ?_; simp only [Act.put, List.setIfInBounds_toArray, List.set_cons_succ, List.set_cons_zero]))
      refine wpOrd_nil ?_
      clear u0 u1 u2 u3
      go_wp2_with fail
      go_roundw
      case rel => exact ⟨k + 1, by omega, by go_num, HBG.out⟩
      case measure => simp only [intOf]; omega
    · obtain rfl : k = rs.length := by omega
      go_wp2_with fail
      go_ret
      exact ⟨rfl, hb⟩

end Go.Proofs.YtlbipmlbkcdmnaaGreat

/-
  What a tree is with members, one behind the other, and which are refused, is what the document says: the law's walk.
-/
namespace Go.Proofs.YtlbipmlbkcdmnaaGreat
open Go.RowKit Go.Shelf

set_option maxRecDepth 100000 in
set_option maxHeartbeats 4000000 in
theorem pullAll_walk {Ac Ad : Option Addr} {nc cc nd cd : Nat} {bs ds : List Int} {k : Int} (w : World) (hc : Rd w .u8 Ac nc bs) (hrc : ∀ x ∈ bs, 0 ≤ x ∧ x < 256) (hnc : nc ≤ 9223372036854775807)
    (hd : Rd w .u8 Ad nd ds) (hrd : ∀ x ∈ ds, 0 ≤ x ∧ x < 256) (hnd : nd ≤ 9223372036854775807) (hcd : nd ≤ cd) (hk0 : 0 ≤ k) (hk : k < 256) :
    Calls Tryz.prog 3 #[.slice Ac nc cc, .slice Ad nd cd, .int .u8 k] w fun e w' => e = .returned (.bool true) ∧ Below w.heap.size w w' := by
  have HK := pullKnown
  have HH := Lib.hid (fun W (hW : Below w.heap.size w W) i hi hin => member_any (c := cd) (hd.below hW) hrd hnd hcd i hi hin)
  have HT := Lib.hid (fun W (hW : Below w.heap.size w W) => tree_row (c := cc) (hc.below hW) hrc hnc)
  have HOP := Lib.hid (fun W => options_det k W hk0 hk)
  have hor := optV_root k
  have htl := tree_len bs
  have hts := tree_short bs
  generalize treeL bs = t0 at HT htl hts
  generalize optV k = o at HOP hor
  obtain ⟨i0, hi, hzz0, hzz1, hzz2⟩ := info_parts Tryz.info32
  have HI0 := Lib.hid hi
  have HI1 := Lib.hid hzz0
  have HI2 := Lib.hid hzz1
  have HI3 := Lib.hid hzz2
  clear hc hd hi hzz0 hzz1 hzz2
  go_enter Tryz.func3, Tryz.ntmps3
  go_wp2_with fail
  refine (HK _).mono ?_
  rintro e w1 ⟨rfl, hb1⟩
  have HBW := Lib.hid hb1
  have hw1s := hb1.size
  clear HK hb1
  go_wp2_with fail
  go_loopw [7, 8, 16, 17, 18, 19, 20, 21, 22, 23, 24, 25, 26, 27, 28, 29, 30, 31] (fun v7 v8 _ _ _ _ _ _ _ _ _ _ _ _ _ _ _ _ wr => ∃ (i : Nat) (ts : List Tri), i ≤ 33 ∧ v8 = .int .i64 i ∧ ts.length ≤ i ∧ wr.ownsRow w1.heap.size 32 18 v7 ts.length (cellsM ts) ∧ (∀ t ∈ ts, MemT wr t.1 t.2.1 t.2.2 ∧ t.1.name.length ≤ 1000 ∧ t.1.link.length ≤ 1000) ∧ Below w1.heap.size w1 wr)
    (fun v7 v8 _ _ _ _ _ _ _ _ _ _ _ _ _ _ _ _ _ => 100 - (intOf v8).toNat)
  case atStart => exact ⟨0, [], by omega, rfl, by simp, World.ownsRow_nil _ _ _ _, by simp, Below.refl _ _⟩
  case round =>
    obtain ⟨i, ts, hi, rfl, hlen, ho, hts, hb⟩ := hrel
    have HO := Lib.hid ho
    have HTS := Lib.hid hts
    have HB := Lib.hid hb
    have hwr := hb.size
    clear ho hts hb
    by_cases hgo : i < nd ∧ i < 30
    · obtain ⟨hkn, hk24⟩ := hgo
      have hkz : (i : Int) < (nd : Int) := by omega
      have hkz2 : (i : Int) < 30 := by omega
      go_wp2_with fail
      refine (HH.out wr (HBW.out.trans (HB.out.mono HBW.out.size)) i (by omega) hkn).mono ?_
      rintro e w5 ⟨m, pv, dv, rfl, hT, hn1, hl1, hb5⟩
      obtain ⟨pA, pn, pc, rfl⟩ := hT.ok.slice
      obtain ⟨dA, dc, rfl, _⟩ := hT.ok.data
      have HT5 := Lib.hid hT
      have HTS5 := Lib.hid (fun t (ht : t ∈ ts) => ((HTS.out t ht).1.below hb5 : MemT w5 t.1 t.2.1 t.2.2))
      have HO5 := Lib.hid (own_below HO.out hb5)
      have HB5 := Lib.hid (HB.out.trans (hb5.mono HB.out.size))
      have HNL := Lib.hid (And.intro hn1 hl1)
      have hw5 : w1.heap.size ≤ w5.heap.size := HB5.out.size
      have hs48 := slice48 m pA dA pn pc m.data.length dc w5
      obtain ⟨A3, c3, rfl⟩ := own_form HO.out
      clear hb5 hT hn1 hl1
      dsimp only
      go_step
      refine wpList_run (.slice (some ⟨w5.heap.size, 0, none⟩) 1 1) (w5.alloc (.cells (memCells m (.slice pA pn pc) (.slice dA m.data.length dc)).toArray 32)) ?_ ?_
      · unfold execOp
        simp only [List.map_toArray, List.map_cons, List.map_nil, Act.eval]
        show (Instr.buildSlice 24 1 #[(0, .agg (memCells m (.slice pA pn pc) (.slice dA m.data.length dc)).toArray)] >>= fun x => pure (Next.value x)).run Tryz.prog w5 = _
        rw [Sem.run_bind, hs48]
        rfl
      clear hs48
      go_wp2_with (at_builtin; refine wpList_append_own _ rfl _ _ 24 rfl w1.heap.size 32 i0 _ 18 224 Tryz.underlying24 HI0.out HI1.out HI2.out HI3.out rfl (by decide) (.slice A3 ts.length c3) ts.length (cellsM ts) rfl (HO5.out.alloc _) ⟨_, 0, none⟩ 1 1 (memCells m (.slice pA pn pc) (.slice dA m.data.length dc)) rfl rfl (cells_new _ (memCells m (.slice pA pn pc) (.slice dA m.data.length dc)).toArray 32) (memCells_one _ _ _ _ _ _ _) (by unfold maxLen; omega) (by omega) (by simp; omega) ?_; intro v' w8 hown8 hgrow8 _; rw [show cellsM ts ++ memCells m (.slice pA pn pc) (.slice dA m.data.length dc) = cellsM (ts ++ [(m, .slice pA pn pc, .slice dA m.data.length dc)]) from cellsM_snoc ts (m, .slice pA pn pc, .slice dA m.data.length dc)] at hown8; obtain ⟨A9, c9, rfl⟩ := own_form hown8)
      have hb7 : Below w5.heap.size w5 (w5.alloc (.cells (memCells m (.slice pA pn pc) (.slice dA m.data.length dc)).toArray 32)) := (Below.refl _ _).alloc (Nat.le_refl _) _
      have hfin : ∀ t ∈ ts ++ [(m, .slice pA pn pc, .slice dA m.data.length dc)], MemT w8 t.1 t.2.1 t.2.2 ∧ t.1.name.length ≤ 1000 ∧ t.1.link.length ≤ 1000 := fun t ht => by
        rcases List.mem_append.1 ht with ht | ht
        · exact ⟨((HTS5.out t ht).below hb7).grown (HO5.out.alloc _) hgrow8, (HTS.out t ht).2⟩
        · rw [List.mem_singleton.1 ht]
          exact ⟨(HT5.out.below hb7).grown (HO5.out.alloc _) hgrow8, HNL.out⟩
      have hbf := (HB5.out.alloc HB5.out.size _).grown hgrow8 (by have := HB5.out.size; simp; omega) (fun j e => own_from HO5.out j e)
      go_roundw
      case rel => exact ⟨i + 3, ts ++ [(m, .slice pA pn pc, .slice dA m.data.length dc)], by omega, by go_num, by simp; omega, by simpa using hown8, hfin, hbf⟩
      case measure => simp only [intOf]; omega
    · have hms := mems_row HO.out (fun t ht => (HTS.out t ht).1.ok)
      have hfe : ∀ m ∈ ts.map Prod.fst, FitsE o m := fun m hm => by
        obtain ⟨t, ht, rfl⟩ := List.mem_map.1 hm
        obtain ⟨_, h1, h2⟩ := HTS.out t ht
        exact ⟨by omega, h2, h1⟩
      have hml : (ts.map Prod.fst).length = ts.length := List.length_map ..
      obtain ⟨A3, c3, rfl⟩ := own_form HO.out
      generalize ts.map Prod.fst = ms at hms hfe hml
      have hfit : FitsN 0 t0 := ⟨by omega, fun s hs => by have := hts s hs; omega⟩
      have hml100 : ms.length ≤ 100 := by omega
      have hxl : (extractV o t0 ms).1.length ≤ 1000000000000 := by
        have := (tree_fits o ms 0 t0 hfit hfe).1
        rw [extract_tree]
        omega
      have hxr : (extractV o t0 ms).2.length ≤ 1000000 := by
        have := bad_le o ms t0
        rw [extract_bad]
        omega
      have HMS := Lib.hid hms
      clear hms
      by_cases hkn : i < nd
      all_goals
        have hkz : (i : Int) < (nd : Int) ∧ ¬ (i : Int) < 30 ∨ ¬ (i : Int) < (nd : Int) := by omega
        rcases hkz with ⟨hkz, hkz2⟩ | hkz
      · go_wp2_with fail
        refine (HT.out wr (HBW.out.trans (HB.out.mono HBW.out.size))).mono ?_
        rintro e w2 ⟨tv, rfl, hR2, hb2⟩
        have HR2 := Lib.hid hR2
        have HMS2 := Lib.hid (HMS.out.below hb2)
        have HB2 := Lib.hid ((HBW.out.trans (HB.out.mono HBW.out.size)).trans (hb2.mono (HBW.out.trans (HB.out.mono HBW.out.size)).size))
        clear hR2 hb2
        go_wp2_with fail
        refine (HOP.out w2).mono ?_
        rintro e w3 ⟨rfl, hb3⟩
        have HR3 := Lib.hid (HR2.out.below hb3)
        have HMS3 := Lib.hid (HMS2.out.below hb3)
        have HB3 := Lib.hid (HB2.out.trans (hb3.mono HB2.out.size))
        clear hb3
        go_wp2_with fail
        refine (extract_any (o := o) HR3.out HMS3.out hfe hfit hml100).mono ?_
        rintro e w4 ⟨va, ra, rfl, hRa, hOa, hb4⟩
        have HRA := Lib.hid hRa
        have HOA := Lib.hid hOa
        have HR4 := Lib.hid (HR3.out.below hb4)
        have HMS4 := Lib.hid (HMS3.out.below hb4)
        have HB4 := Lib.hid (HB3.out.trans (hb4.mono HB3.out.size))
        clear hRa hOa hb4
        go_wp2_with fail
        refine (HOP.out w4).mono ?_
        rintro e w5 ⟨rfl, hb5⟩
        have HR5 := Lib.hid (HR4.out.below hb5)
        have HMS5 := Lib.hid (HMS4.out.below hb5)
        have HRA5 := Lib.hid (HRA.out.below hb5)
        have HOA5 := Lib.hid (own_below HOA.out hb5)
        have HB5 := Lib.hid (HB4.out.trans (hb5.mono HB4.out.size))
        clear hb5
        go_wp2_with fail
        refine (refExtract_any (o := o) HR5.out HMS5.out hfe hfit hml100).mono ?_
        rintro e w6 ⟨vb, rb, rfl, hRb, hOb, hb6⟩
        have HRA6 := Lib.hid (HRA5.out.below hb6)
        have HOA6 := Lib.hid (own_below HOA5.out hb6)
        have HRB := Lib.hid hRb
        have HOB := Lib.hid hOb
        have HB6 := Lib.hid (HB5.out.trans (hb6.mono HB5.out.size))
        clear hRb hOb hb6
        go_wp2_with fail
        refine (same_row HRA6.out HRB.out hxl).mono ?_
        rintro e w7 ⟨rfl, hb7⟩
        have HOA7 := Lib.hid (own_below HOA6.out hb7)
        have HOB7 := Lib.hid (own_below HOB.out hb7)
        have HB7 := Lib.hid (HB6.out.trans (hb7.mono HB6.out.size))
        clear hb7
        go_wp2_with fail
        refine (refSameR_any HOA7.out HOB7.out hxr).mono ?_
        rintro e w8 ⟨rfl, hb8⟩
        go_wp2_with fail
        go_ret
        exact ⟨rfl, HB7.out.trans (hb8.mono HB7.out.size)⟩
      · omega
      · omega
      · go_wp2_with fail
        refine (HT.out wr (HBW.out.trans (HB.out.mono HBW.out.size))).mono ?_
        rintro e w2 ⟨tv, rfl, hR2, hb2⟩
        have HR2 := Lib.hid hR2
        have HMS2 := Lib.hid (HMS.out.below hb2)
        have HB2 := Lib.hid ((HBW.out.trans (HB.out.mono HBW.out.size)).trans (hb2.mono (HBW.out.trans (HB.out.mono HBW.out.size)).size))
        clear hR2 hb2
        go_wp2_with fail
        refine (HOP.out w2).mono ?_
        rintro e w3 ⟨rfl, hb3⟩
        have HR3 := Lib.hid (HR2.out.below hb3)
        have HMS3 := Lib.hid (HMS2.out.below hb3)
        have HB3 := Lib.hid (HB2.out.trans (hb3.mono HB2.out.size))
        clear hb3
        go_wp2_with fail
        refine (extract_any (o := o) HR3.out HMS3.out hfe hfit hml100).mono ?_
        rintro e w4 ⟨va, ra, rfl, hRa, hOa, hb4⟩
        have HRA := Lib.hid hRa
        have HOA := Lib.hid hOa
        have HR4 := Lib.hid (HR3.out.below hb4)
        have HMS4 := Lib.hid (HMS3.out.below hb4)
        have HB4 := Lib.hid (HB3.out.trans (hb4.mono HB3.out.size))
        clear hRa hOa hb4
        go_wp2_with fail
        refine (HOP.out w4).mono ?_
        rintro e w5 ⟨rfl, hb5⟩
        have HR5 := Lib.hid (HR4.out.below hb5)
        have HMS5 := Lib.hid (HMS4.out.below hb5)
        have HRA5 := Lib.hid (HRA.out.below hb5)
        have HOA5 := Lib.hid (own_below HOA.out hb5)
        have HB5 := Lib.hid (HB4.out.trans (hb5.mono HB4.out.size))
        clear hb5
        go_wp2_with fail
        refine (refExtract_any (o := o) HR5.out HMS5.out hfe hfit hml100).mono ?_
        rintro e w6 ⟨vb, rb, rfl, hRb, hOb, hb6⟩
        have HRA6 := Lib.hid (HRA5.out.below hb6)
        have HOA6 := Lib.hid (own_below HOA5.out hb6)
        have HRB := Lib.hid hRb
        have HOB := Lib.hid hOb
        have HB6 := Lib.hid (HB5.out.trans (hb6.mono HB5.out.size))
        clear hRb hOb hb6
        go_wp2_with fail
        refine (same_row HRA6.out HRB.out hxl).mono ?_
        rintro e w7 ⟨rfl, hb7⟩
        have HOA7 := Lib.hid (own_below HOA6.out hb7)
        have HOB7 := Lib.hid (own_below HOB.out hb7)
        have HB7 := Lib.hid (HB6.out.trans (hb7.mono HB6.out.size))
        clear hb7
        go_wp2_with fail
        refine (refSameR_any HOA7.out HOB7.out hxr).mono ?_
        rintro e w8 ⟨rfl, hb8⟩
        go_wp2_with fail
        go_ret
        exact ⟨rfl, HB7.out.trans (hb8.mono HB7.out.size)⟩

end Go.Proofs.YtlbipmlbkcdmnaaGreat
