/-
  Nothing is laid below a link: the law's walk.
-/
import Derived.Test.YtlbipmlbkcdmnaaLfaV
namespace Go.Proofs.Ytlbipmlbkcdmnaa
open Go.RowKit Go.Shelf

set_option maxRecDepth 100000 in
set_option maxHeartbeats 4000000 in
theorem pullLinks_walk {Ac Ad : Option Addr} {nc cc nd cd : Nat} {bs ds : List Int} {k : Int} (w : World) (hc : Rd w .u8 Ac nc bs) (hrc : ∀ x ∈ bs, 0 ≤ x ∧ x < 256) (hnc : nc ≤ 9223372036854775807)
    (hd : Rd w .u8 Ad nd ds) (hrd : ∀ x ∈ ds, 0 ≤ x ∧ x < 256) (hnd : nd ≤ 9223372036854775807) (hcd : nd ≤ cd) (hk0 : 0 ≤ k) (hk : k < 256) :
    Calls Try.prog 13 #[.slice Ac nc cc, .slice Ad nd cd, .int .u8 k] w fun e w' => e = .returned (.bool true) ∧ Below w.heap.size w w' := by
  have HK := pullKnown
  have HH := Lib.hid (fun W (hW : Below w.heap.size w W) i hi hin => member_any (c := cd) (hd.below hW) hrd hnd hcd i hi hin)
  have HT := tree_row (c := cc) hc hrc hnc
  have HOP := fun W => options_det k W hk0 hk
  have hor := optV_root k
  have htl := tree_len bs
  have hts := tree_short bs
  have hnm : Named (treeL bs) := ⟨Once.tree bs, tree_named bs⟩
  generalize treeL bs = t0 at HT htl hts hnm
  generalize optV k = o at HOP hor
  obtain ⟨i0, hi, hzz0, hzz1, hzz2⟩ := info_parts Try.info56
  have HI0 := Lib.hid hi
  have HI1 := Lib.hid hzz0
  have HI2 := Lib.hid hzz1
  have HI3 := Lib.hid hzz2
  clear hc hd hi hzz0 hzz1 hzz2
  go_enter Try.func13, Try.ntmps13
  go_wp2_with fail
  refine HT.mono ?_
  rintro e w0 ⟨tv, rfl, hR0, hb0⟩
  clear HT
  have hT1 : t0.length ≤ 1000000000 ∧ ∀ t ∈ t0, t.path.length ≤ 1000000000 := ⟨by omega, fun t ht => by have := hts t ht; omega⟩
  have HRT := refRight_row hR0 hT1
  have hokT := (rightS_ok t0).1
  generalize rightS t0 = rt at HRT hokT
  go_wp2_with fail
  refine HRT.mono ?_
  rintro e w0' ⟨rfl, hb0'⟩
  clear HRT hT1
  have hR0 := hR0.below hb0'
  have hb0 := hb0.trans (hb0'.mono hb0.size)
  clear hb0'
  cases rt with
  | false =>
    go_wp2_with fail
    refine (HK _).mono ?_
    rintro e w9 ⟨rfl, hb9⟩
    go_wp2_with fail
    go_ret
    exact ⟨rfl, hb0.trans (hb9.mono hb0.size)⟩
  | true =>
    have HOK := Lib.hid (hokT rfl)
    clear hokT
    go_wp2_with fail
    refine (HOP _).mono ?_
    rintro e wo ⟨rfl, hbo⟩
    have hst := store_alloc (P := Try.prog) wo #[.string ⟨#[]⟩, .bool false, .bool false] (optCells o) 62 rfl (optCells_one o)
    have hN := heap_alloc_new wo (.cells (optCells o).toArray 62)
    have hbn : Below wo.heap.size wo (wo.alloc (.cells (optCells o).toArray 62)) := (Below.refl _ _).alloc (Nat.le_refl _) _
    generalize hwn : wo.alloc (.cells (optCells o).toArray 62) = w1 at hst hN hbn
    have HR1 := Lib.hid ((hR0.below hbo).below hbn)
    have hb1 := hb0.trans ((hbo.trans (hbn.mono hbo.size)).mono hb0.size)
    have HBW := Lib.hid hb1
    have hw1s := hb1.size
    have HN := Lib.hid hN
    clear HOP hR0 hb0 hbo hbn hb1 hN
    go_wp2_with fail
    clear hst hwn
    go_loopw [9, 10, 29, 30, 31, 32, 33, 34, 35, 36, 37, 38, 39, 40, 41, 42, 43, 44] (fun v9 v10 _ _ _ _ _ _ _ _ _ _ _ _ _ _ _ _ wr => ∃ (i : Nat) (ts : List Tri), i ≤ 33 ∧ v10 = .int .i64 i ∧ ts.length ≤ i ∧ wr.ownsRow w1.heap.size 56 18 v9 ts.length (cellsM ts) ∧ (∀ t ∈ ts, MemT wr t.1 t.2.1 t.2.2 ∧ t.1.name.length ≤ 1000 ∧ t.1.link.length ≤ 1000) ∧ Below w1.heap.size w1 wr)
      (fun v9 v10 _ _ _ _ _ _ _ _ _ _ _ _ _ _ _ _ _ => 100 - (intOf v10).toNat)
    case atStart => exact ⟨0, [], by omega, rfl, by simp, World.ownsRow_nil _ _ _ _, by simp, Below.refl _ _⟩
    case round =>
      obtain ⟨i, ts, hi, rfl, hlen, ho, hts, hb⟩ := hrel
      have HO := Lib.hid ho
      have HTS := Lib.hid hts
      have HB := Lib.hid hb
      have hwr := hb.size
      clear ho hts hb
      by_cases hgo : i < nd ∧ i < 30
      · obtain ⟨hkn, hk24⟩ := hgo
        have hkz : (i : Int) < (nd : Int) := by omega
        have hkz2 : (i : Int) < 30 := by omega
        go_wp2_with fail
        refine (HH.out wr (HBW.out.trans (HB.out.mono HBW.out.size)) i (by omega) hkn).mono ?_
        rintro e w5 ⟨m, pv, dv, rfl, hT, hn1, hl1, hb5⟩
        obtain ⟨pA, pn, pc, rfl⟩ := hT.ok.slice
        obtain ⟨dA, dc, rfl, _⟩ := hT.ok.data
        have HT5 := Lib.hid hT
        have HTS5 := Lib.hid (fun t (ht : t ∈ ts) => ((HTS.out t ht).1.below hb5 : MemT w5 t.1 t.2.1 t.2.2))
        have HO5 := Lib.hid (own_below HO.out hb5)
        have HB5 := Lib.hid (HB.out.trans (hb5.mono HB.out.size))
        have HNL := Lib.hid (And.intro hn1 hl1)
        have hw5 : w1.heap.size ≤ w5.heap.size := HB5.out.size
        have hs48 := slice48 m pA dA pn pc m.data.length dc w5
        obtain ⟨A3, c3, rfl⟩ := own_form HO.out
        clear hb5 hT hn1 hl1
        dsimp only
        go_step
        refine wpList_run (.slice (some ⟨w5.heap.size, 0, none⟩) 1 1) (w5.alloc (.cells (memCells m (.slice pA pn pc) (.slice dA m.data.length dc)).toArray 56)) ?_ ?_
        · unfold execOp
          simp only [List.map_toArray, List.map_cons, List.map_nil, Act.eval]
          show (Instr.buildSlice 48 1 #[(0, .agg (memCells m (.slice pA pn pc) (.slice dA m.data.length dc)).toArray)] >>= fun x => pure (Next.value x)).run Try.prog w5 = _
          rw [Sem.run_bind, hs48]
          rfl
        clear hs48
        go_wp2_with (at_builtin; refine wpList_append_own _ rfl _ _ 48 rfl w1.heap.size 56 i0 _ 18 224 Try.underlying48 HI0.out HI1.out HI2.out HI3.out rfl (by decide) (.slice A3 ts.length c3) ts.length (cellsM ts) rfl (HO5.out.alloc _) ⟨_, 0, none⟩ 1 1 (memCells m (.slice pA pn pc) (.slice dA m.data.length dc)) rfl rfl (cells_new _ (memCells m (.slice pA pn pc) (.slice dA m.data.length dc)).toArray 56) (memCells_one _ _ _ _ _ _ _) (by unfold maxLen; omega) (by omega) (by simp; omega) ?_; intro v' w8 hown8 hgrow8 _; rw [show cellsM ts ++ memCells m (.slice pA pn pc) (.slice dA m.data.length dc) = cellsM (ts ++ [(m, .slice pA pn pc, .slice dA m.data.length dc)]) from cellsM_snoc ts (m, .slice pA pn pc, .slice dA m.data.length dc)] at hown8; obtain ⟨A9, c9, rfl⟩ := own_form hown8)
        have hb7 : Below w5.heap.size w5 (w5.alloc (.cells (memCells m (.slice pA pn pc) (.slice dA m.data.length dc)).toArray 56)) := (Below.refl _ _).alloc (Nat.le_refl _) _
        have hfin : ∀ t ∈ ts ++ [(m, .slice pA pn pc, .slice dA m.data.length dc)], MemT w8 t.1 t.2.1 t.2.2 ∧ t.1.name.length ≤ 1000 ∧ t.1.link.length ≤ 1000 := fun t ht => by
          rcases List.mem_append.1 ht with ht | ht
          · exact ⟨((HTS5.out t ht).below hb7).grown (HO5.out.alloc _) hgrow8, (HTS.out t ht).2⟩
          · rw [List.mem_singleton.1 ht]
            exact ⟨(HT5.out.below hb7).grown (HO5.out.alloc _) hgrow8, HNL.out⟩
        have hbf := (HB5.out.alloc HB5.out.size _).grown hgrow8 (by have := HB5.out.size; simp; omega) (fun j e => own_from HO5.out j e)
        go_roundw
        case rel => exact ⟨i + 3, ts ++ [(m, .slice pA pn pc, .slice dA m.data.length dc)], by omega, by go_num, by simp; omega, by simpa using hown8, hfin, hbf⟩
        case measure => simp only [intOf]; omega
      · have hms := mems_row HO.out (fun t ht => (HTS.out t ht).1.ok)
        have hfe : ∀ m ∈ ts.map Prod.fst, FitsE o m := fun m hm => by
          obtain ⟨t, ht, rfl⟩ := List.mem_map.1 hm
          obtain ⟨_, h1, h2⟩ := HTS.out t ht
          exact ⟨by omega, h2, h1⟩
        have hml : (ts.map Prod.fst).length = ts.length := List.length_map ..
        obtain ⟨A3, c3, rfl⟩ := own_form HO.out
        generalize ts.map Prod.fst = ms at hms hfe hml
        have hfit : FitsN 0 t0 := ⟨by omega, fun s hs => by have := hts s hs; omega⟩
        have hml100 : ms.length ≤ 100 := by omega
        have hp0 : ∀ s ∈ t0, s.path.length ≤ 100000 := fun s hs => by have := hts s hs; omega
        have hxt := extract_tree o t0 ms
        have hlen2 := tree_len2 o ms t0 hp0 hfe
        have hok := tree_ok o ms HOK.out
        have hnew := fun (s : Sn) (h1 : s ∈ treeV o t0 ms) (h2 : s.kind = 50) => link_new hnm hfe h1 h2
        have hnml : Named (treeV o t0 ms) := tree_keeps o (P := Named) (fun hP hl => hl.names hP) ms hnm
        obtain ⟨i62, hi62, hz62⟩ := size62
        have HR := Lib.hid (HR1.out.below HB.out)
        have HBR := Lib.hid (HBW.out.trans (HB.out.mono HBW.out.size))
        have HMS := Lib.hid hms
        have HNC := Lib.hid (show ∀ W, Below wr.heap.size wr W → W.heap[wo.heap.size]? = some (.cells (optCells o).toArray 62 (0, 0)) from fun W hW => (hW.block _ (by have := (Array.getElem?_eq_some_iff.1 HN.out).1; omega)).trans ((HB.out.block _ (Array.getElem?_eq_some_iff.1 HN.out).1).trans HN.out))
        generalize treeV o t0 ms = lt at hxt hlen2 hok hnml hnew
        clear hms
        by_cases hkn : i < nd
        all_goals
          have hkz : (i : Int) < (nd : Int) ∧ ¬ (i : Int) < 30 ∨ ¬ (i : Int) < (nd : Int) := by omega
          rcases hkz with ⟨hkz, hkz2⟩ | hkz
        · go_upto_region 10 with fail
          apply wp_region_lit
          iterate 6 go_step
          refine wpList_load_row 62 _ i62 ⟨wo.heap.size, 0, none⟩ (optCells o) hi62 hz62 (agg62 _) rfl (row_cells (HNC.out wr (Below.refl _ _))) ?_
          go_wp2_with fail
          refine (extract_any (o := o) HR.out HMS.out hfe hfit hml100).mono ?_
          rintro e w3 ⟨vl, rl, rfl, hRl, hOl, hb3⟩
          obtain ⟨Al, cl, rfl⟩ := own_form hOl
          rw [hxt] at hRl
          have HRl := Lib.hid hRl
          have HR3 := Lib.hid (HR.out.below hb3)
          have HB3 := Lib.hid (HBR.out.trans (hb3.mono HBR.out.size))
          have HNC3 := Lib.hid (fun W (hW : Below w3.heap.size w3 W) => HNC.out W (hb3.trans (hW.mono hb3.size)))
          clear hb3 hRl hOl
          obtain ⟨At, ct, ns, rfl, hNs, hL, _⟩ := HR3.out
          obtain ⟨Av, cv, nl, rfl, hNl, hLl, _⟩ := HRl.out
          go_wp2_with fail
          go_loopw [13, 14, 15, 16, 17, 18, 19, 20, 52, 53, 54, 55, 56, 57, 58, 59, 60, 61, 62, 63, 64, 65, 66, 67, 68, 69, 70, 71, 72, 73, 74, 75, 76, 77, 78, 79, 80, 81, 82, 83, 84, 85, 86, 87, 88, 89, 90, 91, 92, 93, 94, 95, 96, 97, 98, 99, 100, 101, 102, 103, 104, 105, 106, 107, 108, 109, 110, 111, 112, 113, 114, 115, 116, 117, 118, 119, 120, 121, 122, 123, 124, 125, 126, 127, 128, 129, 130] (fun v13 _ _ _ _ _ _ _ _ _ _ _ _ _ _ _ _ _ _ _ _ _ _ _ _ _ _ _ _ _ _ _ _ _ _ _ _ _ _ _ _ _ _ _ _ _ _ _ _ _ _ _ _ _ _ _ _ _ _ _ _ _ _ _ _ _ _ _ _ _ _ _ _ _ _ _ _ _ _ _ _ _ _ _ _ _ _ wr => ∃ j : Nat, j ≤ lt.length ∧ v13 = .int .i64 j ∧ Below w3.heap.size w3 wr)
            (fun v13 _ _ _ _ _ _ _ _ _ _ _ _ _ _ _ _ _ _ _ _ _ _ _ _ _ _ _ _ _ _ _ _ _ _ _ _ _ _ _ _ _ _ _ _ _ _ _ _ _ _ _ _ _ _ _ _ _ _ _ _ _ _ _ _ _ _ _ _ _ _ _ _ _ _ _ _ _ _ _ _ _ _ _ _ _ _ _ => lt.length - (intOf v13).toNat)
          case atStart => exact ⟨0, Nat.zero_le _, rfl, Below.refl _ _⟩
          case round =>
            obtain ⟨j, hj, rfl, hbj⟩ := hrel
            by_cases hjl : j < lt.length
            · have hjz : (j : Int) < (lt.length : Int) := by omega
              have hnl : nl.length = lt.length := hLl.1
              obtain ⟨s, hs⟩ : ∃ s, lt[j]? = some s := ⟨_, List.getElem?_eq_getElem hjl⟩
              obtain ⟨x, hx⟩ : ∃ x, nl[j]? = some x := ⟨_, List.getElem?_eq_getElem (by omega)⟩
              have hxs := hLl.2 j x s hx hs
              rcases hNl with rfl | ⟨b, off, rfl, hbl, hcell⟩
              · simp at hx
              obtain ⟨y0, y1, y2, y3⟩ := hcell j x hx
              have hsm := List.mem_of_getElem? hs
              have hsp := hlen2.2 s hsm
              have hup : UpOk lt (upL x.path) := by rw [hxs.1]; exact (hok.2 s hsm).2
              have hln : x.kind = 50 → findL t0 x.path ≠ (s, true) → o.links = true ∧ (targetV o.root x.path x.link).2 = true ∧ x.link.length ≤ 10000000000 := by
                rw [hxs.1, hxs.2.1, hxs.2.2.1]
                exact hnew s hsm
              have hxp : x.path.length ≤ 100000 := by rw [hxs.1]; exact hsp
              have hlsh : Short t0 := ⟨by omega, fun s hs => by have := hts s hs; omega⟩
              have hlshl : Short lt := ⟨by have := hlen2.1; omega, fun s hs => by have := hlen2.2 s hs; omega⟩
              have HSL := Lib.hid hlshl
              have HCX := Lib.hid (show ∀ W, Below w3.heap.size w3 W → W.cell? ⟨b, off + j * 4, none⟩ = some (.string ⟨x.path.toArray⟩) ∧ W.cell? ⟨b, off + j * 4 + 1, none⟩ = some (.int .u8 x.kind) ∧ W.cell? ⟨b, off + j * 4 + 2, none⟩ = some (.slice x.adr x.len x.cap) ∧ W.cell? ⟨b, off + j * 4 + 3, none⟩ = some (.string ⟨x.link.toArray⟩) from fun W hW =>
                ⟨(hW.cell (p := ⟨b, off + j * 4, none⟩) hbl).trans y0, (hW.cell (p := ⟨b, off + j * 4 + 1, none⟩) hbl).trans y1, (hW.cell (p := ⟨b, off + j * 4 + 2, none⟩) hbl).trans y2, (hW.cell (p := ⟨b, off + j * 4 + 3, none⟩) hbl).trans y3⟩)
              have HXS := Lib.hid (fun W (hW : Below w3.heap.size w3 W) => hxs.below hW)
              obtain ⟨z0, _, _, _⟩ := HCX.out _ hbj
              have HBJ := Lib.hid hbj
              have HLN := Lib.hid hln
              have HNML := Lib.hid hnml
              have HOKL := Lib.hid hok
              have HUPA := fun W => refUp_any x.path (by omega) W
              have hpl : ∀ q, (upL q).length ≤ q.length := upL_len
              have hupl := hpl x.path
              clear hcell y0 y1 y2 y3 hxs hbj hs hx hLl hln hlshl hnew hok
              generalize upL x.path = u0 at HUPA hup hupl
              go_wp2_with fail
              refine (HUPA _).mono ?_
              rintro e w4 ⟨rfl, hb4⟩
              have HB4 := Lib.hid (HBJ.out.trans (hb4.mono HBJ.out.size))
              clear HUPA hb4 z0
              go_wp2_with fail
              go_loopw [14, 15, 16, 64, 65, 66, 67, 68, 69, 70, 71, 72, 73, 74, 75, 76, 77, 78, 79, 80] (fun v14 _ _ _ _ _ _ _ _ _ _ _ _ _ _ _ _ _ _ _ wr => ∃ u : List UInt8, v14 = .string ⟨u.toArray⟩ ∧ UpOk lt u ∧ u.length ≤ 100000 ∧ Below w3.heap.size w3 wr)
                (fun v14 _ _ _ _ _ _ _ _ _ _ _ _ _ _ _ _ _ _ _ _ => strLen v14)
              case atStart => exact ⟨u0, rfl, hup, by omega, HB4.out⟩
              case round =>
                obtain ⟨u, rfl, hu, hul, hbu⟩ := hrel
                have HBU := Lib.hid hbu
                clear hbu
                by_cases hue : u = []
                · subst hue
                  have hx0 := HCX.out _ HBU.out
                  have HF := refFind_row (HR3.out.below HBU.out) x.path hlsh
                  obtain ⟨z0, _, _, _⟩ := hx0
                  go_wp2_with fail
                  refine HF.mono ?_
                  rintro e w4 ⟨y, rfl, hy, hb4⟩
                  have HY := Lib.hid hy
                  have hN4 := heap_alloc_new w4 (.cells #[.string ⟨y.path.toArray⟩, .int .u8 y.kind, .slice y.adr y.len y.cap, .string ⟨y.link.toArray⟩] 31)
                  have hbn4 : Below w4.heap.size w4 (w4.alloc (.cells #[.string ⟨y.path.toArray⟩, .int .u8 y.kind, .slice y.adr y.len y.cap, .string ⟨y.link.toArray⟩] 31)) := (Below.refl _ _).alloc (Nat.le_refl _) _
                  have HN4 := Lib.hid hN4
                  have HBN4 := Lib.hid hbn4
                  have HB34 := Lib.hid (HBU.out.trans (hb4.mono HBU.out.size))
                  clear hy hN4 hbn4 hb4 HF z0
                  unfold Nd.cells
                  generalize findL t0 x.path = fd at HLN HY ⊢
                  obtain ⟨fs, fb⟩ := fd
                  dsimp only at HY ⊢
                  go_upto_region 21 with fail
                  refine wp_region_ordV [0, 1, 2, 3, 4, 5, 6, 7, 8, 9, 10, 11, 12, 13, 14, 15, 16] [14] (by kernel_rfl) (by kernel_rfl) (by kernel_rfl) (fun d _ _ _ _ h => by cases d <;> exact h) (by kernel_rfl) ?_
                  intro WG hWG hBG
                  have hn4 : WG.heap[w4.heap.size]? = some (.cells #[.string ⟨y.path.toArray⟩, .int .u8 y.kind, .slice y.adr y.len y.cap, .string ⟨y.link.toArray⟩] 31 (0, 0)) := by rw [hWG]; exact HN4.out
                  have hl4 := (Array.getElem?_eq_some_iff.1 hn4).1
                  have hB4G := HBN4.out.trans (hBG.mono HBN4.out.size)
                  have hB3G := HB34.out.trans (hB4G.mono HB34.out.size)
                  have v0 := fun W (hW : Below WG.heap.size WG W) => (HCX.out W (hB3G.trans (hW.mono hB3G.size))).1
                  have v1 := fun W (hW : Below WG.heap.size WG W) => (HCX.out W (hB3G.trans (hW.mono hB3G.size))).2.1
                  have v2 := fun W (hW : Below WG.heap.size WG W) => (HCX.out W (hB3G.trans (hW.mono hB3G.size))).2.2.1
                  have v3 := fun W (hW : Below WG.heap.size WG W) => (HCX.out W (hB3G.trans (hW.mono hB3G.size))).2.2.2
                  have u0 := fun W (hW : Below WG.heap.size WG W) => (node_cells ((hW.block _ hl4).trans hn4)).1
                  have u1 := fun W (hW : Below WG.heap.size WG W) => (node_cells ((hW.block _ hl4).trans hn4)).2.1
                  have u2 := fun W (hW : Below WG.heap.size WG W) => (node_cells ((hW.block _ hl4).trans hn4)).2.2.1
                  have u3 := fun W (hW : Below WG.heap.size WG W) => (node_cells ((hW.block _ hl4).trans hn4)).2.2.2
                  have HYG := Lib.hid (HY.out.below hB4G)
                  have HXG := Lib.hid (HXS.out WG hB3G)
                  have H3G := Lib.hid hB3G
                  clear hBG hWG hn4 hB4G hB3G
                  by_cases hk50 : x.kind = 50
                  · rw [hk50] at v1
                    have hln := HLN.out hk50
                    cases fb with
                    | true =>
                      repeat (first | (refine wpOrd_take (v := ?_) rfl rfl rfl (fun W hW => ?_) ?_; rotate_left; (focus (go_simp; with_reducible rfl)); simp only [Act.put, List.setIfInBounds_toArray, List.set_cons_succ, List.set_cons_zero]) | (refine wpOrd_skip rfl rfl ?_; simp only [Act.put, List.setIfInBounds_toArray, List.set_cons_succ, List.set_cons_zero]))
                      refine wpOrd_call rfl rfl rfl ?_
                      go_simp
                      have HSN := sameW_any y x fs s WG HYG.out HXG.out
                      unfold Nd.cells at HSN
                      rw [hk50] at HSN
                      refine HSN.mono ?_
                      rintro e w7 ⟨⟨bb, rfl, hbb⟩, hb7⟩
                      refine ⟨hb7, ?_⟩
                      have H7 := Lib.hid (H3G.out.trans (hb7.mono H3G.out.size))
                      cases bb with
                      | true =>
                        repeat (first | (refine wpOrd_take (v := ?_) rfl rfl rfl (fun W hW => ?_) ?_; rotate_left; (focus (go_simp; with_reducible rfl)); simp only [Act.put, List.setIfInBounds_toArray, List.set_cons_succ, List.set_cons_zero]) | (refine wpOrd_skip rfl rfl ?_; simp only [Act.put, List.setIfInBounds_toArray, List.set_cons_succ, List.set_cons_zero]))
                        refine wpOrd_nil ?_
                        clear v0 v1 v2 v3 u0 u1 u2 u3 HSN hb7
                        go_wp2_with fail
                        go_roundw
                        case rel => exact ⟨j + 1, by omega, by go_num, H7.out⟩
                        case measure => simp only [intOf]; omega
                      | false =>
                        repeat (first | (refine wpOrd_take (v := ?_) rfl rfl rfl (fun W hW => ?_) ?_; rotate_left; (focus (go_simp; with_reducible rfl)); simp only [Act.put, List.setIfInBounds_toArray, List.set_cons_succ, List.set_cons_zero]) | (refine wpOrd_skip rfl rfl ?_; simp only [Act.put, List.setIfInBounds_toArray, List.set_cons_succ, List.set_cons_zero]))
                        refine wpOrd_nil ?_
                        obtain ⟨hol, htg, hxl⟩ := hln (fun e => by injection e with e1 e2; cases hbb e1)
                        clear v0 v1 v2 v3 u0 u1 u2 u3 HSN hb7
                        have HWW := Lib.hid H7.out
                        go_upto_region 22 with fail
                        refine wp_region_ordV [0, 1, 2, 3, 4, 5, 6, 7, 8, 9, 10, 11, 12, 13, 14, 15, 16, 17] [12] (by kernel_rfl) (by kernel_rfl) (by kernel_rfl) (fun d _ _ _ _ h => by cases d <;> exact h) (by kernel_rfl) ?_
                        intro WT hWT hBT
                        have hBW := HWW.out.trans (hBT.mono HWW.out.size)
                        have v0 := fun W (hW : Below WT.heap.size WT W) => (HCX.out W (hBW.trans (hW.mono hBW.size))).1
                        have v3 := fun W (hW : Below WT.heap.size WT W) => (HCX.out W (hBW.trans (hW.mono hBW.size))).2.2.2
                        have vr : ∀ W, Below WT.heap.size WT W → W.cell? ⟨wo.heap.size, 0, none⟩ = some (.string ⟨o.root.toArray⟩) := fun W hW => by
                          have := row_cells (HNC3.out W (hBW.trans (hW.mono hBW.size))) 0 (.string ⟨o.root.toArray⟩) rfl
                          rwa [Addr.add_lit, Nat.zero_add] at this
                        have vl := fun W (hW : Below WT.heap.size WT W) => row_cells (HNC3.out W (hBW.trans (hW.mono hBW.size))) 1 (.bool o.links) rfl
                        rw [hol] at vl
                        have HTG := refTarget_any o.root x.path x.link (by omega) (by omega) hxl WT
                        rw [htg] at HTG
                        generalize (targetV o.root x.path x.link).1 = tp at HTG
                        have HBT := Lib.hid hBW
                        clear hWT hBT hBW
                        repeat (first | (refine wpOrd_take (v := ?_) rfl rfl rfl (fun W hW => ?_) ?_; rotate_left; (focus (go_simp; with_reducible rfl)); simp only [Act.put, List.setIfInBounds_toArray, List.set_cons_succ, List.set_cons_zero]) | (refine wpOrd_skip rfl rfl ?_; simp only [Act.put, List.setIfInBounds_toArray, List.set_cons_succ, List.set_cons_zero]))
                        refine wpOrd_call rfl rfl rfl ?_
                        go_simp
                        refine HTG.mono ?_
                        rintro e w8 ⟨rfl, hb8⟩
                        refine ⟨hb8, ?_⟩
                        repeat (first | (refine wpOrd_take (v := ?_) rfl rfl rfl (fun W hW => ?_) ?_; rotate_left; (focus (go_simp; with_reducible rfl)); simp only [Act.put, List.setIfInBounds_toArray, List.set_cons_succ, List.set_cons_zero]) | (refine wpOrd_skip rfl rfl ?_; simp only [Act.put, List.setIfInBounds_toArray, List.set_cons_succ, List.set_cons_zero]))
                        refine wpOrd_nil ?_
                        have v1 := vl w8 hb8
                        rw [Addr.add_lit, Nat.zero_add] at v1
                        have H8 := Lib.hid (HBT.out.trans (hb8.mono HBT.out.size))
                        clear v0 v3 vr vl HTG hb8
                        go_wp2_with fail
                        go_roundw
                        case rel => exact ⟨j + 1, by omega, by go_num, H8.out⟩
                        case measure => simp only [intOf]; omega
                    | false =>
                      repeat (first | (refine wpOrd_take (v := ?_) rfl rfl rfl (fun W hW => ?_) ?_; rotate_left; (focus (go_simp; with_reducible rfl)); simp only [Act.put, List.setIfInBounds_toArray, List.set_cons_succ, List.set_cons_zero]) | (refine wpOrd_skip rfl rfl ?_; simp only [Act.put, List.setIfInBounds_toArray, List.set_cons_succ, List.set_cons_zero]))
                      refine wpOrd_nil ?_
                      obtain ⟨hol, htg, hxl⟩ := hln (fun e => by injection e with e1 e2; cases e2)
                      clear v0 v1 v2 v3 u0 u1 u2 u3
                      have HWW := Lib.hid H3G.out
                      go_upto_region 22 with fail
                      refine wp_region_ordV [0, 1, 2, 3, 4, 5, 6, 7, 8, 9, 10, 11, 12, 13, 14, 15, 16, 17] [12] (by kernel_rfl) (by kernel_rfl) (by kernel_rfl) (fun d _ _ _ _ h => by cases d <;> exact h) (by kernel_rfl) ?_
                      intro WT hWT hBT
                      have hBW := HWW.out.trans (hBT.mono HWW.out.size)
                      have v0 := fun W (hW : Below WT.heap.size WT W) => (HCX.out W (hBW.trans (hW.mono hBW.size))).1
                      have v3 := fun W (hW : Below WT.heap.size WT W) => (HCX.out W (hBW.trans (hW.mono hBW.size))).2.2.2
                      have vr : ∀ W, Below WT.heap.size WT W → W.cell? ⟨wo.heap.size, 0, none⟩ = some (.string ⟨o.root.toArray⟩) := fun W hW => by
                        have := row_cells (HNC3.out W (hBW.trans (hW.mono hBW.size))) 0 (.string ⟨o.root.toArray⟩) rfl
                        rwa [Addr.add_lit, Nat.zero_add] at this
                      have vl := fun W (hW : Below WT.heap.size WT W) => row_cells (HNC3.out W (hBW.trans (hW.mono hBW.size))) 1 (.bool o.links) rfl
                      rw [hol] at vl
                      have HTG := refTarget_any o.root x.path x.link (by omega) (by omega) hxl WT
                      rw [htg] at HTG
                      generalize (targetV o.root x.path x.link).1 = tp at HTG
                      have HBT := Lib.hid hBW
                      clear hWT hBT hBW
                      repeat (first | (refine wpOrd_take (v := ?_) rfl rfl rfl (fun W hW => ?_) ?_; rotate_left; (focus (go_simp; with_reducible rfl)); simp only [Act.put, List.setIfInBounds_toArray, List.set_cons_succ, List.set_cons_zero]) | (refine wpOrd_skip rfl rfl ?_; simp only [Act.put, List.setIfInBounds_toArray, List.set_cons_succ, List.set_cons_zero]))
                      refine wpOrd_call rfl rfl rfl ?_
                      go_simp
                      refine HTG.mono ?_
                      rintro e w8 ⟨rfl, hb8⟩
                      refine ⟨hb8, ?_⟩
                      repeat (first | (refine wpOrd_take (v := ?_) rfl rfl rfl (fun W hW => ?_) ?_; rotate_left; (focus (go_simp; with_reducible rfl)); simp only [Act.put, List.setIfInBounds_toArray, List.set_cons_succ, List.set_cons_zero]) | (refine wpOrd_skip rfl rfl ?_; simp only [Act.put, List.setIfInBounds_toArray, List.set_cons_succ, List.set_cons_zero]))
                      refine wpOrd_nil ?_
                      have v1 := vl w8 hb8
                      rw [Addr.add_lit, Nat.zero_add] at v1
                      have H8 := Lib.hid (HBT.out.trans (hb8.mono HBT.out.size))
                      clear v0 v3 vr vl HTG hb8
                      go_wp2_with fail
                      go_roundw
                      case rel => exact ⟨j + 1, by omega, by go_num, H8.out⟩
                      case measure => simp only [intOf]; omega
                  · iterate 5 (first | (refine wpOrd_take (v := ?_) rfl rfl rfl (fun W hW => ?_) ?_; rotate_left; (focus (go_simp; with_reducible rfl)); simp only [Act.put, List.setIfInBounds_toArray, List.set_cons_succ, List.set_cons_zero]) | (refine wpOrd_skip rfl rfl ?_; simp only [Act.put, List.setIfInBounds_toArray, List.set_cons_succ, List.set_cons_zero]))
                    refine wpOrd_take (v := .bool true) rfl rfl rfl (fun W hW => ?_) ?_
                    · go_simp
                    simp only [Act.put, List.setIfInBounds_toArray, List.set_cons_succ, List.set_cons_zero]
                    repeat (first | (refine wpOrd_take (v := ?_) rfl rfl rfl (fun W hW => ?_) ?_; rotate_left; (focus (go_simp; with_reducible rfl)); simp only [Act.put, List.setIfInBounds_toArray, List.set_cons_succ, List.set_cons_zero]) | (refine wpOrd_skip rfl rfl ?_; simp only [Act.put, List.setIfInBounds_toArray, List.set_cons_succ, List.set_cons_zero]))
                    refine wpOrd_nil ?_
                    clear v0 v1 v2 v3 u0 u1 u2 u3
                    go_wp2_with fail
                    go_roundw
                    case rel => exact ⟨j + 1, by omega, by go_num, H3G.out⟩
                    case measure => simp only [intOf]; omega
                · obtain ⟨m, hm, hmp, hmk, hfu⟩ := upOk_find HNML.out hu hue
                  have hupm : UpOk lt (upL u) := by rw [← hmp]; exact (HOKL.out.2 m hm).2
                  have e1 := emp hue
                  have HF := refFind_row (HRl.out.below HBU.out) u HSL.out
                  rw [hfu] at HF
                  have hsh := up_short hue
                  have HUU := fun W => refUp_any u (by omega) W
                  generalize upL u = u1 at hupm HUU hsh
                  clear hfu hmp
                  go_wp2_with fail
                  refine HF.mono ?_
                  rintro e w4 ⟨y, rfl, hy, hb4⟩
                  have hyk : y.kind = 53 := hy.2.1.trans hmk
                  have HB34 := Lib.hid (HBU.out.trans (hb4.mono HBU.out.size))
                  obtain ⟨yp, yk, ya, yn, yc, yl⟩ := y
                  unfold Nd.cells
                  dsimp only at hyk ⊢
                  subst hyk
                  clear hy hb4 HF hm hmk
                  go_wp2_with fail
                  refine (HUU _).mono ?_
                  rintro e w6 ⟨rfl, hb6⟩
                  have HB6 := Lib.hid ((HB34.out.alloc HB34.out.size _).trans (hb6.mono (HB34.out.alloc HB34.out.size _).size))
                  clear HUU hb6
                  go_wp2_with fail
                  go_roundw
                  case rel => exact ⟨u1, rfl, hupm, by omega, HB6.out⟩
                  case measure => exact hsh
            · obtain rfl : j = lt.length := by omega
              have HBE := Lib.hid (HB3.out.trans (hbj.mono HB3.out.size))
              clear hbj hlen2 hL hLl hNs hNl
              go_wp2_with fail
              refine (HK _).mono ?_
              rintro e w9 ⟨rfl, hb9⟩
              go_wp2_with fail
              go_ret
              exact ⟨rfl, HBE.out.trans (hb9.mono HBE.out.size)⟩
        · omega
        · omega
        · go_upto_region 10 with fail
          apply wp_region_lit
          iterate 6 go_step
          refine wpList_load_row 62 _ i62 ⟨wo.heap.size, 0, none⟩ (optCells o) hi62 hz62 (agg62 _) rfl (row_cells (HNC.out wr (Below.refl _ _))) ?_
          go_wp2_with fail
          refine (extract_any (o := o) HR.out HMS.out hfe hfit hml100).mono ?_
          rintro e w3 ⟨vl, rl, rfl, hRl, hOl, hb3⟩
          obtain ⟨Al, cl, rfl⟩ := own_form hOl
          rw [hxt] at hRl
          have HRl := Lib.hid hRl
          have HR3 := Lib.hid (HR.out.below hb3)
          have HB3 := Lib.hid (HBR.out.trans (hb3.mono HBR.out.size))
          have HNC3 := Lib.hid (fun W (hW : Below w3.heap.size w3 W) => HNC.out W (hb3.trans (hW.mono hb3.size)))
          clear hb3 hRl hOl
          obtain ⟨At, ct, ns, rfl, hNs, hL, _⟩ := HR3.out
          obtain ⟨Av, cv, nl, rfl, hNl, hLl, _⟩ := HRl.out
          go_wp2_with fail
          go_loopw [13, 14, 15, 16, 17, 18, 19, 20, 52, 53, 54, 55, 56, 57, 58, 59, 60, 61, 62, 63, 64, 65, 66, 67, 68, 69, 70, 71, 72, 73, 74, 75, 76, 77, 78, 79, 80, 81, 82, 83, 84, 85, 86, 87, 88, 89, 90, 91, 92, 93, 94, 95, 96, 97, 98, 99, 100, 101, 102, 103, 104, 105, 106, 107, 108, 109, 110, 111, 112, 113, 114, 115, 116, 117, 118, 119, 120, 121, 122, 123, 124, 125, 126, 127, 128, 129, 130] (fun v13 _ _ _ _ _ _ _ _ _ _ _ _ _ _ _ _ _ _ _ _ _ _ _ _ _ _ _ _ _ _ _ _ _ _ _ _ _ _ _ _ _ _ _ _ _ _ _ _ _ _ _ _ _ _ _ _ _ _ _ _ _ _ _ _ _ _ _ _ _ _ _ _ _ _ _ _ _ _ _ _ _ _ _ _ _ _ wr => ∃ j : Nat, j ≤ lt.length ∧ v13 = .int .i64 j ∧ Below w3.heap.size w3 wr)
            (fun v13 _ _ _ _ _ _ _ _ _ _ _ _ _ _ _ _ _ _ _ _ _ _ _ _ _ _ _ _ _ _ _ _ _ _ _ _ _ _ _ _ _ _ _ _ _ _ _ _ _ _ _ _ _ _ _ _ _ _ _ _ _ _ _ _ _ _ _ _ _ _ _ _ _ _ _ _ _ _ _ _ _ _ _ _ _ _ _ => lt.length - (intOf v13).toNat)
          case atStart => exact ⟨0, Nat.zero_le _, rfl, Below.refl _ _⟩
          case round =>
            obtain ⟨j, hj, rfl, hbj⟩ := hrel
            by_cases hjl : j < lt.length
            · have hjz : (j : Int) < (lt.length : Int) := by omega
              have hnl : nl.length = lt.length := hLl.1
              obtain ⟨s, hs⟩ : ∃ s, lt[j]? = some s := ⟨_, List.getElem?_eq_getElem hjl⟩
              obtain ⟨x, hx⟩ : ∃ x, nl[j]? = some x := ⟨_, List.getElem?_eq_getElem (by omega)⟩
              have hxs := hLl.2 j x s hx hs
              rcases hNl with rfl | ⟨b, off, rfl, hbl, hcell⟩
              · simp at hx
              obtain ⟨y0, y1, y2, y3⟩ := hcell j x hx
              have hsm := List.mem_of_getElem? hs
              have hsp := hlen2.2 s hsm
              have hup : UpOk lt (upL x.path) := by rw [hxs.1]; exact (hok.2 s hsm).2
              have hln : x.kind = 50 → findL t0 x.path ≠ (s, true) → o.links = true ∧ (targetV o.root x.path x.link).2 = true ∧ x.link.length ≤ 10000000000 := by
                rw [hxs.1, hxs.2.1, hxs.2.2.1]
                exact hnew s hsm
              have hxp : x.path.length ≤ 100000 := by rw [hxs.1]; exact hsp
              have hlsh : Short t0 := ⟨by omega, fun s hs => by have := hts s hs; omega⟩
              have hlshl : Short lt := ⟨by have := hlen2.1; omega, fun s hs => by have := hlen2.2 s hs; omega⟩
              have HSL := Lib.hid hlshl
              have HCX := Lib.hid (show ∀ W, Below w3.heap.size w3 W → W.cell? ⟨b, off + j * 4, none⟩ = some (.string ⟨x.path.toArray⟩) ∧ W.cell? ⟨b, off + j * 4 + 1, none⟩ = some (.int .u8 x.kind) ∧ W.cell? ⟨b, off + j * 4 + 2, none⟩ = some (.slice x.adr x.len x.cap) ∧ W.cell? ⟨b, off + j * 4 + 3, none⟩ = some (.string ⟨x.link.toArray⟩) from fun W hW =>
                ⟨(hW.cell (p := ⟨b, off + j * 4, none⟩) hbl).trans y0, (hW.cell (p := ⟨b, off + j * 4 + 1, none⟩) hbl).trans y1, (hW.cell (p := ⟨b, off + j * 4 + 2, none⟩) hbl).trans y2, (hW.cell (p := ⟨b, off + j * 4 + 3, none⟩) hbl).trans y3⟩)
              have HXS := Lib.hid (fun W (hW : Below w3.heap.size w3 W) => hxs.below hW)
              obtain ⟨z0, _, _, _⟩ := HCX.out _ hbj
              have HBJ := Lib.hid hbj
              have HLN := Lib.hid hln
              have HNML := Lib.hid hnml
              have HOKL := Lib.hid hok
              have HUPA := fun W => refUp_any x.path (by omega) W
              have hpl : ∀ q, (upL q).length ≤ q.length := upL_len
              have hupl := hpl x.path
              clear hcell y0 y1 y2 y3 hxs hbj hs hx hLl hln hlshl hnew hok
              generalize upL x.path = u0 at HUPA hup hupl
              go_wp2_with fail
              refine (HUPA _).mono ?_
              rintro e w4 ⟨rfl, hb4⟩
              have HB4 := Lib.hid (HBJ.out.trans (hb4.mono HBJ.out.size))
              clear HUPA hb4 z0
              go_wp2_with fail
              go_loopw [14, 15, 16, 64, 65, 66, 67, 68, 69, 70, 71, 72, 73, 74, 75, 76, 77, 78, 79, 80] (fun v14 _ _ _ _ _ _ _ _ _ _ _ _ _ _ _ _ _ _ _ wr => ∃ u : List UInt8, v14 = .string ⟨u.toArray⟩ ∧ UpOk lt u ∧ u.length ≤ 100000 ∧ Below w3.heap.size w3 wr)
                (fun v14 _ _ _ _ _ _ _ _ _ _ _ _ _ _ _ _ _ _ _ _ => strLen v14)
              case atStart => exact ⟨u0, rfl, hup, by omega, HB4.out⟩
              case round =>
                obtain ⟨u, rfl, hu, hul, hbu⟩ := hrel
                have HBU := Lib.hid hbu
                clear hbu
                by_cases hue : u = []
                · subst hue
                  have hx0 := HCX.out _ HBU.out
                  have HF := refFind_row (HR3.out.below HBU.out) x.path hlsh
                  obtain ⟨z0, _, _, _⟩ := hx0
                  go_wp2_with fail
                  refine HF.mono ?_
                  rintro e w4 ⟨y, rfl, hy, hb4⟩
                  have HY := Lib.hid hy
                  have hN4 := heap_alloc_new w4 (.cells #[.string ⟨y.path.toArray⟩, .int .u8 y.kind, .slice y.adr y.len y.cap, .string ⟨y.link.toArray⟩] 31)
                  have hbn4 : Below w4.heap.size w4 (w4.alloc (.cells #[.string ⟨y.path.toArray⟩, .int .u8 y.kind, .slice y.adr y.len y.cap, .string ⟨y.link.toArray⟩] 31)) := (Below.refl _ _).alloc (Nat.le_refl _) _
                  have HN4 := Lib.hid hN4
                  have HBN4 := Lib.hid hbn4
                  have HB34 := Lib.hid (HBU.out.trans (hb4.mono HBU.out.size))
                  clear hy hN4 hbn4 hb4 HF z0
                  unfold Nd.cells
                  generalize findL t0 x.path = fd at HLN HY ⊢
                  obtain ⟨fs, fb⟩ := fd
                  dsimp only at HY ⊢
                  go_upto_region 21 with fail
                  refine wp_region_ordV [0, 1, 2, 3, 4, 5, 6, 7, 8, 9, 10, 11, 12, 13, 14, 15, 16] [14] (by kernel_rfl) (by kernel_rfl) (by kernel_rfl) (fun d _ _ _ _ h => by cases d <;> exact h) (by kernel_rfl) ?_
                  intro WG hWG hBG
                  have hn4 : WG.heap[w4.heap.size]? = some (.cells #[.string ⟨y.path.toArray⟩, .int .u8 y.kind, .slice y.adr y.len y.cap, .string ⟨y.link.toArray⟩] 31 (0, 0)) := by rw [hWG]; exact HN4.out
                  have hl4 := (Array.getElem?_eq_some_iff.1 hn4).1
                  have hB4G := HBN4.out.trans (hBG.mono HBN4.out.size)
                  have hB3G := HB34.out.trans (hB4G.mono HB34.out.size)
                  have v0 := fun W (hW : Below WG.heap.size WG W) => (HCX.out W (hB3G.trans (hW.mono hB3G.size))).1
                  have v1 := fun W (hW : Below WG.heap.size WG W) => (HCX.out W (hB3G.trans (hW.mono hB3G.size))).2.1
                  have v2 := fun W (hW : Below WG.heap.size WG W) => (HCX.out W (hB3G.trans (hW.mono hB3G.size))).2.2.1
                  have v3 := fun W (hW : Below WG.heap.size WG W) => (HCX.out W (hB3G.trans (hW.mono hB3G.size))).2.2.2
                  have u0 := fun W (hW : Below WG.heap.size WG W) => (node_cells ((hW.block _ hl4).trans hn4)).1
                  have u1 := fun W (hW : Below WG.heap.size WG W) => (node_cells ((hW.block _ hl4).trans hn4)).2.1
                  have u2 := fun W (hW : Below WG.heap.size WG W) => (node_cells ((hW.block _ hl4).trans hn4)).2.2.1
                  have u3 := fun W (hW : Below WG.heap.size WG W) => (node_cells ((hW.block _ hl4).trans hn4)).2.2.2
                  have HYG := Lib.hid (HY.out.below hB4G)
                  have HXG := Lib.hid (HXS.out WG hB3G)
                  have H3G := Lib.hid hB3G
                  clear hBG hWG hn4 hB4G hB3G
                  by_cases hk50 : x.kind = 50
                  · rw [hk50] at v1
                    have hln := HLN.out hk50
                    cases fb with
                    | true =>
                      repeat (first | (refine wpOrd_take (v := ?_) rfl rfl rfl (fun W hW => ?_) ?_; rotate_left; (focus (go_simp; with_reducible rfl)); simp only [Act.put, List.setIfInBounds_toArray, List.set_cons_succ, List.set_cons_zero]) | (refine wpOrd_skip rfl rfl ?_; simp only [Act.put, List.setIfInBounds_toArray, List.set_cons_succ, List.set_cons_zero]))
                      refine wpOrd_call rfl rfl rfl ?_
                      go_simp
                      have HSN := sameW_any y x fs s WG HYG.out HXG.out
                      unfold Nd.cells at HSN
                      rw [hk50] at HSN
                      refine HSN.mono ?_
                      rintro e w7 ⟨⟨bb, rfl, hbb⟩, hb7⟩
                      refine ⟨hb7, ?_⟩
                      have H7 := Lib.hid (H3G.out.trans (hb7.mono H3G.out.size))
                      cases bb with
                      | true =>
                        repeat (first | (refine wpOrd_take (v := ?_) rfl rfl rfl (fun W hW => ?_) ?_; rotate_left; (focus (go_simp; with_reducible rfl)); simp only [Act.put, List.setIfInBounds_toArray, List.set_cons_succ, List.set_cons_zero]) | (refine wpOrd_skip rfl rfl ?_; simp only [Act.put, List.setIfInBounds_toArray, List.set_cons_succ, List.set_cons_zero]))
                        refine wpOrd_nil ?_
                        clear v0 v1 v2 v3 u0 u1 u2 u3 HSN hb7
                        go_wp2_with fail
                        go_roundw
                        case rel => exact ⟨j + 1, by omega, by go_num, H7.out⟩
                        case measure => simp only [intOf]; omega
                      | false =>
                        repeat (first | (refine wpOrd_take (v := ?_) rfl rfl rfl (fun W hW => ?_) ?_; rotate_left; (focus (go_simp; with_reducible rfl)); simp only [Act.put, List.setIfInBounds_toArray, List.set_cons_succ, List.set_cons_zero]) | (refine wpOrd_skip rfl rfl ?_; simp only [Act.put, List.setIfInBounds_toArray, List.set_cons_succ, List.set_cons_zero]))
                        refine wpOrd_nil ?_
                        obtain ⟨hol, htg, hxl⟩ := hln (fun e => by injection e with e1 e2; cases hbb e1)
                        clear v0 v1 v2 v3 u0 u1 u2 u3 HSN hb7
                        have HWW := Lib.hid H7.out
                        go_upto_region 22 with fail
                        refine wp_region_ordV [0, 1, 2, 3, 4, 5, 6, 7, 8, 9, 10, 11, 12, 13, 14, 15, 16, 17] [12] (by kernel_rfl) (by kernel_rfl) (by kernel_rfl) (fun d _ _ _ _ h => by cases d <;> exact h) (by kernel_rfl) ?_
                        intro WT hWT hBT
                        have hBW := HWW.out.trans (hBT.mono HWW.out.size)
                        have v0 := fun W (hW : Below WT.heap.size WT W) => (HCX.out W (hBW.trans (hW.mono hBW.size))).1
                        have v3 := fun W (hW : Below WT.heap.size WT W) => (HCX.out W (hBW.trans (hW.mono hBW.size))).2.2.2
                        have vr : ∀ W, Below WT.heap.size WT W → W.cell? ⟨wo.heap.size, 0, none⟩ = some (.string ⟨o.root.toArray⟩) := fun W hW => by
                          have := row_cells (HNC3.out W (hBW.trans (hW.mono hBW.size))) 0 (.string ⟨o.root.toArray⟩) rfl
                          rwa [Addr.add_lit, Nat.zero_add] at this
                        have vl := fun W (hW : Below WT.heap.size WT W) => row_cells (HNC3.out W (hBW.trans (hW.mono hBW.size))) 1 (.bool o.links) rfl
                        rw [hol] at vl
                        have HTG := refTarget_any o.root x.path x.link (by omega) (by omega) hxl WT
                        rw [htg] at HTG
                        generalize (targetV o.root x.path x.link).1 = tp at HTG
                        have HBT := Lib.hid hBW
                        clear hWT hBT hBW
                        repeat (first | (refine wpOrd_take (v := ?_) rfl rfl rfl (fun W hW => ?_) ?_; rotate_left; (focus (go_simp; with_reducible rfl)); simp only [Act.put, List.setIfInBounds_toArray, List.set_cons_succ, List.set_cons_zero]) | (refine wpOrd_skip rfl rfl ?_; simp only [Act.put, List.setIfInBounds_toArray, List.set_cons_succ, List.set_cons_zero]))
                        refine wpOrd_call rfl rfl rfl ?_
                        go_simp
                        refine HTG.mono ?_
                        rintro e w8 ⟨rfl, hb8⟩
                        refine ⟨hb8, ?_⟩
                        repeat (first | (refine wpOrd_take (v := ?_) rfl rfl rfl (fun W hW => ?_) ?_; rotate_left; (focus (go_simp; with_reducible rfl)); simp only [Act.put, List.setIfInBounds_toArray, List.set_cons_succ, List.set_cons_zero]) | (refine wpOrd_skip rfl rfl ?_; simp only [Act.put, List.setIfInBounds_toArray, List.set_cons_succ, List.set_cons_zero]))
                        refine wpOrd_nil ?_
                        have v1 := vl w8 hb8
                        rw [Addr.add_lit, Nat.zero_add] at v1
                        have H8 := Lib.hid (HBT.out.trans (hb8.mono HBT.out.size))
                        clear v0 v3 vr vl HTG hb8
                        go_wp2_with fail
                        go_roundw
                        case rel => exact ⟨j + 1, by omega, by go_num, H8.out⟩
                        case measure => simp only [intOf]; omega
                    | false =>
                      repeat (first | (refine wpOrd_take (v := ?_) rfl rfl rfl (fun W hW => ?_) ?_; rotate_left; (focus (go_simp; with_reducible rfl)); simp only [Act.put, List.setIfInBounds_toArray, List.set_cons_succ, List.set_cons_zero]) | (refine wpOrd_skip rfl rfl ?_; simp only [Act.put, List.setIfInBounds_toArray, List.set_cons_succ, List.set_cons_zero]))
                      refine wpOrd_nil ?_
                      obtain ⟨hol, htg, hxl⟩ := hln (fun e => by injection e with e1 e2; cases e2)
                      clear v0 v1 v2 v3 u0 u1 u2 u3
                      have HWW := Lib.hid H3G.out
                      go_upto_region 22 with fail
                      refine wp_region_ordV [0, 1, 2, 3, 4, 5, 6, 7, 8, 9, 10, 11, 12, 13, 14, 15, 16, 17] [12] (by kernel_rfl) (by kernel_rfl) (by kernel_rfl) (fun d _ _ _ _ h => by cases d <;> exact h) (by kernel_rfl) ?_
                      intro WT hWT hBT
                      have hBW := HWW.out.trans (hBT.mono HWW.out.size)
                      have v0 := fun W (hW : Below WT.heap.size WT W) => (HCX.out W (hBW.trans (hW.mono hBW.size))).1
                      have v3 := fun W (hW : Below WT.heap.size WT W) => (HCX.out W (hBW.trans (hW.mono hBW.size))).2.2.2
                      have vr : ∀ W, Below WT.heap.size WT W → W.cell? ⟨wo.heap.size, 0, none⟩ = some (.string ⟨o.root.toArray⟩) := fun W hW => by
                        have := row_cells (HNC3.out W (hBW.trans (hW.mono hBW.size))) 0 (.string ⟨o.root.toArray⟩) rfl
                        rwa [Addr.add_lit, Nat.zero_add] at this
                      have vl := fun W (hW : Below WT.heap.size WT W) => row_cells (HNC3.out W (hBW.trans (hW.mono hBW.size))) 1 (.bool o.links) rfl
                      rw [hol] at vl
                      have HTG := refTarget_any o.root x.path x.link (by omega) (by omega) hxl WT
                      rw [htg] at HTG
                      generalize (targetV o.root x.path x.link).1 = tp at HTG
                      have HBT := Lib.hid hBW
                      clear hWT hBT hBW
                      repeat (first | (refine wpOrd_take (v := ?_) rfl rfl rfl (fun W hW => ?_) ?_; rotate_left; (focus (go_simp; with_reducible rfl)); simp only [Act.put, List.setIfInBounds_toArray, List.set_cons_succ, List.set_cons_zero]) | (refine wpOrd_skip rfl rfl ?_; simp only [Act.put, List.setIfInBounds_toArray, List.set_cons_succ, List.set_cons_zero]))
                      refine wpOrd_call rfl rfl rfl ?_
                      go_simp
                      refine HTG.mono ?_
                      rintro e w8 ⟨rfl, hb8⟩
                      refine ⟨hb8, ?_⟩
                      repeat (first | (refine wpOrd_take (v := ?_) rfl rfl rfl (fun W hW => ?_) ?_; rotate_left; (focus (go_simp; with_reducible rfl)); simp only [Act.put, List.setIfInBounds_toArray, List.set_cons_succ, List.set_cons_zero]) | (refine wpOrd_skip rfl rfl ?_; simp only [Act.put, List.setIfInBounds_toArray, List.set_cons_succ, List.set_cons_zero]))
                      refine wpOrd_nil ?_
                      have v1 := vl w8 hb8
                      rw [Addr.add_lit, Nat.zero_add] at v1
                      have H8 := Lib.hid (HBT.out.trans (hb8.mono HBT.out.size))
                      clear v0 v3 vr vl HTG hb8
                      go_wp2_with fail
                      go_roundw
                      case rel => exact ⟨j + 1, by omega, by go_num, H8.out⟩
                      case measure => simp only [intOf]; omega
                  · iterate 5 (first | (refine wpOrd_take (v := ?_) rfl rfl rfl (fun W hW => ?_) ?_; rotate_left; (focus (go_simp; with_reducible rfl)); simp only [Act.put, List.setIfInBounds_toArray, List.set_cons_succ, List.set_cons_zero]) | (refine wpOrd_skip rfl rfl ?_; simp only [Act.put, List.setIfInBounds_toArray, List.set_cons_succ, List.set_cons_zero]))
                    refine wpOrd_take (v := .bool true) rfl rfl rfl (fun W hW => ?_) ?_
                    · go_simp
                    simp only [Act.put, List.setIfInBounds_toArray, List.set_cons_succ, List.set_cons_zero]
                    repeat (first | (refine wpOrd_take (v := ?_) rfl rfl rfl (fun W hW => ?_) ?_; rotate_left; (focus (go_simp; with_reducible rfl)); simp only [Act.put, List.setIfInBounds_toArray, List.set_cons_succ, List.set_cons_zero]) | (refine wpOrd_skip rfl rfl ?_; simp only [Act.put, List.setIfInBounds_toArray, List.set_cons_succ, List.set_cons_zero]))
                    refine wpOrd_nil ?_
                    clear v0 v1 v2 v3 u0 u1 u2 u3
                    go_wp2_with fail
                    go_roundw
                    case rel => exact ⟨j + 1, by omega, by go_num, H3G.out⟩
                    case measure => simp only [intOf]; omega
                · obtain ⟨m, hm, hmp, hmk, hfu⟩ := upOk_find HNML.out hu hue
                  have hupm : UpOk lt (upL u) := by rw [← hmp]; exact (HOKL.out.2 m hm).2
                  have e1 := emp hue
                  have HF := refFind_row (HRl.out.below HBU.out) u HSL.out
                  rw [hfu] at HF
                  have hsh := up_short hue
                  have HUU := fun W => refUp_any u (by omega) W
                  generalize upL u = u1 at hupm HUU hsh
                  clear hfu hmp
                  go_wp2_with fail
                  refine HF.mono ?_
                  rintro e w4 ⟨y, rfl, hy, hb4⟩
                  have hyk : y.kind = 53 := hy.2.1.trans hmk
                  have HB34 := Lib.hid (HBU.out.trans (hb4.mono HBU.out.size))
                  obtain ⟨yp, yk, ya, yn, yc, yl⟩ := y
                  unfold Nd.cells
                  dsimp only at hyk ⊢
                  subst hyk
                  clear hy hb4 HF hm hmk
                  go_wp2_with fail
                  refine (HUU _).mono ?_
                  rintro e w6 ⟨rfl, hb6⟩
                  have HB6 := Lib.hid ((HB34.out.alloc HB34.out.size _).trans (hb6.mono (HB34.out.alloc HB34.out.size _).size))
                  clear HUU hb6
                  go_wp2_with fail
                  go_roundw
                  case rel => exact ⟨u1, rfl, hupm, by omega, HB6.out⟩
                  case measure => exact hsh
            · obtain rfl : j = lt.length := by omega
              have HBE := Lib.hid (HB3.out.trans (hbj.mono HB3.out.size))
              clear hbj hlen2 hL hLl hNs hNl
              go_wp2_with fail
              refine (HK _).mono ?_
              rintro e w9 ⟨rfl, hb9⟩
              go_wp2_with fail
              go_ret
              exact ⟨rfl, HBE.out.trans (hb9.mono HBE.out.size)⟩

end Go.Proofs.Ytlbipmlbkcdmnaa
