/-
  The document's answer for pull: one member.
-/
import Derived.Test.YtlbipmlbkcdmnaaGreatNgV
namespace Go.Proofs.YtlbipmlbkcdmnaaGreat
open Go.RowKit Go.Shelf

structure OneSt (w W : World) (bm bo : Nat) (m : Mem) (pv dv : Value) (o : Opt) : Prop where
  M : W.heap[bm]? = some (.cells (memCells m pv dv).toArray 32 (0, 0))
  O : W.heap[bo]? = some (.cells (optCells o).toArray 40 (0, 0))
  B : Below w.heap.size w W

theorem OneSt.below {w W W' : World} {bm bo : Nat} {m : Mem} {pv dv : Value} {o : Opt} (h : OneSt w W bm bo m pv dv o) (hb : Below W.heap.size W W') : OneSt w W' bm bo m pv dv o :=
  ⟨(hb.block _ (Array.getElem?_eq_some_iff.1 h.M).1).trans h.M, (hb.block _ (Array.getElem?_eq_some_iff.1 h.O).1).trans h.O, h.B.trans (hb.mono h.B.size)⟩
theorem OneSt.mem {w W : World} {bm bo : Nat} {m : Mem} {pv dv : Value} {o : Opt} (h : OneSt w W bm bo m pv dv o) (j : Nat) (v : Value) (hj : (memCells m pv dv)[j]? = some v) : W.cell? ⟨bm, j, none⟩ = some v := by
  have := row_cells h.M j v hj
  rwa [Addr.add_lit, Nat.zero_add] at this
theorem OneSt.opt {w W : World} {bm bo : Nat} {m : Mem} {pv dv : Value} {o : Opt} (h : OneSt w W bm bo m pv dv o) (j : Nat) (v : Value) (hj : (optCells o)[j]? = some v) : W.cell? ⟨bo, j, none⟩ = some v := by
  have := row_cells h.O j v hj
  rwa [Addr.add_lit, Nat.zero_add] at this

def oneR (o : Opt) (ss : List Sn) (m : Mem) : List Sn × Int :=
  if (whereV o.root m.name).2 = true then if (aheadL o.root (whereV o.root m.name).1).all (openP ss true) = true then kindE o ss m (whereV o.root m.name).1 else (ss, 63) else (ss, 60)
theorem one_R (o : Opt) (ss : List Sn) (m : Mem) : oneV o ss m = if ((cleanV o.root).2 && (cleanV o.root).1 == o.root && ((findL ss o.root).2 && (findL ss o.root).1.kind == 53)) = true then oneR o ss m else (ss, 65) := by
  unfold oneR
  rw [open_true]
  rfl

set_option maxRecDepth 100000 in
set_option maxHeartbeats 8000000 in
theorem refOne_any {w : World} {v : Value} {ss : List Sn} {m : Mem} {pv dv : Value} {o : Opt} (h : RowOf w v ss) (hM : MemOk w m pv dv) (hF : FitsM o m) (hS : FitsS ss) :
    Calls Tryz.prog 22 #[v, .agg (memCells m pv dv).toArray, .agg (optCells o).toArray] w fun e w' => ∃ v', e = .returned (.tuple #[v', .int .i64 (oneV o ss m).2]) ∧ RowOf w' v' (oneV o ss m).1 ∧ Below w.heap.size w w' := by
  have hSh : Short ss := ⟨by have := hS.1; omega, fun s hs => by have := hS.2 s hs; omega⟩
  have HSH := Lib.hid hSh
  obtain ⟨i32, hi32, hz32⟩ := size56
  obtain ⟨i40, hi40, hz40⟩ := size62
  have hr1 := hF.root
  have HFF := hF
  have hr2 := hF.link
  have hr3 := hF.name
  have h1 := heap_alloc_new w (.cells (memCells m pv dv).toArray 32)
  have hb1 : Below w.heap.size w (w.alloc (.cells (memCells m pv dv).toArray 32)) := (Below.refl _ _).alloc (Nat.le_refl _) _
  have hs1 : (w.alloc (.cells (memCells m pv dv).toArray 32)).heap.size = w.heap.size + 1 := by simp
  generalize hw1 : w.alloc (.cells (memCells m pv dv).toArray 32) = w1 at h1 hb1 hs1
  have h2 := heap_alloc_new w1 (.cells (optCells o).toArray 40)
  have hb2 : Below w1.heap.size w1 (w1.alloc (.cells (optCells o).toArray 40)) := (Below.refl _ _).alloc (Nat.le_refl _) _
  have hs2 : (w1.alloc (.cells (optCells o).toArray 40)).heap.size = w1.heap.size + 1 := by simp
  generalize hw2 : w1.alloc (.cells (optCells o).toArray 40) = w2 at h2 hb2 hs2
  have hst : OneSt w w2 w.heap.size w1.heap.size m pv dv o := ⟨(hb2.block _ (by omega)).trans h1, h2, hb1.trans (hb2.mono hb1.size)⟩
  have HST := Lib.hid hst
  have HR := Lib.hid (h.below hst.B)
  have HM := Lib.hid (hM.below hst.B)
  have HI32 := Lib.hid hi32
  have HZ32 := Lib.hid hz32
  have HI40 := Lib.hid hi40
  have HZ40 := Lib.hid hz40
  have r0 := hst.opt 0 (.string ⟨o.root.toArray⟩) rfl
  have HV := Lib.hid (one_R o ss m)
  have HC := refClean_any o.root (by omega) w2
  have hwl := where_len o.root m.name
  have HWH := Lib.hid (fun W => refWhere_any o.root m.name (by omega) (by omega) W)
  have HOR := Lib.hid (show oneR o ss m = if (whereV o.root m.name).2 = true then if (aheadL o.root (whereV o.root m.name).1).all (openP ss true) = true then kindE o ss m (whereV o.root m.name).1 else (ss, 63) else (ss, 60) from rfl)
  clear hi32 hz32 hi40 hz40 h1 hb1 h2 hb2 hst h hM hs1 hs2
  generalize oneV o ss m = ov at HV ⊢
  generalize oneR o ss m = orr at HV HOR
  generalize cleanV o.root = cv at HC HV
  obtain ⟨cc, cok⟩ := cv
  dsimp only at HC HV
  go_enter Tryz.func22, Tryz.ntmps22
  go_wp2_with fail
  refine HC.mono ?_
  rintro e w3 ⟨rfl, hb3⟩
  have HST3 := Lib.hid (HST.out.below hb3)
  have HR3 := Lib.hid (HR.out.below hb3)
  have HM3 := Lib.hid (HM.out.below hb3)
  clear hb3 r0 hw1 hw2 HC
  have r0 := HST3.out.opt 0 (.string ⟨o.root.toArray⟩) rfl
  have HF := refFind_row HR3.out o.root HSH.out
  generalize findL ss o.root = fd at HF HV
  obtain ⟨⟨fp, fk, fdt, fl⟩, fb⟩ := fd
  dsimp only at HF HV
  go_wp2_with fail
  refine HF.mono ?_
  rintro e w4 ⟨y, rfl, hy, hb4⟩
  have hyk := hy.2.1
  obtain ⟨yp, yk, ya, yn, yc, yl⟩ := y
  unfold Nd.cells
  dsimp only at hyk ⊢
  subst hyk
  have hb5 := hb4.alloc hb4.size (.cells #[.string ⟨yp.toArray⟩, .int .u8 yk, .slice ya yn yc, .string ⟨yl.toArray⟩] 49)
  have HST5 := Lib.hid (HST3.out.below hb5)
  have HR5 := Lib.hid (HR3.out.below hb5)
  have HM5 := Lib.hid (HM3.out.below hb5)
  have hn5 := heap_alloc_new w4 (.cells #[.string ⟨yp.toArray⟩, .int .u8 yk, .slice ya yn yc, .string ⟨yl.toArray⟩] 49)
  clear hb4 hb5 hy HF r0
  go_upto_region 3 with fail
  generalize w4.alloc (.cells #[.string ⟨yp.toArray⟩, .int .u8 yk, .slice ya yn yc, .string ⟨yl.toArray⟩] 49) = w5 at HST5 HR5 HM5 hn5 ⊢
  generalize w4.heap.size = b4 at hn5 ⊢
  obtain ⟨_, n1, _, _⟩ := node_cells hn5
  have r0 := HST5.out.opt 0 (.string ⟨o.root.toArray⟩) rfl
  clear hn5
  by_cases hgood : (cok && cc == o.root && (fb && yk == 53)) = true
  · have hv : ov = orr := by rw [HV.out, if_pos hgood]
    simp only [Bool.and_eq_true, beq_iff_eq] at hgood
    obtain ⟨⟨rfl, hcc⟩, rfl, rfl⟩ := hgood
    subst hv
    subst hcc
    have hceq : (o.root == o.root) = true := by simp
    go_upto_region 5 with fail
    clear hceq n1
    have r0 := HST5.out.opt 0 (.string ⟨o.root.toArray⟩) rfl
    have l0 := HST5.out.mem 0 (.string ⟨m.name.toArray⟩) rfl
    have HW := HWH.out w5
    have HKD := Lib.hid (fun h => kind_node o ss m (whereV o.root m.name).1 h)
    have HKF := Lib.hid (show kindE o ss m (whereV o.root m.name).1 = if m.kind = 53 then dirE o ss (whereV o.root m.name).1 else if m.kind = 48 then fileE o ss m (whereV o.root m.name).1 else if m.kind = 50 then softE o ss m (whereV o.root m.name).1 else if m.kind = 49 then hardE o ss m (whereV o.root m.name).1 else (ss, 31) from rfl)
    generalize whereV o.root m.name = wv at HW HOR HKD HKF hwl
    obtain ⟨wp, wok⟩ := wv
    dsimp only at HW HOR HKD HKF hwl
    go_wp2_with fail
    refine HW.mono ?_
    rintro e w6 ⟨rfl, hb6⟩
    have HST6 := Lib.hid (HST5.out.below hb6)
    have HR6 := Lib.hid (HR5.out.below hb6)
    have HM6 := Lib.hid (HM5.out.below hb6)
    clear hb6 r0 l0 HW HWH
    cases wok with
    | false =>
      obtain rfl : ov = (ss, 60) := by rw [HOR.out]; rfl
      go_wp2_with fail
      go_ret2
      exact ⟨_, rfl, HR6.out, HST6.out.B⟩
    | true =>
      have r0 := HST6.out.opt 0 (.string ⟨o.root.toArray⟩) rfl
      have hash := ahead_short o.root wp
      go_wp2_with fail
      refine (refAhead_any o.root wp (by omega) (by omega) w6).mono ?_
      rintro e w7 ⟨av, rfl, hrow, hb7⟩
      have HST7 := Lib.hid (HST6.out.below hb7)
      have HR7 := Lib.hid (HR6.out.below hb7)
      have HM7 := Lib.hid (HM6.out.below hb7)
      have HOP := refOpen_row HR7.out hSh hrow true (by omega)
      generalize (aheadL o.root wp).all (openP ss true) = ab at HOP HOR
      clear hb7 hrow r0
      go_wp2_with fail
      refine HOP.mono ?_
      rintro e w8 ⟨rfl, hb8⟩
      have HST8 := Lib.hid (HST7.out.below hb8)
      have HR8 := Lib.hid (HR7.out.below hb8)
      have HM8 := Lib.hid (HM7.out.below hb8)
      clear hb8 HOP
      cases ab with
      | false =>
        obtain rfl : ov = (ss, 63) := by rw [HOR.out]; rfl
        go_wp2_with fail
        go_ret2
        exact ⟨_, rfl, HR8.out, HST8.out.B⟩
      | true =>
        have HOV := Lib.hid (show ov = kindE o ss m wp by rw [HOR.out]; rfl)
        clear HOR
        have c2 := HST8.out.mem 2 (.int .u8 m.kind) rfl
        by_cases h53 : m.kind = 53
        · have HDE := Lib.hid (show ov = if ((findL ss wp).2 && (findL ss wp).1.kind == 53) = true then (ss, 0) else if ((findL ss wp).2 && !o.replace) = true then (ss, 62) else (layL o.root ⟨wp, 53, [], []⟩ ss, 0) by rw [HOV.out, HKF.out, if_pos h53]; rfl)
          rw [h53] at c2
          clear HOV HKF HKD h53
          have HF := refFind_row HR8.out wp HSH.out
          generalize findL ss wp = fd at HF HDE
          obtain ⟨⟨fp, fk, fdt, fl⟩, fb⟩ := fd
          dsimp only at HF HDE
          go_wp2_with fail
          refine HF.mono ?_
          rintro e w9 ⟨y, rfl, hy, hb9⟩
          have hyk := hy.2.1
          obtain ⟨yp, yk, ya, yn, yc, yl⟩ := y
          unfold Nd.cells
          dsimp only at hyk ⊢
          subst hyk
          have hb10 := hb9.alloc hb9.size (.cells #[.string ⟨yp.toArray⟩, .int .u8 yk, .slice ya yn yc, .string ⟨yl.toArray⟩] 49)
          have HST10 := Lib.hid (HST8.out.below hb10)
          have HR10 := Lib.hid (HR8.out.below hb10)
          have hn10 := heap_alloc_new w9 (.cells #[.string ⟨yp.toArray⟩, .int .u8 yk, .slice ya yn yc, .string ⟨yl.toArray⟩] 49)
          clear hb9 hb10 hy HF c2
          go_upto_region 14 with fail
          generalize w9.alloc (.cells #[.string ⟨yp.toArray⟩, .int .u8 yk, .slice ya yn yc, .string ⟨yl.toArray⟩] 49) = w10 at HST10 HR10 hn10 ⊢
          generalize w9.heap.size = b9 at hn10 ⊢
          obtain ⟨_, n1, _, _⟩ := node_cells hn10
          clear hn10
          cases fb with
          | true =>
            by_cases hk53 : yk = 53
            · subst hk53
              obtain rfl : ov = (ss, 0) := by rw [HDE.out]; rfl
              go_wp2_with fail
              go_ret2
              exact ⟨_, rfl, HR10.out, HST10.out.B⟩
            · have o2 := HST10.out.opt 2 (.bool o.replace) rfl
              cases hrp : o.replace with
              | false =>
                obtain rfl : ov = (ss, 62) := by rw [HDE.out, hrp]; simp [hk53]
                rw [hrp] at o2
                clear hrp
                go_wp2_with fail
                go_ret2
                exact ⟨_, rfl, HR10.out, HST10.out.B⟩
              | true =>
                have hov : ov = (layL o.root ⟨wp, 53, [], []⟩ ss, 0) := by rw [HDE.out, hrp]; simp [hk53]
                subst hov
                rw [hrp] at o2
                clear hrp
                have r0 := HST10.out.opt 0 (.string ⟨o.root.toArray⟩) rfl
                have HLY := refLay_row HR10.out hS.1 hS.2 o.root (by omega) ⟨wp, 53, none, 0, 0, []⟩ ⟨wp, 53, [], []⟩ ⟨rfl, rfl, rfl, ⟨rfl, fun j hj => absurd hj (Nat.not_lt_zero _)⟩, Nat.le_refl _, Nat.zero_le _⟩ (by show wp.length ≤ 1000000; omega)
                unfold Nd.cells at HLY
                dsimp only at HLY
                go_wp2_with fail
                refine HLY.mono ?_
                rintro e w11 ⟨v11, rfl, hR11, hb11⟩
                have HR11 := Lib.hid hR11
                have HB11 := Lib.hid (HST10.out.below hb11)
                clear hR11 hb11 HLY
                go_wp2_with fail
                go_ret2
                exact ⟨_, rfl, HR11.out, HB11.out.B⟩
          | false =>
            have hov : ov = (layL o.root ⟨wp, 53, [], []⟩ ss, 0) := by rw [HDE.out]; rfl
            subst hov
            have r0 := HST10.out.opt 0 (.string ⟨o.root.toArray⟩) rfl
            have HLY := refLay_row HR10.out hS.1 hS.2 o.root (by omega) ⟨wp, 53, none, 0, 0, []⟩ ⟨wp, 53, [], []⟩ ⟨rfl, rfl, rfl, ⟨rfl, fun j hj => absurd hj (Nat.not_lt_zero _)⟩, Nat.le_refl _, Nat.zero_le _⟩ (by show wp.length ≤ 1000000; omega)
            unfold Nd.cells at HLY
            dsimp only at HLY
            go_wp2_with fail
            refine HLY.mono ?_
            rintro e w11 ⟨v11, rfl, hR11, hb11⟩
            have HR11 := Lib.hid hR11
            have HB11 := Lib.hid (HST10.out.below hb11)
            clear hR11 hb11 HLY
            go_wp2_with fail
            go_ret2
            exact ⟨_, rfl, HR11.out, HB11.out.B⟩
        · by_cases h49 : m.kind = 49
          · have HLN := Lib.hid (show o.links = true → ov = if nodeC o ss m wp = 0 then (layL o.root (nodeV o ss m wp) ss, 0) else (ss, nodeC o ss m wp) from fun h => by rw [HOV.out]; exact HKD.out (.inr ⟨.inr h49, h⟩))
            have HLF := Lib.hid (show o.links = false → ov = (ss, 61) from fun h => by rw [HOV.out, HKF.out, if_neg h53, if_neg (by omega), if_neg (by omega), if_pos h49]; unfold hardE; rw [h]; rfl)
            have hk3 : m.kind = 48 ∨ m.kind = 50 ∨ m.kind = 49 := by omega
            have HK3 := Lib.hid hk3
            have o1 := HST8.out.opt 1 (.bool o.links) rfl
            rw [h49] at c2
            clear HOV HKF HKD h53 hk3 h49
            cases hln : o.links with
            | false =>
              obtain rfl : ov = (ss, 61) := HLF.out hln
              rw [hln] at o1
              clear hln
              go_wp2_with fail
              go_ret2
              exact ⟨_, rfl, HR8.out, HST8.out.B⟩
            | true =>
              have HLN := Lib.hid (HLN.out hln)
              rw [hln] at o1
              clear hln HLF
              go_upto_region 24 with fail
              clear o1
              apply wp_region_lit
              iterate 3 go_step
              refine wpList_load_row 32 _ i32 ⟨w.heap.size, 0, none⟩ (memCells m pv dv) HI32.out HZ32.out (agg56 _) rfl (row_cells HST8.out.M) ?_
              refine wpList_load_row 40 _ i40 ⟨w1.heap.size, 0, none⟩ (optCells o) HI40.out HZ40.out (agg62 _) rfl (row_cells HST8.out.O) ?_
              go_wp2_with fail
              refine (refNode_any (p := wp) HR8.out HM8.out HFF hS HK3.out (by omega)).mono ?_
              rintro e w9 ⟨y, rfl, hy, hb9⟩
              have HY := Lib.hid hy
              have HST9 := Lib.hid (HST8.out.below hb9)
              have HR9 := Lib.hid (HR8.out.below hb9)
              have hnp := nodeV_path o ss m wp
              generalize nodeC o ss m wp = nc at HLN HY ⊢
              generalize nodeV o ss m wp = nv at HLN HY hnp ⊢
              clear hy hb9 c2
              by_cases hnc : nc = 0
              · subst hnc
                have hov : ov = (layL o.root nv ss, 0) := by rw [HLN.out]; simp
                subst hov
                have hyy := HY.out (by first | rfl | trivial)
                have hb10 : Below w9.heap.size w9 (w9.alloc (.cells #[.string ⟨y.path.toArray⟩, .int .u8 y.kind, .slice y.adr y.len y.cap, .string ⟨y.link.toArray⟩] 49)) := (Below.refl _ _).alloc (Nat.le_refl _) _
                have HST10 := Lib.hid (HST9.out.below hb10)
                have HR10 := Lib.hid (HR9.out.below hb10)
                have HYY := Lib.hid (hyy.below hb10)
                have hn10 := heap_alloc_new w9 (.cells #[.string ⟨y.path.toArray⟩, .int .u8 y.kind, .slice y.adr y.len y.cap, .string ⟨y.link.toArray⟩] 49)
                clear hyy hb10
                unfold Nd.cells
                go_upto_region 27 with fail
                generalize w9.alloc (.cells #[.string ⟨y.path.toArray⟩, .int .u8 y.kind, .slice y.adr y.len y.cap, .string ⟨y.link.toArray⟩] 49) = w10 at HST10 HR10 HYY hn10 ⊢
                generalize w9.heap.size = b9 at hn10 ⊢
                obtain ⟨n0, n1, n2, n3⟩ := node_cells hn10
                have r0 := HST10.out.opt 0 (.string ⟨o.root.toArray⟩) rfl
                have HLY := refLay_row HR10.out hS.1 hS.2 o.root (by omega) y nv HYY.out (by rw [hnp]; omega)
                unfold Nd.cells at HLY
                clear hn10 hnp
                go_wp2_with fail
                refine HLY.mono ?_
                rintro e w11 ⟨v11, rfl, hR11, hb11⟩
                have HR11 := Lib.hid hR11
                have HB11 := Lib.hid (HST10.out.below hb11)
                clear hR11 hb11 HLY
                go_wp2_with fail
                go_ret2
                exact ⟨_, rfl, HR11.out, HB11.out.B⟩
              · have hov : ov = (ss, nc) := by rw [HLN.out]; simp [hnc]
                subst hov
                have hb10 : Below w9.heap.size w9 (w9.alloc (.cells #[.string ⟨y.path.toArray⟩, .int .u8 y.kind, .slice y.adr y.len y.cap, .string ⟨y.link.toArray⟩] 49)) := (Below.refl _ _).alloc (Nat.le_refl _) _
                have HST10 := Lib.hid (HST9.out.below hb10)
                have HR10 := Lib.hid (HR9.out.below hb10)
                clear hb10 hnp
                unfold Nd.cells
                go_wp2_with fail
                go_ret2
                exact ⟨_, rfl, HR10.out, HST10.out.B⟩
          · by_cases h50 : m.kind = 50
            · have HLN := Lib.hid (show o.links = true → ov = if nodeC o ss m wp = 0 then (layL o.root (nodeV o ss m wp) ss, 0) else (ss, nodeC o ss m wp) from fun h => by rw [HOV.out]; exact HKD.out (.inr ⟨.inl h50, h⟩))
              have HLF := Lib.hid (show o.links = false → ov = (ss, 61) from fun h => by rw [HOV.out, HKF.out, if_neg h53, if_neg (by omega), if_pos h50]; unfold softE; rw [h]; rfl)
              have hk3 : m.kind = 48 ∨ m.kind = 50 ∨ m.kind = 49 := by omega
              have HK3 := Lib.hid hk3
              have o1 := HST8.out.opt 1 (.bool o.links) rfl
              rw [h50] at c2
              clear HOV HKF HKD h53 hk3 h49 h50
              cases hln : o.links with
              | false =>
                obtain rfl : ov = (ss, 61) := HLF.out hln
                rw [hln] at o1
                clear hln
                go_wp2_with fail
                go_ret2
                exact ⟨_, rfl, HR8.out, HST8.out.B⟩
              | true =>
                have HLN := Lib.hid (HLN.out hln)
                rw [hln] at o1
                clear hln HLF
                go_upto_region 24 with fail
                clear o1
                apply wp_region_lit
                iterate 3 go_step
                refine wpList_load_row 32 _ i32 ⟨w.heap.size, 0, none⟩ (memCells m pv dv) HI32.out HZ32.out (agg56 _) rfl (row_cells HST8.out.M) ?_
                refine wpList_load_row 40 _ i40 ⟨w1.heap.size, 0, none⟩ (optCells o) HI40.out HZ40.out (agg62 _) rfl (row_cells HST8.out.O) ?_
                go_wp2_with fail
                refine (refNode_any (p := wp) HR8.out HM8.out HFF hS HK3.out (by omega)).mono ?_
                rintro e w9 ⟨y, rfl, hy, hb9⟩
                have HY := Lib.hid hy
                have HST9 := Lib.hid (HST8.out.below hb9)
                have HR9 := Lib.hid (HR8.out.below hb9)
                have hnp := nodeV_path o ss m wp
                generalize nodeC o ss m wp = nc at HLN HY ⊢
                generalize nodeV o ss m wp = nv at HLN HY hnp ⊢
                clear hy hb9 c2
                by_cases hnc : nc = 0
                · subst hnc
                  have hov : ov = (layL o.root nv ss, 0) := by rw [HLN.out]; simp
                  subst hov
                  have hyy := HY.out (by first | rfl | trivial)
                  have hb10 : Below w9.heap.size w9 (w9.alloc (.cells #[.string ⟨y.path.toArray⟩, .int .u8 y.kind, .slice y.adr y.len y.cap, .string ⟨y.link.toArray⟩] 49)) := (Below.refl _ _).alloc (Nat.le_refl _) _
                  have HST10 := Lib.hid (HST9.out.below hb10)
                  have HR10 := Lib.hid (HR9.out.below hb10)
                  have HYY := Lib.hid (hyy.below hb10)
                  have hn10 := heap_alloc_new w9 (.cells #[.string ⟨y.path.toArray⟩, .int .u8 y.kind, .slice y.adr y.len y.cap, .string ⟨y.link.toArray⟩] 49)
                  clear hyy hb10
                  unfold Nd.cells
                  go_upto_region 27 with fail
                  generalize w9.alloc (.cells #[.string ⟨y.path.toArray⟩, .int .u8 y.kind, .slice y.adr y.len y.cap, .string ⟨y.link.toArray⟩] 49) = w10 at HST10 HR10 HYY hn10 ⊢
                  generalize w9.heap.size = b9 at hn10 ⊢
                  obtain ⟨n0, n1, n2, n3⟩ := node_cells hn10
                  have r0 := HST10.out.opt 0 (.string ⟨o.root.toArray⟩) rfl
                  have HLY := refLay_row HR10.out hS.1 hS.2 o.root (by omega) y nv HYY.out (by rw [hnp]; omega)
                  unfold Nd.cells at HLY
                  clear hn10 hnp
                  go_wp2_with fail
                  refine HLY.mono ?_
                  rintro e w11 ⟨v11, rfl, hR11, hb11⟩
                  have HR11 := Lib.hid hR11
                  have HB11 := Lib.hid (HST10.out.below hb11)
                  clear hR11 hb11 HLY
                  go_wp2_with fail
                  go_ret2
                  exact ⟨_, rfl, HR11.out, HB11.out.B⟩
                · have hov : ov = (ss, nc) := by rw [HLN.out]; simp [hnc]
                  subst hov
                  have hb10 : Below w9.heap.size w9 (w9.alloc (.cells #[.string ⟨y.path.toArray⟩, .int .u8 y.kind, .slice y.adr y.len y.cap, .string ⟨y.link.toArray⟩] 49)) := (Below.refl _ _).alloc (Nat.le_refl _) _
                  have HST10 := Lib.hid (HST9.out.below hb10)
                  have HR10 := Lib.hid (HR9.out.below hb10)
                  clear hb10 hnp
                  unfold Nd.cells
                  go_wp2_with fail
                  go_ret2
                  exact ⟨_, rfl, HR10.out, HST10.out.B⟩
            · by_cases h48 : m.kind = 48
              · have HLN := Lib.hid (show ov = if nodeC o ss m wp = 0 then (layL o.root (nodeV o ss m wp) ss, 0) else (ss, nodeC o ss m wp) by rw [HOV.out]; exact HKD.out (.inl h48))
                have hk3 : m.kind = 48 ∨ m.kind = 50 ∨ m.kind = 49 := .inl h48
                have HK3 := Lib.hid hk3
                rw [h48] at c2
                clear HOV HKF HKD h53 h49 h50 h48 hk3
                go_upto_region 24 with fail
                apply wp_region_lit
                iterate 3 go_step
                refine wpList_load_row 32 _ i32 ⟨w.heap.size, 0, none⟩ (memCells m pv dv) HI32.out HZ32.out (agg56 _) rfl (row_cells HST8.out.M) ?_
                refine wpList_load_row 40 _ i40 ⟨w1.heap.size, 0, none⟩ (optCells o) HI40.out HZ40.out (agg62 _) rfl (row_cells HST8.out.O) ?_
                go_wp2_with fail
                refine (refNode_any (p := wp) HR8.out HM8.out HFF hS HK3.out (by omega)).mono ?_
                rintro e w9 ⟨y, rfl, hy, hb9⟩
                have HY := Lib.hid hy
                have HST9 := Lib.hid (HST8.out.below hb9)
                have HR9 := Lib.hid (HR8.out.below hb9)
                have hnp := nodeV_path o ss m wp
                generalize nodeC o ss m wp = nc at HLN HY ⊢
                generalize nodeV o ss m wp = nv at HLN HY hnp ⊢
                clear hy hb9 c2
                by_cases hnc : nc = 0
                · subst hnc
                  have hov : ov = (layL o.root nv ss, 0) := by rw [HLN.out]; simp
                  subst hov
                  have hyy := HY.out (by first | rfl | trivial)
                  have hb10 : Below w9.heap.size w9 (w9.alloc (.cells #[.string ⟨y.path.toArray⟩, .int .u8 y.kind, .slice y.adr y.len y.cap, .string ⟨y.link.toArray⟩] 49)) := (Below.refl _ _).alloc (Nat.le_refl _) _
                  have HST10 := Lib.hid (HST9.out.below hb10)
                  have HR10 := Lib.hid (HR9.out.below hb10)
                  have HYY := Lib.hid (hyy.below hb10)
                  have hn10 := heap_alloc_new w9 (.cells #[.string ⟨y.path.toArray⟩, .int .u8 y.kind, .slice y.adr y.len y.cap, .string ⟨y.link.toArray⟩] 49)
                  clear hyy hb10
                  unfold Nd.cells
                  go_upto_region 27 with fail
                  generalize w9.alloc (.cells #[.string ⟨y.path.toArray⟩, .int .u8 y.kind, .slice y.adr y.len y.cap, .string ⟨y.link.toArray⟩] 49) = w10 at HST10 HR10 HYY hn10 ⊢
                  generalize w9.heap.size = b9 at hn10 ⊢
                  obtain ⟨n0, n1, n2, n3⟩ := node_cells hn10
                  have r0 := HST10.out.opt 0 (.string ⟨o.root.toArray⟩) rfl
                  have HLY := refLay_row HR10.out hS.1 hS.2 o.root (by omega) y nv HYY.out (by rw [hnp]; omega)
                  unfold Nd.cells at HLY
                  clear hn10 hnp
                  go_wp2_with fail
                  refine HLY.mono ?_
                  rintro e w11 ⟨v11, rfl, hR11, hb11⟩
                  have HR11 := Lib.hid hR11
                  have HB11 := Lib.hid (HST10.out.below hb11)
                  clear hR11 hb11 HLY
                  go_wp2_with fail
                  go_ret2
                  exact ⟨_, rfl, HR11.out, HB11.out.B⟩
                · have hov : ov = (ss, nc) := by rw [HLN.out]; simp [hnc]
                  subst hov
                  have hb10 : Below w9.heap.size w9 (w9.alloc (.cells #[.string ⟨y.path.toArray⟩, .int .u8 y.kind, .slice y.adr y.len y.cap, .string ⟨y.link.toArray⟩] 49)) := (Below.refl _ _).alloc (Nat.le_refl _) _
                  have HST10 := Lib.hid (HST9.out.below hb10)
                  have HR10 := Lib.hid (HR9.out.below hb10)
                  clear hb10 hnp
                  unfold Nd.cells
                  go_wp2_with fail
                  go_ret2
                  exact ⟨_, rfl, HR10.out, HST10.out.B⟩
              · obtain rfl : ov = (ss, 31) := by rw [HOV.out, HKF.out, if_neg h53, if_neg h48, if_neg h50, if_neg h49]
                clear HOV HKF HKD
                go_wp2_with fail
                go_ret2
                exact ⟨_, rfl, HR8.out, HST8.out.B⟩
  · have hv : ov = (ss, 65) := by rw [HV.out, if_neg hgood]
    subst hv
    cases cok with
    | false =>
      go_wp2_with fail
      go_ret2
      exact ⟨_, rfl, HR5.out, HST5.out.B⟩
    | true =>
      by_cases hcc : cc = o.root
      · cases fb with
        | false =>
          rw [← hcc] at r0
          have hceq : (cc == cc) = true := by simp
          go_wp2_with fail
          go_ret2
          exact ⟨_, rfl, HR5.out, HST5.out.B⟩
        | true =>
          rw [← hcc] at r0
          have hceq : (cc == cc) = true := by simp
          have hk : ¬ yk = 53 := fun e => hgood (by simp [e, hcc])
          clear hgood hcc
          go_wp2_with fail
          go_ret2
          exact ⟨_, rfl, HR5.out, HST5.out.B⟩
      · have hceq : (cc == o.root) = false := by simpa using hcc
        clear hgood
        go_wp2_with fail
        go_ret2
        exact ⟨_, rfl, HR5.out, HST5.out.B⟩

end Go.Proofs.YtlbipmlbkcdmnaaGreat
