/-
  Files and directories, laid twice: the law's walk.
-/
import Derived.Test.YtlbipmlbkcdmnaaBqV
import Derived.Test.YtlbipmlbkcdmnaaBsV
import Derived.Test.YtlbipmlbkcdmnaaMerQ
namespace Go.Proofs.Ytlbipmlbkcdmnaa
open Go.RowKit Go.Shelf

theorem wpList_run {P : Program} {ops : Array Oper} {rest : List Oper} {a : Act} {Q : Exit → Act → World → Prop} {w : World} {dst : Option Tmp} {op : Op} {ty : TypeId} {pos : String} {after : Array Edge} (v : Value) (w' : World)
    (hr : (execOp a.eval ⟨dst, op, ty, pos, after, none⟩).run P w = .ok (.value v) w') (h : wpList P ops Q rest (a.put dst v) w') : wpList P ops Q (⟨dst, op, ty, pos, after, none⟩ :: rest) a w :=
  wpList_plain rfl fun K hK => by
    unfold Oper.wp
    rw [hr]
    exact hK _ _ h

def oA : Opt := ⟨[], false, true⟩

theorem build62A (w : World) : (Instr.build 62 #[(2, .bool true)]).run Try.prog w = .ok (.agg (optCells oA).toArray) w := run_build w 62 _ _ (by kernel_rfl)

theorem ok_nil : OkTree [] := ⟨List.Pairwise.nil, fun s hs => by cases hs⟩

set_option maxRecDepth 100000 in
set_option maxHeartbeats 4000000 in
theorem pullAgain_walk {A : Option Addr} {n c : Nat} {ds : List Int} (w : World) (h : Rd w .u8 A n ds) (hr : ∀ x ∈ ds, 0 ≤ x ∧ x < 256) (hn : n ≤ 9223372036854775807) (hnc : n ≤ c) :
    Calls Try.prog 10 #[.slice A n c] w fun e w' => e = .returned (.bool true) ∧ Below w.heap.size w w' := by
  have HK := pullKnown
  have HH := Lib.hid (fun W (hW : Below w.heap.size w W) i hi hin => member_any (c := c) (h.below hW) hr hn hnc i hi hin)
  have b62 := build62A
  obtain ⟨i0, hi, hzz0, hzz1, hzz2⟩ := info_parts Try.info56
  have HI0 := Lib.hid hi
  have HI1 := Lib.hid hzz0
  have HI2 := Lib.hid hzz1
  have HI3 := Lib.hid hzz2
  clear h hi hzz0 hzz1 hzz2
  go_enter Try.func10, Try.ntmps10
  go_wp2_with fail
  go_loopw [3, 4, 5, 13, 14, 15, 16, 17, 18, 19, 20, 21, 22, 23, 24, 25, 26, 27, 28, 29, 30, 31, 32, 33, 34, 35, 36, 37, 38, 39] (fun v3 v4 _ _ _ _ _ _ _ _ _ _ _ _ _ _ _ _ _ _ _ _ _ _ _ _ _ _ _ _ wr => ∃ (k : Nat) (ts : List Tri), k ≤ 30 ∧ v4 = .int .i64 k ∧ ts.length ≤ k ∧ wr.ownsRow w.heap.size 56 18 v3 ts.length (cellsM ts) ∧ (∀ t ∈ ts, MemT wr t.1 t.2.1 t.2.2 ∧ t.1.name.length ≤ 1000 ∧ t.1.link.length ≤ 1000) ∧ Below w.heap.size w wr)
    (fun v3 v4 _ _ _ _ _ _ _ _ _ _ _ _ _ _ _ _ _ _ _ _ _ _ _ _ _ _ _ _ _ => 100 - (intOf v4).toNat)
  case atStart => exact ⟨0, [], by omega, rfl, by simp, World.ownsRow_nil _ _ _ _, by simp, Below.refl _ _⟩
  case round =>
    obtain ⟨k, ts, hk, rfl, hlen, ho, hts, hb⟩ := hrel
    have HO := Lib.hid ho
    have HTS := Lib.hid hts
    have HB := Lib.hid hb
    clear ho hts hb
    by_cases hgo : k < n ∧ k < 24
    · obtain ⟨hkn, hk24⟩ := hgo
      have hkz : (k : Int) < (n : Int) := by omega
      have hkz2 : (k : Int) < 24 := by omega
      go_wp2_with fail
      refine (HH.out wr HB.out k (by omega) hkn).mono ?_
      rintro e w5 ⟨m, pv, dv, rfl, hT, hn1, hl1, hb5⟩
      obtain ⟨pA, pn, pc, rfl⟩ := hT.ok.slice
      obtain ⟨dA, dc, rfl, _⟩ := hT.ok.data
      have hst := store_alloc (P := Try.prog) w5 #[.string ⟨#[]⟩, .string ⟨#[]⟩, .int .u8 0, .int .i64 0, .int .i64 0, .int .i64 0, .string ⟨#[]⟩, .string ⟨#[]⟩, .int .i64 0, .int .i64 0, .int .i64 0, .int .i64 0, .int .i64 0, .int .i64 0, .bool false, .slice none 0 0, .slice none 0 0, .slice none 0 0] (memCells m (.slice pA pn pc) (.slice dA m.data.length dc)) 56 rfl (memCells_one _ _ _ _ _ _ _)
      have hb6 : Below w5.heap.size w5 (w5.alloc (.cells (memCells m (.slice pA pn pc) (.slice dA m.data.length dc)).toArray 56)) := (Below.refl _ _).alloc (Nat.le_refl _) _
      have hk6 := heap_alloc_new w5 (.cells (memCells m (.slice pA pn pc) (.slice dA m.data.length dc)).toArray 56)
      generalize hw6 : w5.alloc (.cells (memCells m (.slice pA pn pc) (.slice dA m.data.length dc)).toArray 56) = w6 at hst hb6 hk6
      have c2 := MemB.cell (w := w6) hk6 2 (.int .u8 m.kind) rfl
      have hb56 := hb5.trans (hb6.mono hb5.size)
      have HT6 := Lib.hid (hT.below hb6)
      have HTS6 := Lib.hid (fun t (ht : t ∈ ts) => ((HTS.out t ht).1.below hb56 : MemT w6 t.1 t.2.1 t.2.2))
      have HO6 := Lib.hid (own_below HO.out hb56)
      have HB6 := Lib.hid (HB.out.trans (hb56.mono HB.out.size))
      have HL6 := Lib.hid (row_cells hk6)
      have HNL := Lib.hid (And.intro hn1 hl1)
      have HS56 := Lib.hid (show w.heap.size ≤ w5.heap.size by have := HB.out.size; have := hb5.size; omega)
      have hwr := HB.out.size
      clear hb5 hb6 hk6 hb56 hT hn1 hl1
      generalize hkq : m.kind = kq at c2
      clear hkq
      by_cases hq : kq = 48 ∨ kq = 53
      · have hq1 : (kq == 48 || kq == 53) = true := by simpa using hq
        have hq2 : (kq == 48) = true ∨ ((kq == 48) = false ∧ (kq == 53) = true) := by
          rcases hq with rfl | rfl
          · exact .inl rfl
          · exact .inr ⟨rfl, rfl⟩
        have hs48 := slice48 m pA dA pn pc m.data.length dc
        obtain ⟨A3, c3, rfl⟩ := own_form HO.out
        rcases hq2 with hq2 | ⟨hq2, hq3⟩
        all_goals
          go_upto_region 7 with fail
          apply wp_region_lit
          iterate 3 go_step
          obtain ⟨i56, hi56, hz56⟩ := size56
          refine wpList_load_row 56 _ i56 ⟨w5.heap.size, 0, none⟩ (memCells m (.slice pA pn pc) (.slice dA m.data.length dc)) hi56 hz56 (agg56 _) rfl HL6.out ?_
          clear hi56 hz56 c2 hst hw6
          refine wpList_run (.slice (some ⟨w6.heap.size, 0, none⟩) 1 1) (w6.alloc (.cells (memCells m (.slice pA pn pc) (.slice dA m.data.length dc)).toArray 56)) ?_ ?_
          · unfold execOp
            simp only [List.map_toArray, List.map_cons, List.map_nil, Act.eval]
            show (Instr.buildSlice 48 1 #[(0, .agg (memCells m (.slice pA pn pc) (.slice dA m.data.length dc)).toArray)] >>= fun x => pure (Next.value x)).run Try.prog w6 = _
            rw [Sem.run_bind, hs48 w6]
            rfl
          clear hs48
          go_wp2_with (at_builtin; refine wpList_append_own _ rfl _ _ 48 rfl w.heap.size 56 i0 _ 18 224 Try.underlying48 HI0.out HI1.out HI2.out HI3.out rfl (by decide) (.slice A3 ts.length c3) ts.length (cellsM ts) rfl (HO6.out.alloc _) ⟨_, 0, none⟩ 1 1 (memCells m (.slice pA pn pc) (.slice dA m.data.length dc)) rfl rfl (cells_new _ (memCells m (.slice pA pn pc) (.slice dA m.data.length dc)).toArray 56) (memCells_one _ _ _ _ _ _ _) (by unfold maxLen; omega) (by omega) (by have := HB6.out.size; simp; omega) ?_; intro v' w8 hown8 hgrow8 _; rw [show cellsM ts ++ memCells m (.slice pA pn pc) (.slice dA m.data.length dc) = cellsM (ts ++ [(m, .slice pA pn pc, .slice dA m.data.length dc)]) from cellsM_snoc ts (m, .slice pA pn pc, .slice dA m.data.length dc)] at hown8; obtain ⟨A9, c9, rfl⟩ := own_form hown8)
          have hb7 : Below w6.heap.size w6 (w6.alloc (.cells (memCells m (.slice pA pn pc) (.slice dA m.data.length dc)).toArray 56)) := (Below.refl _ _).alloc (Nat.le_refl _) _
          have hfin : ∀ t ∈ ts ++ [(m, .slice pA pn pc, .slice dA m.data.length dc)], MemT w8 t.1 t.2.1 t.2.2 ∧ t.1.name.length ≤ 1000 ∧ t.1.link.length ≤ 1000 := fun t ht => by
            rcases List.mem_append.1 ht with ht | ht
            · exact ⟨((HTS6.out t ht).below hb7).grown (HO6.out.alloc _) hgrow8, (HTS.out t ht).2⟩
            · rw [List.mem_singleton.1 ht]
              exact ⟨(HT6.out.below hb7).grown (HO6.out.alloc _) hgrow8, HNL.out⟩
          have hbf := (HB6.out.alloc HB6.out.size _).grown hgrow8 (by have := HB6.out.size; simp; omega) (fun j e => own_from HO6.out j e)
          go_roundw
          case rel => exact ⟨k + 3, ts ++ [(m, .slice pA pn pc, .slice dA m.data.length dc)], by omega, by go_num, by simp; omega, by simpa using hown8, hfin, hbf⟩
          case measure => simp only [intOf]; omega
      · have hq1 : (kq == 48) = false := by simp at hq; simpa using hq.1
        have hq2 : (kq == 53) = false := by simp at hq; simpa using hq.2
        go_wp2_with fail
        go_roundw
        case rel => exact ⟨k + 3, ts, by omega, by go_num, by omega, HO6.out, fun t ht => ⟨HTS6.out t ht, (HTS.out t ht).2⟩, HB6.out⟩
        case measure => simp only [intOf]; omega
    · have hms := mems_row HO.out (fun t ht => (HTS.out t ht).1.ok)
      have hfe : ∀ m ∈ ts.map Prod.fst, FitsE oA m := fun m hm => by
        obtain ⟨t, ht, rfl⟩ := List.mem_map.1 hm
        obtain ⟨_, h1, h2⟩ := HTS.out t ht
        exact ⟨by decide, h2, h1⟩
      have hlen2 : (ts.map Prod.fst).length ≤ 100 := by rw [List.length_map]; omega
      generalize ts.map Prod.fst = ms at hms hfe hlen2
      have hb1 : Below wr.heap.size wr (wr.alloc (.cells #[.string ⟨#[]⟩, .bool false, .bool true] 62)) := (Below.refl _ _).alloc (Nat.le_refl _) _
      have hk1 := heap_alloc_new wr (.cells #[.string ⟨#[]⟩, .bool false, .bool true] 62)
      generalize hw1 : wr.alloc (.cells #[.string ⟨#[]⟩, .bool false, .bool true] 62) = w1 at hb1 hk1
      have hl1 := (Array.getElem?_eq_some_iff.1 hk1).1
      have hu : ∀ W, Below w1.heap.size w1 W → W.cell? ⟨wr.heap.size, 0, none⟩ = some (.string ⟨#[]⟩) ∧ W.cell? ⟨wr.heap.size, 1, none⟩ = some (.bool false) ∧ W.cell? ⟨wr.heap.size, 2, none⟩ = some (.bool true) := fun W hW => by
        have h3 := (hW.block _ hl1).trans hk1
        unfold World.cell?
        dsimp only
        rw [h3]
        exact ⟨rfl, rfl, rfl⟩
      have HE1 := fun W (hW : Below w1.heap.size w1 W) => extract_any (o := oA) (row_nil W) ((hms.below hb1).below hW) hfe ⟨by simp, by simp⟩ hlen2
      have HE0 := fun W => extract_any (o := oA) (row_nil W) (mems_nil (w := W) (A := none) (c := 0)) (fun m hm => by cases hm) ⟨by simp, by simp⟩ (by simp)
      simp only [show optCells oA = [.string ⟨#[]⟩, .bool false, .bool true] from rfl] at HE1 HE0
      have hfit := tree_fits oA ms 0 [] ⟨by simp, by simp⟩ hfe
      have hok := tree_ok oA ms ok_nil
      have hx1 := extract_tree oA [] ms
      have hrs := (rightS_ok _).2 hok
      rw [← hx1] at hfit hrs
      generalize extractV oA [] ms = xv at HE1 hfit hrs
      obtain ⟨xt, xr⟩ := xv
      dsimp only at HE1 hfit hrs
      have HE1 := Lib.hid HE1
      have HE0 := Lib.hid HE0
      have HU := Lib.hid hu
      have HBW := Lib.hid (HB.out.trans (hb1.mono HB.out.size))
      have hflen := hfit.1
      have HFIT := Lib.hid hfit
      clear hu hms hfe hok hx1 hk1 hb1 hfit
      obtain ⟨d0, d1, d2⟩ := HU.out w1 (Below.refl _ _)
      by_cases hkn : k < n
      all_goals
        have hkz : (k : Int) < (n : Int) ∧ ¬ (k : Int) < 24 ∨ ¬ (k : Int) < (n : Int) := by omega
        rcases hkz with ⟨hkz, hkz2⟩ | hkz
      · go_wp2_with fail
        refine (HE1.out w1 (Below.refl _ _)).mono ?_
        rintro e w2 ⟨v1, r1, rfl, hR1, _, hb2⟩
        obtain ⟨e0, e1, e2⟩ := HU.out w2 hb2
        go_wp2_with fail
        refine (HE1.out w2 hb2).mono ?_
        rintro e w3 ⟨v2, r2, rfl, hR2, _, hb3⟩
        have hb23 := hb2.trans (hb3.mono hb2.size)
        obtain ⟨g0, g1, g2⟩ := HU.out w3 hb23
        go_wp2_with fail
        refine (HE0.out w3).mono ?_
        rintro e w4 ⟨v3, r3, rfl, hR3, hO3, hb4⟩
        rw [show extractV oA [] [] = ([], []) from rfl] at hR3 hO3
        obtain ⟨A5, c5, _, rfl, _⟩ := hR3
        obtain ⟨A6, c6, rfl⟩ := own_form hO3
        have HR1 := Lib.hid ((hR1.below hb3).below hb4)
        have HR2 := Lib.hid (hR2.below hb4)
        have HB4 := Lib.hid (HBW.out.trans ((hb23.trans (hb4.mono hb23.size)).mono HBW.out.size))
        clear hR1 hR2 hb2 hb3 hb23 hb4 hO3 d0 d1 d2 e0 e1 e2 g0 g1 g2 hw1
        go_wp2_with fail
        refine (HK _).mono ?_
        rintro e w5 ⟨rfl, hb5⟩
        go_wp2_with fail
        refine (same_row (HR1.out.below hb5) (HR2.out.below hb5) (by have := HFIT.out.1; omega)).mono ?_
        rintro e w6 ⟨rfl, hb6⟩
        have hb56 := hb5.trans (hb6.mono hb5.size)
        go_wp2_with fail
        refine (refRight_row (HR1.out.below hb56) ⟨by have := HFIT.out.1; omega, fun t ht => by have := HFIT.out.2 t ht; omega⟩).mono ?_
        rintro e w7 ⟨rfl, hb7⟩
        rw [hrs]
        go_wp2_with fail
        go_ret
        exact ⟨rfl, HB4.out.trans ((hb56.trans (hb7.mono hb56.size)).mono HB4.out.size)⟩
      · omega
      · omega
      · go_wp2_with fail
        refine (HE1.out w1 (Below.refl _ _)).mono ?_
        rintro e w2 ⟨v1, r1, rfl, hR1, _, hb2⟩
        obtain ⟨e0, e1, e2⟩ := HU.out w2 hb2
        go_wp2_with fail
        refine (HE1.out w2 hb2).mono ?_
        rintro e w3 ⟨v2, r2, rfl, hR2, _, hb3⟩
        have hb23 := hb2.trans (hb3.mono hb2.size)
        obtain ⟨g0, g1, g2⟩ := HU.out w3 hb23
        go_wp2_with fail
        refine (HE0.out w3).mono ?_
        rintro e w4 ⟨v3, r3, rfl, hR3, hO3, hb4⟩
        rw [show extractV oA [] [] = ([], []) from rfl] at hR3 hO3
        obtain ⟨A5, c5, _, rfl, _⟩ := hR3
        obtain ⟨A6, c6, rfl⟩ := own_form hO3
        have HR1 := Lib.hid ((hR1.below hb3).below hb4)
        have HR2 := Lib.hid (hR2.below hb4)
        have HB4 := Lib.hid (HBW.out.trans ((hb23.trans (hb4.mono hb23.size)).mono HBW.out.size))
        clear hR1 hR2 hb2 hb3 hb23 hb4 hO3 d0 d1 d2 e0 e1 e2 g0 g1 g2 hw1
        go_wp2_with fail
        refine (HK _).mono ?_
        rintro e w5 ⟨rfl, hb5⟩
        go_wp2_with fail
        refine (same_row (HR1.out.below hb5) (HR2.out.below hb5) (by have := HFIT.out.1; omega)).mono ?_
        rintro e w6 ⟨rfl, hb6⟩
        have hb56 := hb5.trans (hb6.mono hb5.size)
        go_wp2_with fail
        refine (refRight_row (HR1.out.below hb56) ⟨by have := HFIT.out.1; omega, fun t ht => by have := HFIT.out.2 t ht; omega⟩).mono ?_
        rintro e w7 ⟨rfl, hb7⟩
        rw [hrs]
        go_wp2_with fail
        go_ret
        exact ⟨rfl, HB4.out.trans ((hb56.trans (hb7.mono hb56.size)).mono HB4.out.size)⟩

end Go.Proofs.Ytlbipmlbkcdmnaa
