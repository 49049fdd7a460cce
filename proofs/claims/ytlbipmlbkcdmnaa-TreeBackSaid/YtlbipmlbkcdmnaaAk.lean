/-
  The walk of the law TreeBack.
-/
import Derived.Test.YtlbipmlbkcdmnaaAj
namespace Go.Proofs.Ytlbipmlbkcdmnaa
open Go.RowKit Go.Shelf

set_option maxRecDepth 100000 in
set_option maxHeartbeats 8000000 in
theorem back_walk {A : Option Addr} {n c : Nat} {bs : List Int} {k v : Int} (w : World) (h : Rd w .u8 A n bs) (hr : ∀ x ∈ bs, 0 ≤ x ∧ x < 256) (hn : n ≤ 9223372036854775807) (hk0 : 0 ≤ k) (hk : k < 256) :
    Calls Try.prog 8 #[.slice A n c, .int .u8 k, .int .u8 v] w fun e w' => e = .returned (.bool true) ∧ Below w.heap.size w w' := by
  have HT := tree_any (c := c) h hr hn
  have HP := fun w => path_any k w hk0 hk
  have hps := path_short k
  have hOnce := Once.tree bs
  have hNamed := tree_named bs
  have hShort := tree_short bs
  have hlen := tree_len bs
  clear h hr
  generalize treeL bs = t at HT hOnce hlen hNamed hShort
  generalize pathOf k = p at HP hps
  go_enter Try.func8, Try.ntmps8
  go_wp2_with fail
  refine HT.mono ?_
  rintro e w1 ⟨vt, m, ns, rfl, ho, hL, hb1⟩
  obtain ⟨A1, c1, rfl⟩ := own_form ho
  obtain ⟨hm, hN⟩ := own_nodes ho
  have hnil := own_none ho
  have HMT := Lib.hid (show m = t.length by rw [hm]; exact hL.1)
  have hm14 : m ≤ 14 := by rw [HMT.out]; exact hlen
  have HM := Lib.hid hm
  clear hm
  go_wp2_with fail
  refine (HP _).mono ?_
  rintro e w2 ⟨rfl, hb2⟩
  have HN2 := Lib.hid (hN.below hb2)
  have HL2 := Lib.hid (hL.below hb2)
  have HB2 := Lib.hid (hb1.trans (hb2.mono hb1.size))
  clear ho hN hL hb1 hb2 HT HP
  by_cases hp : p = []
  · subst hp
    go_wp2_with (go_at_call 17; refine (known_any _).mono ?_; rintro e w3 ⟨rfl, hb3⟩)
    go_ret
    exact ⟨rfl, HB2.out.trans (hb3.mono HB2.out.size)⟩
  · have he := emp hp
    have hpb : (p == []) = false := by simpa using hp
    -- what is put
    obtain ⟨wa, hwa⟩ : ∃ wa, wa = w2.alloc (.cells #[.int .u8 v] 5) := ⟨_, rfl⟩
    have hba : Below w2.heap.size w2 wa := by rw [hwa]; exact (Below.refl _ _).alloc (Nat.le_refl _) _
    have hca : wa.cell? ⟨w2.heap.size, 0, none⟩ = some (.int .u8 v) := by rw [hwa]; exact (cell_of (heap_alloc_new w2 _)).1
    have hxn : NdAt wa ⟨p, 48, some ⟨w2.heap.size, 0, none⟩, 1, 1, []⟩ ⟨p, 48, [v], []⟩ := by
      refine ⟨rfl, rfl, rfl, ⟨rfl, fun j hj => ?_⟩, Nat.le_refl _, show 1 ≤ 4000000000000 by decide⟩
      have hj1 : j < 1 := hj
      obtain rfl : j = 0 := by omega
      exact ⟨_, rfl, hca⟩
    have HPUT := put_any (c := c1) _ _ (HN2.out.below hba) (HL2.out.below hba) hxn HM.out (by have := HMT.out; omega) hnil
    have hbf := back_facts ⟨p, 48, [v], []⟩ hp hOnce hNamed
    have hBnd : ∀ s ∈ putG Sn.path ⟨p, 48, [v], []⟩ t, s.path.length ≤ 1000 := putG_bound hps hShort
    have hLen : (putG Sn.path ⟨p, 48, [v], []⟩ t).length ≤ 15 := by have := putG_len Sn.path ⟨p, 48, [v], []⟩ t; omega
    dsimp only at hbf
    generalize putG Sn.path ⟨p, 48, [v], []⟩ t = ta at HPUT hbf hBnd hLen
    unfold Nd.cells at HPUT
    dsimp only at HPUT
    have HBA := Lib.hid (HB2.out.trans (hba.mono HB2.out.size))
    have HNA := Lib.hid (HN2.out.below hba)
    have HLA := Lib.hid (HL2.out.below hba)
    clear hba hca hxn HN2 HL2 hOnce hNamed hlen
    go_wp2_with fail
    rw [← hwa]
    clear hwa
    refine HPUT.mono ?_
    rintro e w3 ⟨va, ma, ms3, rfl, hoa, hLa, hb3⟩
    obtain ⟨AA, ca, rfl⟩ := own_form hoa
    obtain ⟨hma, hNa⟩ := own_nodes hoa
    have hnila := own_none hoa
    have hal : ma ≤ 15 := by rw [hma, hLa.1]; exact hLen
    have HB3 := Lib.hid (HBA.out.trans (hb3.mono HBA.out.size))
    have HN3 := Lib.hid (HNA.out.below hb3)
    have HL3 := Lib.hid (HLA.out.below hb3)
    have HNa := Lib.hid hNa
    have HLa := Lib.hid hLa.like
    have HMa := Lib.hid hma
    clear hoa hLa hb3 hNa hma HPUT HBA HNA HLA
    obtain ⟨bf1, bf2, bf3, bf4⟩ := hbf
    have hFA := fun W (hW : Below w3.heap.size w3 W) => find_any (A := AA) (c := ca) p (HNa.out.below hW) (HLa.out.below hW) HMa.out (by omega)
    rw [bf1] at hFA
    unfold Nd.cells at hFA
    dsimp only at hFA
    go_wp2_with (go_at_call 35; refine (hFA _ (Below.refl _ _)).mono ?_; rintro e w4 ⟨y, rfl, hy, hb4⟩)
    -- the node that was found, in its box
    obtain ⟨wb, hwb⟩ : ∃ wb, wb = w4.alloc (.cells #[.string ⟨y.path.toArray⟩, .int .u8 y.kind, .slice y.adr y.len y.cap, .string ⟨y.link.toArray⟩] 31) := ⟨_, rfl⟩
    rw [← hwb]
    have hkb : wb.heap[w4.heap.size]? = some (.cells #[.string ⟨y.path.toArray⟩, .int .u8 y.kind, .slice y.adr y.len y.cap, .string ⟨y.link.toArray⟩] 31 (0, 0)) := by rw [hwb]; exact heap_alloc_new _ _
    have hbb4 : Below w4.heap.size w4 wb := by rw [hwb]; exact (Below.refl _ _).alloc (Nat.le_refl _) _
    have hbb : Below w3.heap.size w3 wb := hb4.trans (hbb4.mono hb4.size)
    have hrd := rd_of_own hy.2.2.2.1
    have hyl : y.len = 1 := hrd.1.symm
    obtain ⟨gd, hyad, hyc⟩ : ∃ gd, y.adr = some ⟨gd, 0, none⟩ ∧ w4.cell? ⟨gd, 0, none⟩ = some (.int .u8 v) := by
      rcases hy.2.2.2.1.2 with ⟨_, h0⟩ | ⟨gd, cap, cur, hv, _⟩
      · omega
      · injection hv with hv1 _ _
        obtain ⟨ad, hA, hc⟩ := hrd.2 0 (by omega)
        rw [hv1] at hA
        cases hA
        exact ⟨gd, hv1, hc⟩
    rw [hyl] at hkb ⊢
    rw [hyad] at hkb ⊢
    have hB4 : Below w.heap.size w wb := HB3.out.trans (hbb.mono HB3.out.size)
    have hyc4 : wb.cell? ⟨gd, 0, none⟩ = some (.int .u8 v) := (hbb4.cell (World.block_lt_of_cell? w4 _ hyc)).trans hyc
    have hgl : w4.heap.size < wb.heap.size := by rw [hwb]; simp
    have HKB := Lib.hid (show ∀ W, Below wb.heap.size wb W → (W.cell? ⟨w4.heap.size, 2, none⟩ = some (.slice (some ⟨gd, 0, none⟩) 1 y.cap) ∧ W.cell? ⟨gd, 0, none⟩ = some (.int .u8 v)) from fun W hW =>
      ⟨(node_cells ((hW.block _ hgl).trans hkb)).2.2.1, (hW.cell (World.block_lt_of_cell? wb _ hyc4)).trans hyc4⟩)
    clear hwb hkb hbb4 hy hrd hyl hyad hyc hyc4 hb4 hFA hgl
    generalize w4.heap.size = gb at HKB ⊢
    have HNb := Lib.hid (HNa.out.below hbb)
    have HLb := Lib.hid (HLa.out.below hbb)
    have HNt := Lib.hid (HN3.out.below hbb)
    have HLt := Lib.hid (HL3.out.below hbb)
    have HBb := Lib.hid hB4
    clear hbb hB4 HNa HLa HN3 HL3 HB3 bf1
    have hRM := remove_any (A := AA) (c := ca) p (by omega) HNb.out HLb.out HMa.out (by omega) hnila
    go_wp2_with fail
    refine hRM.mono ?_
    rintro e w5 ⟨vb, mb, bs5, rfl, hob, hLb5, hb5⟩
    obtain ⟨AB, cb, rfl⟩ := own_form hob
    obtain ⟨hmb, hNb5⟩ := own_nodes hob
    have hnilb := own_none hob
    have hLb6 := hLb5.like
    change Like w5 bs5 (goneL p ta) at hLb6
    have hbl : mb ≤ 15 := by
      rw [hmb, hLb6.1]
      exact Nat.le_trans (List.length_filter_le _ _) hLen
    have hFB : ∀ W q, Below w5.heap.size w5 W → Calls Try.prog 35 #[.slice AB mb cb, .string ⟨q.toArray⟩] W fun e w' => ∃ y : Nd, e = .returned (.tuple #[.agg y.cells.toArray, .bool (findL (goneL p ta) q).2]) ∧ Below W.heap.size W w' := fun W q hW =>
      (find_any (A := AB) (c := cb) q (hNb5.below hW) (hLb6.below hW) hmb (by omega)).mono (by
        rintro e w' ⟨y, rfl, _, hb⟩
        exact ⟨y, rfl, hb⟩)
    have hFA : ∀ W q, Below w5.heap.size w5 W → Calls Try.prog 35 #[.slice AA ma ca, .string ⟨q.toArray⟩] W fun e w' => ∃ y : Nd, e = .returned (.tuple #[.agg y.cells.toArray, .bool (findL ta q).2]) ∧ NdAt w' y (findL ta q).1 ∧ Below W.heap.size W w' := fun W q hW =>
      (find_any (A := AA) (c := ca) q ((HNb.out.below hb5).below hW) ((HLb.out.below hb5).below hW) HMa.out (by omega)).mono (by
        rintro e w' ⟨y, rfl, hy, hb⟩
        exact ⟨y, rfl, hy.at, hb⟩)
    have hBL : ∀ W, Below w5.heap.size w5 W → Calls Try.prog 34 #[.slice AB mb cb, .string ⟨p.toArray⟩] W fun e w' => ∃ A5 c5, e = .returned (.slice A5 0 c5) ∧ Below W.heap.size W w' := fun W hW =>
      (below_any p (by omega) (hNb5.below hW) (hLb6.below hW) hmb (by omega) hnilb).mono (by
        rintro e w' ⟨v5, m5, ms5, rfl, ho5, hL5, hb⟩
        obtain ⟨A5, c5, rfl⟩ := own_form ho5
        obtain ⟨hm5, _⟩ := own_nodes ho5
        have h0 : m5 = 0 := by
          rw [hm5, hL5.1]
          have h1 : ((goneL p ta).filter fun t => belowL t.path p) = [] := bf3
          rw [h1]
          rfl
        exact ⟨A5, c5, by rw [h0], hb⟩)
    have HKB5 := Lib.hid (show ∀ W, Below w5.heap.size w5 W → _ from fun W hW => HKB.out W (hb5.trans (hW.mono hb5.size)))
    have HN5 := Lib.hid (HNt.out.below hb5)
    have HL5 := Lib.hid (HLt.out.below hb5)
    have HB5 := Lib.hid (HBb.out.trans (hb5.mono HBb.out.size))
    clear hob hLb5 hLb6 hNb5 hmb hb5 HNb HLb HNt HLt HBb HKB hRM hnilb bf3
    have hFB0 := fun W hW => hFB W p hW
    rw [bf2] at hFB0
    unfold Nd.cells at hFB hFA hFB0
    go_wp2_with (go_at_call 35; refine (hFB0 _ (Below.refl _ _)).mono ?_; rintro e w6 ⟨y6, rfl, hb6⟩)
    clear hFB0
    have hb6' := (hb6.alloc hb6.size (.cells #[.string ⟨y6.path.toArray⟩, .int .u8 y6.kind, .slice y6.adr y6.len y6.cap, .string ⟨y6.link.toArray⟩] 31))
    go_loopw [15, 16, 17, 18, 19, 20, 49, 50, 51, 52, 53, 54, 55, 56, 57, 58, 59, 60, 61, 62, 63, 64, 65, 66, 67, 68, 69, 70, 71, 72, 73, 74, 75, 76, 77, 78, 79, 80, 81, 82, 83, 84, 85, 86, 87, 88, 89, 90, 91, 92, 93, 94, 95, 96, 97, 98, 99, 100] (fun v15 _ _ _ _ _ _ _ _ _ _ _ _ _ _ _ _ _ _ _ _ _ _ _ _ _ _ _ _ _ _ _ _ _ _ _ _ _ _ _ _ _ _ _ _ _ _ _ _ _ _ _ _ _ _ _ _ _ wr => ∃ j : Nat, j ≤ m ∧ v15 = .int .i64 j ∧ Below w5.heap.size w5 wr) (fun v15 _ _ _ _ _ _ _ _ _ _ _ _ _ _ _ _ _ _ _ _ _ _ _ _ _ _ _ _ _ _ _ _ _ _ _ _ _ _ _ _ _ _ _ _ _ _ _ _ _ _ _ _ _ _ _ _ _ _ => m - (intOf v15).toNat)
    case atStart => exact ⟨0, Nat.zero_le _, rfl, hb6'⟩
    case round =>
      clear hb6 hb6'
      obtain ⟨j, hj, rfl, hbr⟩ := hrel
      by_cases hlt : j < m
      · have hjz : (j : Int) < (m : Int) := by omega
        obtain ⟨z, hz⟩ : ∃ z, ns[j]? = some z := ⟨_, List.getElem?_eq_getElem (by have := HM.out; omega)⟩
        obtain ⟨s, hs⟩ : ∃ s, t[j]? = some s := ⟨_, List.getElem?_eq_getElem (by have := HMT.out; omega)⟩
        have HZN := Lib.hid (show ∀ W, Below w5.heap.size w5 W → NdAt W z s from fun W hW => (HL5.out.2 j z s hz hs).below hW)
        obtain ⟨q1, q2⟩ := bf4 j s hs
        have hzp : z.path = s.path := (HL5.out.2 j z s hz hs).1
        have hsl : s.path.length ≤ 1000 := hShort s (List.mem_of_getElem? hs)
        rcases HN5.out with rfl | ⟨b, off, rfl, hbl2, hc⟩
        · simp at hz
        have HNQ : ∀ W, Below w5.heap.size w5 W → W.cell? ⟨b, off + j * 4, none⟩ = some (.string ⟨s.path.toArray⟩) ∧ W.cell? ⟨b, off + j * 4 + 1, none⟩ = some (.int .u8 z.kind) ∧ W.cell? ⟨b, off + j * 4 + 2, none⟩ = some (.slice z.adr z.len z.cap) ∧ W.cell? ⟨b, off + j * 4 + 3, none⟩ = some (.string ⟨z.link.toArray⟩) := fun W hW => by
          obtain ⟨x0, x1, x2, x3⟩ := hc j z hz
          rw [hzp] at x0
          exact ⟨(hW.cell (p := ⟨b, off + j * 4, none⟩) hbl2).trans x0, (hW.cell (p := ⟨b, off + j * 4 + 1, none⟩) hbl2).trans x1, (hW.cell (p := ⟨b, off + j * 4 + 2, none⟩) hbl2).trans x2, (hW.cell (p := ⟨b, off + j * 4 + 3, none⟩) hbl2).trans x3⟩
        have hFA2 := fun W hW => hFA W s.path hW
        have hFB2 := fun W hW => hFB W s.path hW
        obtain ⟨x0, x1, x2, x3⟩ := HNQ wr hbr
        have HUN := fun w => under_any s.path p (by omega) w
        clear hc hz hs hFA hFB
        rw [q2] at hFB2
        by_cases hsp : s.path = p
        · have hspb : (s.path == p) = true := by simpa using hsp
          rw [hspb] at hFB2
          rw [hsp] at hFA2 hFB2 x0 HNQ
          clear hspb HUN
          simp only [Bool.not_true, Bool.false_and] at hFB2
          generalize findL ta p = fd at hFA2
          clear q1 q2 hsp hzp hsl
          go_wp2_with fail
          refine (hFA2 _ hbr).mono ?_
          rintro e w7 ⟨y17, rfl, hy17, hb7⟩
          have hbr7 := (hbr.trans (hb7.mono hbr.size)).alloc (hbr.trans (hb7.mono hbr.size)).size (.cells #[.string ⟨y17.path.toArray⟩, .int .u8 y17.kind, .slice y17.adr y17.len y17.cap, .string ⟨y17.link.toArray⟩] 31)
          go_wp2_with fail
          refine (hFB2 _ hbr7).mono ?_
          rintro e w8 ⟨y8, rfl, hb8⟩
          go_wp2_with fail
          clear hFA2 hFB2
          obtain ⟨wx, hwx⟩ : ∃ wx, wx = w8.alloc (.cells #[.string ⟨y8.path.toArray⟩, .int .u8 y8.kind, .slice y8.adr y8.len y8.cap, .string ⟨y8.link.toArray⟩] 31) := ⟨_, rfl⟩
          rw [← hwx]
          have hbx : Below w8.heap.size w8 wx := by rw [hwx]; exact (Below.refl _ _).alloc (Nat.le_refl _) _
          have hk17 := heap_alloc_new w7 (.cells #[.string ⟨y17.path.toArray⟩, .int .u8 y17.kind, .slice y17.adr y17.len y17.cap, .string ⟨y17.link.toArray⟩] 31)
          have ha7 : Below w7.heap.size w7 (w7.alloc (.cells #[.string ⟨y17.path.toArray⟩, .int .u8 y17.kind, .slice y17.adr y17.len y17.cap, .string ⟨y17.link.toArray⟩] 31)) := (Below.refl _ _).alloc (Nat.le_refl _) _
          have hg17 := (Array.getElem?_eq_some_iff.1 hk17).1
          have hkx := (hbx.block _ (Nat.lt_of_lt_of_le hg17 hb8.size)).trans ((hb8.block _ hg17).trans hk17)
          have hgx := (Array.getElem?_eq_some_iff.1 hkx).1
          have HYC : ∀ W, Below wx.heap.size wx W → W.cell? ⟨w7.heap.size, 0, none⟩ = some (.string ⟨y17.path.toArray⟩) ∧ W.cell? ⟨w7.heap.size, 1, none⟩ = some (.int .u8 y17.kind) ∧ W.cell? ⟨w7.heap.size, 2, none⟩ = some (.slice y17.adr y17.len y17.cap) ∧ W.cell? ⟨w7.heap.size, 3, none⟩ = some (.string ⟨y17.link.toArray⟩) := fun W hW => node_cells ((hW.block _ hgx).trans hkx)
          replace hbr7 := (hbr7.trans (hb8.mono hbr7.size)).trans (hbx.mono (hbr7.trans (hb8.mono hbr7.size)).size)
          clear hbx hk17 ha7 hg17 hkx hgx hb7 hb8 hy17 hwx
          generalize w7.heap.size = g17 at HYC ⊢
          refine wp_region_ordV [0, 1, 2, 3, 4, 5, 6, 7, 8, 9, 10, 11, 12, 13, 14, 15, 16, 17, 18, 19, 20, 21, 22, 23, 24, 25, 26, 27, 28] [12, 24] (by kernel_rfl) (by kernel_rfl) (by kernel_rfl) (fun d _ _ _ _ h => by cases d <;> exact h) (by kernel_rfl) ?_
          intro WG hWG hBG
          have HBG := Lib.hid (hbr7.trans (hBG.mono hbr7.size))
          have u := fun W (hW : Below WG.heap.size WG W) => HNQ W (HBG.out.trans (hW.mono HBG.out.size))
          have u0 := fun W hW => (u W hW).1
          have u1 := fun W hW => (u W hW).2.1
          have u2 := fun W hW => (u W hW).2.2.1
          have u3 := fun W hW => (u W hW).2.2.2
          have vv := fun W (hW : Below WG.heap.size WG W) => HYC W (hBG.trans (hW.mono hBG.size))
          have v0 := fun W hW => (vv W hW).1
          have v1 := fun W hW => (vv W hW).2.1
          have v2 := fun W hW => (vv W hW).2.2.1
          have v3 := fun W hW => (vv W hW).2.2.2
          clear u vv hWG
          clear hBG
          repeat (first | (refine wpOrd_take (v := ?_) rfl rfl rfl (fun W hW => ?_) ?_; rotate_left; (focus (go_simp; with_reducible rfl)); simp only [Act.put, List.setIfInBounds_toArray, List.set_cons_succ, List.set_cons_zero]) | (refine wpOrd_skip rfl rfl ?_; simp only [Act.put, List.setIfInBounds_toArray, List.set_cons_succ, List.set_cons_zero]))
          refine wpOrd_nil ?_
          have HBE := HBG.out
          clear u0 u1 u2 u3 v0 v1 v2 v3
          go_wp2_with fail
          go_roundw
          case rel => exact ⟨j + 1, by omega, by go_num, HBE⟩
          case measure => simp [intOf]; omega
        · have hspb : (s.path == p) = false := by simpa using hsp
          have hspc : (s.path != p) = true := by simpa using hsp
          rw [hspb] at hFB2
          rw [q1 hsp] at hFA2
          dsimp only at hFA2
          cases hu : underL s.path p with
          | false =>
            rw [hu] at hFB2 HUN
            simp only [Bool.not_false, Bool.true_and] at hFB2
            clear q1 q2 hu
            go_wp2_with fail
            refine (hFA2 _ hbr).mono ?_
            rintro e w7 ⟨y17, rfl, hy17, hb7⟩
            have hbr7 := (hbr.trans (hb7.mono hbr.size)).alloc (hbr.trans (hb7.mono hbr.size)).size (.cells #[.string ⟨y17.path.toArray⟩, .int .u8 y17.kind, .slice y17.adr y17.len y17.cap, .string ⟨y17.link.toArray⟩] 31)
            go_wp2_with fail
            refine (hFB2 _ hbr7).mono ?_
            rintro e w8 ⟨y8, rfl, hb8⟩
            go_wp2_with fail
            clear hFA2 hFB2
            obtain ⟨wx, hwx⟩ : ∃ wx, wx = w8.alloc (.cells #[.string ⟨y8.path.toArray⟩, .int .u8 y8.kind, .slice y8.adr y8.len y8.cap, .string ⟨y8.link.toArray⟩] 31) := ⟨_, rfl⟩
            rw [← hwx]
            have hbx : Below w8.heap.size w8 wx := by rw [hwx]; exact (Below.refl _ _).alloc (Nat.le_refl _) _
            have hk17 := heap_alloc_new w7 (.cells #[.string ⟨y17.path.toArray⟩, .int .u8 y17.kind, .slice y17.adr y17.len y17.cap, .string ⟨y17.link.toArray⟩] 31)
            have ha7 : Below w7.heap.size w7 (w7.alloc (.cells #[.string ⟨y17.path.toArray⟩, .int .u8 y17.kind, .slice y17.adr y17.len y17.cap, .string ⟨y17.link.toArray⟩] 31)) := (Below.refl _ _).alloc (Nat.le_refl _) _
            have hg17 := (Array.getElem?_eq_some_iff.1 hk17).1
            have hkx := (hbx.block _ (Nat.lt_of_lt_of_le hg17 hb8.size)).trans ((hb8.block _ hg17).trans hk17)
            have hgx := (Array.getElem?_eq_some_iff.1 hkx).1
            have HYC : ∀ W, Below wx.heap.size wx W → W.cell? ⟨w7.heap.size, 0, none⟩ = some (.string ⟨y17.path.toArray⟩) ∧ W.cell? ⟨w7.heap.size, 1, none⟩ = some (.int .u8 y17.kind) ∧ W.cell? ⟨w7.heap.size, 2, none⟩ = some (.slice y17.adr y17.len y17.cap) ∧ W.cell? ⟨w7.heap.size, 3, none⟩ = some (.string ⟨y17.link.toArray⟩) := fun W hW => node_cells ((hW.block _ hgx).trans hkx)
            have HY17 := Lib.hid (((hy17.below ha7).below hb8).below hbx)
            replace hbr7 := (hbr7.trans (hb8.mono hbr7.size)).trans (hbx.mono (hbr7.trans (hb8.mono hbr7.size)).size)
            clear hbx hk17 ha7 hg17 hkx hgx hb7 hb8 hy17 hwx
            generalize w7.heap.size = g17 at HYC ⊢
            refine wp_region_ordV [0, 1, 2, 3, 4, 5, 6, 7, 8, 9, 10, 11, 12, 13, 14, 15, 16, 17, 18, 19, 20, 21, 22, 23, 24, 25, 26, 27, 28] [12, 24] (by kernel_rfl) (by kernel_rfl) (by kernel_rfl) (fun d _ _ _ _ h => by cases d <;> exact h) (by kernel_rfl) ?_
            intro WG hWG hBG
            have HBG := Lib.hid (hbr7.trans (hBG.mono hbr7.size))
            have u := fun W (hW : Below WG.heap.size WG W) => HNQ W (HBG.out.trans (hW.mono HBG.out.size))
            have u0 := fun W hW => (u W hW).1
            have u1 := fun W hW => (u W hW).2.1
            have u2 := fun W hW => (u W hW).2.2.1
            have u3 := fun W hW => (u W hW).2.2.2
            have vv := fun W (hW : Below WG.heap.size WG W) => HYC W (hBG.trans (hW.mono hBG.size))
            have v0 := fun W hW => (vv W hW).1
            have v1 := fun W hW => (vv W hW).2.1
            have v2 := fun W hW => (vv W hW).2.2.1
            have v3 := fun W hW => (vv W hW).2.2.2
            clear u vv hWG
            have HS := same_any y17 z s WG (HY17.out.below hBG) (HZN.out WG HBG.out)
            unfold Nd.cells at HS
            rw [hzp] at HS
            clear hBG
            repeat (first | (refine wpOrd_take (v := ?_) rfl rfl rfl (fun W hW => ?_) ?_; rotate_left; (focus (go_simp; with_reducible rfl)); simp only [Act.put, List.setIfInBounds_toArray, List.set_cons_succ, List.set_cons_zero]) | (refine wpOrd_skip rfl rfl ?_; simp only [Act.put, List.setIfInBounds_toArray, List.set_cons_succ, List.set_cons_zero]))
            refine wpOrd_call rfl rfl rfl ?_
            go_simp
            refine HS.mono ?_
            rintro e w9 ⟨rfl, hb9⟩
            refine ⟨hb9, ?_⟩
            repeat (first | (refine wpOrd_take (v := ?_) rfl rfl rfl (fun W hW => ?_) ?_; rotate_left; (focus (go_simp; with_reducible rfl)); simp only [Act.put, List.setIfInBounds_toArray, List.set_cons_succ, List.set_cons_zero]) | (refine wpOrd_skip rfl rfl ?_; simp only [Act.put, List.setIfInBounds_toArray, List.set_cons_succ, List.set_cons_zero]))
            refine wpOrd_call rfl rfl rfl ?_
            go_simp
            refine (HUN _).mono ?_
            rintro e w10 ⟨rfl, rfl⟩
            refine ⟨Below.refl _ _, ?_⟩
            repeat (first | (refine wpOrd_take (v := ?_) rfl rfl rfl (fun W hW => ?_) ?_; rotate_left; (focus (go_simp; with_reducible rfl)); simp only [Act.put, List.setIfInBounds_toArray, List.set_cons_succ, List.set_cons_zero]) | (refine wpOrd_skip rfl rfl ?_; simp only [Act.put, List.setIfInBounds_toArray, List.set_cons_succ, List.set_cons_zero]))
            refine wpOrd_nil ?_
            have HBE := HBG.out.trans (hb9.mono HBG.out.size)
            clear u0 u1 u2 u3 v0 v1 v2 v3
            go_wp2_with fail
            go_roundw
            case rel => exact ⟨j + 1, by omega, by go_num, HBE⟩
            case measure => simp [intOf]; omega
          | true =>
            rw [hu] at hFB2 HUN
            simp only [Bool.not_false, Bool.not_true, Bool.true_and] at hFB2
            clear q1 q2 hu
            go_wp2_with fail
            refine (hFA2 _ hbr).mono ?_
            rintro e w7 ⟨y17, rfl, hy17, hb7⟩
            have hbr7 := (hbr.trans (hb7.mono hbr.size)).alloc (hbr.trans (hb7.mono hbr.size)).size (.cells #[.string ⟨y17.path.toArray⟩, .int .u8 y17.kind, .slice y17.adr y17.len y17.cap, .string ⟨y17.link.toArray⟩] 31)
            go_wp2_with fail
            refine (hFB2 _ hbr7).mono ?_
            rintro e w8 ⟨y8, rfl, hb8⟩
            go_wp2_with fail
            clear hFA2 hFB2
            obtain ⟨wx, hwx⟩ : ∃ wx, wx = w8.alloc (.cells #[.string ⟨y8.path.toArray⟩, .int .u8 y8.kind, .slice y8.adr y8.len y8.cap, .string ⟨y8.link.toArray⟩] 31) := ⟨_, rfl⟩
            rw [← hwx]
            have hbx : Below w8.heap.size w8 wx := by rw [hwx]; exact (Below.refl _ _).alloc (Nat.le_refl _) _
            have hk17 := heap_alloc_new w7 (.cells #[.string ⟨y17.path.toArray⟩, .int .u8 y17.kind, .slice y17.adr y17.len y17.cap, .string ⟨y17.link.toArray⟩] 31)
            have ha7 : Below w7.heap.size w7 (w7.alloc (.cells #[.string ⟨y17.path.toArray⟩, .int .u8 y17.kind, .slice y17.adr y17.len y17.cap, .string ⟨y17.link.toArray⟩] 31)) := (Below.refl _ _).alloc (Nat.le_refl _) _
            have hg17 := (Array.getElem?_eq_some_iff.1 hk17).1
            have hkx := (hbx.block _ (Nat.lt_of_lt_of_le hg17 hb8.size)).trans ((hb8.block _ hg17).trans hk17)
            have hgx := (Array.getElem?_eq_some_iff.1 hkx).1
            have HYC : ∀ W, Below wx.heap.size wx W → W.cell? ⟨w7.heap.size, 0, none⟩ = some (.string ⟨y17.path.toArray⟩) ∧ W.cell? ⟨w7.heap.size, 1, none⟩ = some (.int .u8 y17.kind) ∧ W.cell? ⟨w7.heap.size, 2, none⟩ = some (.slice y17.adr y17.len y17.cap) ∧ W.cell? ⟨w7.heap.size, 3, none⟩ = some (.string ⟨y17.link.toArray⟩) := fun W hW => node_cells ((hW.block _ hgx).trans hkx)
            have HY17 := Lib.hid (((hy17.below ha7).below hb8).below hbx)
            replace hbr7 := (hbr7.trans (hb8.mono hbr7.size)).trans (hbx.mono (hbr7.trans (hb8.mono hbr7.size)).size)
            clear hbx hk17 ha7 hg17 hkx hgx hb7 hb8 hy17 hwx
            generalize w7.heap.size = g17 at HYC ⊢
            refine wp_region_ordV [0, 1, 2, 3, 4, 5, 6, 7, 8, 9, 10, 11, 12, 13, 14, 15, 16, 17, 18, 19, 20, 21, 22, 23, 24, 25, 26, 27, 28] [12, 24] (by kernel_rfl) (by kernel_rfl) (by kernel_rfl) (fun d _ _ _ _ h => by cases d <;> exact h) (by kernel_rfl) ?_
            intro WG hWG hBG
            have HBG := Lib.hid (hbr7.trans (hBG.mono hbr7.size))
            have u := fun W (hW : Below WG.heap.size WG W) => HNQ W (HBG.out.trans (hW.mono HBG.out.size))
            have u0 := fun W hW => (u W hW).1
            have u1 := fun W hW => (u W hW).2.1
            have u2 := fun W hW => (u W hW).2.2.1
            have u3 := fun W hW => (u W hW).2.2.2
            have vv := fun W (hW : Below WG.heap.size WG W) => HYC W (hBG.trans (hW.mono hBG.size))
            have v0 := fun W hW => (vv W hW).1
            have v1 := fun W hW => (vv W hW).2.1
            have v2 := fun W hW => (vv W hW).2.2.1
            have v3 := fun W hW => (vv W hW).2.2.2
            clear u vv hWG
            have HS := same_any y17 z s WG (HY17.out.below hBG) (HZN.out WG HBG.out)
            unfold Nd.cells at HS
            rw [hzp] at HS
            clear hBG
            repeat (first | (refine wpOrd_take (v := ?_) rfl rfl rfl (fun W hW => ?_) ?_; rotate_left; (focus (go_simp; with_reducible rfl)); simp only [Act.put, List.setIfInBounds_toArray, List.set_cons_succ, List.set_cons_zero]) | (refine wpOrd_skip rfl rfl ?_; simp only [Act.put, List.setIfInBounds_toArray, List.set_cons_succ, List.set_cons_zero]))
            refine wpOrd_call rfl rfl rfl ?_
            go_simp
            refine HS.mono ?_
            rintro e w9 ⟨rfl, hb9⟩
            refine ⟨hb9, ?_⟩
            repeat (first | (refine wpOrd_take (v := ?_) rfl rfl rfl (fun W hW => ?_) ?_; rotate_left; (focus (go_simp; with_reducible rfl)); simp only [Act.put, List.setIfInBounds_toArray, List.set_cons_succ, List.set_cons_zero]) | (refine wpOrd_skip rfl rfl ?_; simp only [Act.put, List.setIfInBounds_toArray, List.set_cons_succ, List.set_cons_zero]))
            refine wpOrd_call rfl rfl rfl ?_
            go_simp
            refine (HUN _).mono ?_
            rintro e w10 ⟨rfl, rfl⟩
            refine ⟨Below.refl _ _, ?_⟩
            repeat (first | (refine wpOrd_take (v := ?_) rfl rfl rfl (fun W hW => ?_) ?_; rotate_left; (focus (go_simp; with_reducible rfl)); simp only [Act.put, List.setIfInBounds_toArray, List.set_cons_succ, List.set_cons_zero]) | (refine wpOrd_skip rfl rfl ?_; simp only [Act.put, List.setIfInBounds_toArray, List.set_cons_succ, List.set_cons_zero]))
            refine wpOrd_nil ?_
            have HBE := HBG.out.trans (hb9.mono HBG.out.size)
            clear u0 u1 u2 u3 v0 v1 v2 v3
            go_wp2_with fail
            go_roundw
            case rel => exact ⟨j + 1, by omega, by go_num, HBE⟩
            case measure => simp [intOf]; omega
      · obtain rfl : j = m := by omega
        clear bf4 hFA hFB bf2 hShort
        go_wp2_with (first
          | (go_at_call 17; refine (known_any _).mono ?_; rintro e w9 ⟨rfl, hb9⟩; have HB9 := Lib.hid (hbr.trans (hb9.mono hbr.size)); obtain ⟨kc1, kc2⟩ := HKB5.out _ HB9.out)
          | (go_at_call 34; refine (hBL _ HB9.out).mono ?_; rintro e w10 ⟨A5, c5, rfl, hb10⟩))
        go_ret
        exact ⟨rfl, HB5.out.trans ((HB9.out.trans (hb10.mono HB9.out.size)).mono HB5.out.size)⟩

end Go.Proofs.Ytlbipmlbkcdmnaa
