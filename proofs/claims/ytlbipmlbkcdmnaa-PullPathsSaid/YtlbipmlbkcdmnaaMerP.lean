/-
  A puller pulls: the root, the path, what is ahead; then what the member's kind asks.
-/
import Derived.Test.YtlbipmlbkcdmnaaMerO
import Derived.Test.YtlbipmlbkcdmnaaMerL
namespace Go.Proofs.Ytlbipmlbkcdmnaa
open Go.RowKit Go.Shelf

theorem where_len (root name : List UInt8) : (whereV root name).1.length ≤ root.length + name.length + 2 := by
  unfold whereV
  split
  · simp
  · have h1 := joinL_len root (cleanV name).1
    have h2 := clean_len name
    show (joinL root (cleanV name).1).length ≤ _
    omega

/-- Bounds of what is pulled. -/
structure Fits0 (r : Req) (ss : List Sn) : Prop where
  root : r.root.length ≤ 400000
  link : r.link.length ≤ 400000
  name : r.name.length ≤ 400000
  len : ss.length ≤ 1000000
  paths : ∀ s ∈ ss, s.path.length ≤ 1000000

theorem Fits0.fits {r : Req} {ss : List Sn} (h : Fits0 r ss) : Fits r (whereV r.root r.name).1 ss := by
  have h1 := h.root
  have h2 := h.link
  have h3 := h.name
  have h4 := where_len r.root r.name
  exact ⟨by omega, by omega, by omega, by omega, h.len, h.paths⟩

/-- What a laying has done, to whatever path. -/
def Pulled (w w' : World) (P : Nat) (r : Req) (x : List Sn × Int) (e : Ending) : Prop := ∃ path, Did w w' P path r x e

theorem zero104 (w : World) : (zeroValue 104).run Try.prog w = .ok .nilFunc w := by kernel_rfl

/-- One more in a map from bytes to functions. -/
theorem fmap_put {w : World} {b : Nat} {es : Array MapEntry} {clock : Nat} (hb : w.heap[b]? = some (.map es clock)) (k : Int) (v : Value) (hn : ∀ e ∈ es.toList, ∃ j, e.key = .int .u8 j ∧ j ≠ k) :
    ∃ w', (Instr.mapUpdate 114 (.map (some b)) (.int .u8 k) v).run Try.prog w = .ok () w' ∧ w'.heap[b]? = some (.map (es.push ⟨.int .u8 k, v, clock⟩) (clock + 1)) ∧ Out (· = b) w w' := by
  have hk : MapKept.IsKey (.int .u8) (.int .u8 k) := rfl
  have hks : ∀ x ∈ es.toList, MapKept.IsKey (.int .u8) x.key := fun x hx => by
    obtain ⟨j, hj, _⟩ := hn x hx
    rw [hj]
    rfl
  rcases MapKept.findNow_spec hk es.toList 0 hks with ⟨h1, _⟩ | ⟨j, e, h1, h2, h3⟩
  · refine ⟨{ w with heap := w.heap.setIfInBounds b (.map (es.push ⟨.int .u8 k, v, clock⟩) (clock + 1)) }, ?_, (MapKept.heap_set hb).1, ⟨rfl, rfl, rfl, by simp, fun i _ hi => (MapKept.heap_set hb).2 i hi⟩⟩
    simp [Instr.mapUpdate, run_underlying Try.underlying114, MapKept.run_getObj_map hb, MapKept.run_checkKey Try.underlying5 hk, MapKept.run_findKey Try.underlying5 h1, MapKept.run_setObj_map _ hb, Result.andThen]
  · obtain ⟨i, hi, hne⟩ := hn e (List.mem_of_getElem? h2)
    rw [hi] at h3
    exact absurd (by simpa using h3) hne

theorem fmap_get {w : World} {b : Nat} {es : Array MapEntry} {clock : Nat} (hb : w.heap[b]? = some (.map es clock)) (k : Int) (j : Nat) (v : Value) (hf : Instr.findNow (.int .u8) (.int .u8 k) es.toList 0 = some (some (j, v))) :
    (Instr.lookup 114 (.map (some b)) (.int .u8 k) true).run Try.prog w = .ok (.tuple #[v, .bool true]) w := by
  simp [Instr.lookup, run_underlying Try.underlying114, MapKept.run_getObj_map hb, MapKept.run_checkKey Try.underlying5 (k := .int .u8 k) rfl, MapKept.run_findKey Try.underlying5 hf, Result.andThen]

theorem fmap_none {w : World} {b : Nat} {es : Array MapEntry} {clock : Nat} (hb : w.heap[b]? = some (.map es clock)) (k : Int) (hn : ∀ e ∈ es.toList, ∃ j, e.key = .int .u8 j ∧ j ≠ k) :
    (Instr.lookup 114 (.map (some b)) (.int .u8 k) true).run Try.prog w = .ok (.tuple #[.nilFunc, .bool false]) w := by
  have hk : MapKept.IsKey (.int .u8) (.int .u8 k) := rfl
  have hks : ∀ x ∈ es.toList, MapKept.IsKey (.int .u8) x.key := fun x hx => by
    obtain ⟨j, hj, _⟩ := hn x hx
    rw [hj]
    rfl
  rcases MapKept.findNow_spec hk es.toList 0 hks with ⟨h1, _⟩ | ⟨j, e, h1, h2, h3⟩
  · simp [Instr.lookup, run_underlying Try.underlying114, MapKept.run_getObj_map hb, MapKept.run_checkKey Try.underlying5 hk, MapKept.run_findKey Try.underlying5 h1, Result.andThen]
  · obtain ⟨i, hi, hne⟩ := hn e (List.mem_of_getElem? h2)
    rw [hi] at h3
    exact absurd (by simpa using h3) hne

/-- What a puller does. -/
def pf (P : Nat) (n : Nat) : Value := .func (.func n) #[.pointer (some ⟨P, 0, none⟩)] #[]
def doesM (P : Nat) : Array MapEntry := #[⟨.int .u8 53, pf P 86, 0⟩, ⟨.int .u8 48, pf P 87, 1⟩, ⟨.int .u8 50, pf P 88, 2⟩, ⟨.int .u8 49, pf P 89, 3⟩]

theorem does_made (w : World) (P : Nat) : ∃ w1 w2 w3 w4,
    (Instr.mapUpdate 114 (.map (some w.heap.size)) (.int .u8 53) (pf P 86)).run Try.prog (w.alloc (.map #[] 0)) = .ok () w1 ∧
    (Instr.mapUpdate 114 (.map (some w.heap.size)) (.int .u8 48) (pf P 87)).run Try.prog w1 = .ok () w2 ∧
    (Instr.mapUpdate 114 (.map (some w.heap.size)) (.int .u8 50) (pf P 88)).run Try.prog w2 = .ok () w3 ∧
    (Instr.mapUpdate 114 (.map (some w.heap.size)) (.int .u8 49) (pf P 89)).run Try.prog w3 = .ok () w4 ∧
    w4.heap[w.heap.size]? = some (.map (doesM P) 4) ∧ Below w.heap.size w w4 := by
  have h0 : (w.alloc (.map #[] 0)).heap[w.heap.size]? = some (.map #[] 0) := by
    unfold World.alloc
    simp
  obtain ⟨w1, r1, m1, o1⟩ := fmap_put h0 53 (pf P 86) (by simp)
  obtain ⟨w2, r2, m2, o2⟩ := fmap_put m1 48 (pf P 87) (by intro e he; simp at he; subst he; exact ⟨_, rfl, by decide⟩)
  obtain ⟨w3, r3, m3, o3⟩ := fmap_put m2 50 (pf P 88) (by intro e he; simp at he; rcases he with rfl | rfl <;> exact ⟨_, rfl, by decide⟩)
  obtain ⟨w4, r4, m4, o4⟩ := fmap_put m3 49 (pf P 89) (by intro e he; simp at he; rcases he with rfl | rfl | rfl <;> exact ⟨_, rfl, by decide⟩)
  have ho : Out (· = w.heap.size) (w.alloc (.map #[] 0)) w4 := ((o1.trans o2).trans o3).trans o4
  refine ⟨w1, w2, w3, w4, r1, r2, r3, r4, m4, ⟨ho.os, ho.tape, ho.output, ?_, fun k hk => ?_⟩⟩
  · have := ho.size; simp at this; omega
  · exact (ho.block k (by simp; omega) (by omega)).trans (Below.heap_alloc w _ k hk)

set_option maxRecDepth 100000 in
set_option maxHeartbeats 2000000 in
theorem pull_any {w : World} {P : Nat} {lv : Value} {path : List UInt8} {r : Req} {ss : List Sn} {m : Mem} (h : PullAt w P lv path r) (hR : RowOwn w 0 lv ss) (hF : Fits0 r ss) (hM : ∀ W, Out (· = P) w W → MemIn W r m) :
    Calls Try.prog 75 #[.pointer (some ⟨P, 0, none⟩)] w fun e w' => Pulled w w' P r (oneV r.opt ss m) e := by
  have hF1 := hF.fits
  have hSh := hF1.short
  have HCL := fun w => clean_any r.root (by have := hF.root; omega) w
  have HWH := fun w => where_any r.root r.name (by have := hF.root; omega) (by have := hF.name; omega) w
  have hm0 := hM w (Out.of_below (Below.refl _ _))
  have HE := Lib.hid (show oneV r.opt ss m = if ((cleanV r.root).2 && (cleanV r.root).1 == r.root && isAt ss r.root 53) = true then
    if (whereV r.root r.name).2 = true then
      if ((aheadL r.root (whereV r.root r.name).1).all fun a => !thereAt ss a || isAt ss a 53) = true then kindE r.opt ss m (whereV r.root r.name).1 else (ss, 63)
    else (ss, 60)
  else (ss, 65) from by rw [hm0.name]; rfl)
  generalize cleanV r.root = cl at HCL HE
  obtain ⟨cc, cb⟩ := cl
  generalize whereV r.root r.name = wv at HWH HE hF1
  obtain ⟨p1, pb⟩ := wv
  dsimp only at HCL HE HWH hF1
  have HP := Lib.hid h
  have HR := Lib.hid hR
  have HF1 := Lib.hid hF1
  have HM := Lib.hid hM
  have c19 := h.cells.root
  have hroot := hF.root
  clear h hR hF hM hm0 hF1
  go_enter Try.func75, Try.ntmps75
  go_wp2_with fail
  refine (HCL _).mono ?_
  rintro e w1 ⟨rfl, hb1⟩
  have HP1 := Lib.hid (HP.out.below hb1)
  have HR1 := Lib.hid (HR.out.below hb1)
  have HB1 := Lib.hid hb1
  have d19 := HP1.out.cells.root
  have HI1 := is_any HP1.out HR1.out.row hSh r.root 53
  clear hb1 HCL c19
  generalize hdq : ((findL ss r.root).2 && (findL ss r.root).1.kind == 53) = dq at HI1
  rw [show isAt ss r.root 53 = dq from hdq] at HE
  clear hdq
  go_wp2_with fail
  refine HI1.mono ?_
  rintro e w2 ⟨rfl, hb2⟩
  have HP2 := Lib.hid (HP1.out.below hb2)
  have HR2 := Lib.hid (HR1.out.below hb2)
  have HB2 := Lib.hid (HB1.out.trans (hb2.mono HB1.out.size))
  have e19 := HP2.out.cells.root
  clear hb2 HI1 d19
  generalize (findL ss r.root).2 = fb0
  by_cases hall : (cb && cc == r.root && dq) = true
  · have HE1 := Lib.hid (show oneV r.opt ss m = if pb = true then if ((aheadL r.root p1).all fun a => !thereAt ss a || isAt ss a 53) = true then kindE r.opt ss m p1 else (ss, 63) else (ss, 60) by rw [HE.out, if_pos hall])
    simp only [Bool.and_eq_true, beq_iff_eq] at hall
    obtain ⟨⟨rfl, rfl⟩, rfl⟩ := hall
    have hcc : (r.root == r.root) = true := by simp
    have hcn : (r.root != r.root) = false := by simp
    clear HE
    go_upto_region 6 with fail
    refine wp_region_ordY 18 [0, 1, 2, 3, 4, 5, 6, 7, 8, 9, 10, 11, 12, 13, 14, 15, 16, 17, 18, 19] [12, 18, 19] [15] (by kernel_rfl) (by kernel_rfl) (by kernel_rfl) (fun d _ _ _ _ h => by cases d <;> exact h) (by kernel_rfl) ?_
    intro WG hWG hBG
    have HPG := Lib.hid (HP2.out.below hBG)
    have HRG := Lib.hid (HR2.out.below hBG)
    have HBG := Lib.hid (HB2.out.trans (hBG.mono HB2.out.size))
    have u1 := fun W (hW : Below WG.heap.size WG W) => (HPG.out.below hW).cells.name
    have u19 := fun W (hW : Below WG.heap.size WG W) => (HPG.out.below hW).cells.root
    clear hBG hWG e19
    repeat (first | (refine wpOrdY_take (v := ?_) rfl rfl rfl rfl (fun W hW => ?_) ?_; rotate_left; (focus (go_simp; with_reducible rfl)); simp only [Act.put, List.setIfInBounds_toArray, List.set_cons_succ, List.set_cons_zero]) | (refine wpOrdY_skip rfl rfl ?_; simp only [Act.put, List.setIfInBounds_toArray, List.set_cons_succ, List.set_cons_zero]))
    refine wpOrdY_call rfl rfl rfl ?_
    go_simp
    refine (HWH _).mono ?_
    rintro e w3 ⟨rfl, hb3⟩
    refine ⟨hb3, ?_⟩
    repeat (first | (refine wpOrdY_take (v := ?_) rfl rfl rfl rfl (fun W hW => ?_) ?_; rotate_left; (focus (go_simp; with_reducible rfl)); simp only [Act.put, List.setIfInBounds_toArray, List.set_cons_succ, List.set_cons_zero]) | (refine wpOrdY_skip rfl rfl ?_; simp only [Act.put, List.setIfInBounds_toArray, List.set_cons_succ, List.set_cons_zero]))
    refine wpOrdY_free (v := ?_) rfl rfl rfl (fun W => ?_) ?_; rotate_left; (focus (go_simp; with_reducible rfl)); simp only [Act.put, List.setIfInBounds_toArray, List.set_cons_succ, List.set_cons_zero]
    repeat (first | (refine wpOrdY_take (v := ?_) rfl rfl rfl rfl (fun W hW => ?_) ?_; rotate_left; (focus (go_simp; with_reducible rfl)); simp only [Act.put, List.setIfInBounds_toArray, List.set_cons_succ, List.set_cons_zero]) | (refine wpOrdY_skip rfl rfl ?_; simp only [Act.put, List.setIfInBounds_toArray, List.set_cons_succ, List.set_cons_zero]))
    have HP3 := Lib.hid (HPG.out.below hb3)
    have HR3 := Lib.hid (HRG.out.below hb3)
    have HB3 := Lib.hid (HBG.out.trans (hb3.mono HBG.out.size))
    have f3 := HP3.out.frz 22
    have c3 := HP3.out.cells.path
    have HP4 := Lib.hid (HP3.out.setPath p1)
    obtain ⟨csP, hcP, _⟩ := HP3.out
    have HR4 := Lib.hid (show RowOwn (w3.setCell ⟨P, 22, none⟩ (.string ⟨p1.toArray⟩)) 0 lv ss from HR3.out.other hcP fun k _ hk => Below.heap_setCell _ _ _ _ hk)
    have HO4 := Lib.hid (show Out (· = P) w (w3.setCell ⟨P, 22, none⟩ (.string ⟨p1.toArray⟩)) from (Out.of_below HB3.out).trans ⟨rfl, rfl, rfl, by simp [World.setCell], fun _ _ hk => Below.heap_setCell _ _ _ _ hk⟩)
    clear u1 u19 hb3 hcP
    refine wpOrdY_call rfl rfl rfl ?_
    go_simp
    generalize w3.setCell ⟨P, 22, none⟩ (.string ⟨p1.toArray⟩) = w4 at HP4 HR4 HO4 ⊢
    refine wpOrdY_call rfl rfl rfl ?_
    go_simp
    refine ⟨Below.refl _ _, ?_⟩
    refine wpOrdY_nil ?_
    clear f3 c3 HP3 HR3 HB3 HPG HRG HBG HP2 HR2 HB2
    cases pb with
    | false =>
      go_wp2_with fail
      go_ret
      rw [HE1.out]
      exact ⟨p1, rfl, lv, HP4.out, HR4.out, HO4.out⟩
    | true =>
      have HA := ahead_any HP4.out (by omega) p1 (by have := HF1.out.path; omega)
      have hal := ahead_short r.root p1
      have HE2 := Lib.hid (show oneV r.opt ss m = if ((aheadL r.root p1).all fun a => !thereAt ss a || isAt ss a 53) = true then kindE r.opt ss m p1 else (ss, 63) by rw [HE1.out, if_pos rfl])
      clear HE1
      generalize aheadL r.root p1 = al at HA hal HE2
      have g22 := HP4.out.cells.path
      go_wp2_with fail
      refine HA.mono ?_
      rintro e w5 ⟨va, rfl, hrow, hb5⟩
      have HP5 := Lib.hid (HP4.out.below hb5)
      have HR5 := Lib.hid (HR4.out.below hb5)
      have HO5 := Lib.hid (HO4.out.trans (Out.of_below hb5))
      obtain ⟨A, c, rfl, hcell⟩ := hrow
      have HS := Lib.hid (show ∀ W, Below w5.heap.size w5 W → ∀ (j : Nat) (a : List UInt8), al[j]? = some a → ∃ g, A = some ⟨g, 0, none⟩ ∧ W.cell? ⟨g, j, none⟩ = some (.string ⟨a.toArray⟩) from fun W hW j a hj => by
        obtain ⟨g, hA, hB, hc⟩ := hcell j a hj
        exact ⟨g, hA, (hW.cell (World.block_lt_of_cell? _ _ hc)).trans hc⟩)
      clear hcell HA hb5 g22
      go_wp2_with fail
      go_loopw [9, 10, 11, 80, 81, 82, 83, 84, 85, 86, 87, 88, 89, 90, 91, 92, 93, 94, 95, 96, 97] (fun _ _ _ v80 _ _ _ _ _ _ _ _ _ _ _ _ _ _ _ _ _ wr => ∃ k : Nat, k ≤ al.length ∧ v80 = .int .i64 k ∧ (∀ a ∈ al.take k, (!thereAt ss a || isAt ss a 53) = true) ∧ Below w5.heap.size w5 wr)
        (fun _ _ _ v80 _ _ _ _ _ _ _ _ _ _ _ _ _ _ _ _ _ _ => al.length - (intOf v80).toNat)
      case atStart => exact ⟨0, Nat.zero_le _, rfl, by simp, Below.refl _ _⟩
      case round =>
        obtain ⟨k, hk, rfl, hall, hb6⟩ := hrel
        have HP6 := Lib.hid (HP5.out.below hb6)
        have HR6 := Lib.hid (HR5.out.below hb6)
        have HO6 := Lib.hid (HO5.out.trans (Out.of_below hb6))
        have HB56 := Lib.hid hb6
        have HALL := Lib.hid hall
        clear hall
        have hkl := hal.1
        have hp1 : p1.length ≤ 1000000 := HF1.out.path
        by_cases hkz : k < al.length
        · have hkz' : (k : Int) < (al.length : Int) := by omega
          obtain ⟨a, ha⟩ : ∃ a, al[k]? = some a := ⟨_, List.getElem?_eq_getElem hkz⟩
          obtain ⟨g, rfl, ca⟩ := HS.out wr hb6 k a ha
          have HI := is_any HP6.out HR6.out.row hSh a 53
          have HDQ := Lib.hid (show (!thereAt ss a || isAt ss a 53) = (!(findL ss a).2 || ((findL ss a).2 && (findL ss a).1.kind == 53)) from rfl)
          generalize hdq : ((findL ss a).2 && (findL ss a).1.kind == 53) = dq at HI HDQ
          generalize htq : (findL ss a).2 = tq at HI HDQ
          have HTK := Lib.hid (show al.take (k + 1) = al.take k ++ [a] by rw [List.take_add_one, ha]; rfl)
          have HMEM := Lib.hid (List.mem_of_getElem? ha)
          clear hdq htq hb6 ha
          by_cases hbad : (tq && !dq) = true
          · have hb2 : tq = true ∧ dq = false := by simpa using hbad
            obtain ⟨rfl, rfl⟩ := hb2
            clear hbad
            go_wp2_with fail
            refine HI.mono ?_
            rintro e w7 ⟨rfl, hb7⟩
            clear HI
            go_wp2_with fail
            go_ret
            have hno : ¬ (al.all fun a => !thereAt ss a || isAt ss a 53) = true := fun h => by
              have := List.all_eq_true.1 h a HMEM.out
              rw [HDQ.out] at this
              cases this
            rw [HE2.out, if_neg hno]
            exact ⟨p1, rfl, lv, HP6.out.below hb7, HR6.out.below hb7, HO6.out.trans (Out.of_below hb7)⟩
          · have HOK := Lib.hid (show (!thereAt ss a || isAt ss a 53) = true by rw [HDQ.out]; cases tq <;> cases dq <;> simp at hbad ⊢)
            go_wp2_with fail
            refine HI.mono ?_
            rintro e w7 ⟨rfl, hb7⟩
            have HB7 := Lib.hid (HB56.out.trans (hb7.mono HB56.out.size))
            clear HI hb7
            cases tq with
            | false =>
              clear hbad
              go_wp2_with fail
              go_roundw
              case rel =>
                refine ⟨k + 1, by omega, by go_num, fun b hb => ?_, HB7.out⟩
                rw [HTK.out] at hb
                rcases List.mem_append.1 hb with hb | hb
                · exact HALL.out b hb
                · rw [List.mem_singleton.1 hb]; exact HOK.out
              case measure => simp only [intOf]; omega
            | true =>
              have hd1 : dq = true := by cases dq <;> simp at hbad ⊢
              subst hd1
              clear hbad
              go_wp2_with fail
              go_roundw
              case rel =>
                refine ⟨k + 1, by omega, by go_num, fun b hb => ?_, HB7.out⟩
                rw [HTK.out] at hb
                rcases List.mem_append.1 hb with hb | hb
                · exact HALL.out b hb
                · rw [List.mem_singleton.1 hb]; exact HOK.out
              case measure => simp only [intOf]; omega
        · obtain rfl : k = al.length := by omega
          have HE3 := Lib.hid (show oneV r.opt ss m = kindE r.opt ss m p1 by
            rw [HE2.out, if_pos (List.all_eq_true.2 fun a ha => HALL.out a (by rw [List.take_length]; exact ha))])
          clear HE2 HALL HS hb6
          have hmm := @run_makeMap Try.prog
          obtain ⟨v1, v2, v3, v4, r1, r2, r3, r4, hmap, hb7⟩ := does_made wr P
          unfold pf at r1 r2 r3 r4
          have HP7 := Lib.hid (HP6.out.below hb7)
          have HR7 := Lib.hid (HR6.out.below hb7)
          have HO7 := Lib.hid (HO6.out.trans (Out.of_below hb7))
          have k3 := HP7.out.cells.kind
          have hm7 := HM.out v4 HO7.out
          rw [hm7.kind] at k3
          have HML := Lib.hid hm7.link
          have HMP := Lib.hid hmap
          clear hb7 hmap hm7
          unfold kindE at HE3
          by_cases k53 : m.kind = 53
          · rw [if_pos k53] at HE3
            have hlk := fmap_get HMP.out 53 0 (pf P 86) rfl
            unfold pf at hlk
            rw [k53] at k3
            have HC := dir_any HP7.out HR7.out HF1.out
            have eg := enters_of Try.func86 (by kernel_rfl) rfl
            clear k53
            go_wp2_with fail
            refine HC.mono ?_
            rintro e w9 hd
            have HD := Lib.hid (hd.pre HO7.out)
            obtain ⟨rfl, _⟩ := hd
            clear HC
            go_wp2_with fail
            go_ret
            rw [HE3.out]
            exact ⟨p1, HD.out⟩
          · rw [if_neg k53] at HE3
            by_cases k48 : m.kind = 48
            · rw [if_pos k48] at HE3
              have hlk := fmap_get HMP.out 48 1 (pf P 87) rfl
              unfold pf at hlk
              rw [k48] at k3
              have HC := file_any HP7.out HR7.out HF1.out (fun W hW => HM.out W (HO7.out.trans hW))
              have eg := enters_of Try.func87 (by kernel_rfl) rfl
              clear k53 k48
              go_wp2_with fail
              refine HC.mono ?_
              rintro e w9 hd
              have HD := Lib.hid (hd.pre HO7.out)
              obtain ⟨rfl, _⟩ := hd
              clear HC
              go_wp2_with fail
              go_ret
              rw [HE3.out]
              exact ⟨p1, HD.out⟩
            · rw [if_neg k48] at HE3
              by_cases k50 : m.kind = 50
              · rw [if_pos k50] at HE3
                have hlk := fmap_get HMP.out 50 2 (pf P 88) rfl
                unfold pf at hlk
                rw [k50] at k3
                have HC := soft_any (m := m) HP7.out HR7.out HF1.out HML.out
                have eg := enters_of Try.func88 (by kernel_rfl) rfl
                clear k53 k48 k50
                go_wp2_with fail
                refine HC.mono ?_
                rintro e w9 hd
                have HD := Lib.hid (hd.pre HO7.out)
                obtain ⟨rfl, _⟩ := hd
                clear HC
                go_wp2_with fail
                go_ret
                rw [HE3.out]
                exact ⟨p1, HD.out⟩
              · rw [if_neg k50] at HE3
                by_cases k49 : m.kind = 49
                · rw [if_pos k49] at HE3
                  have hlk := fmap_get HMP.out 49 3 (pf P 89) rfl
                  unfold pf at hlk
                  rw [k49] at k3
                  have HC := hard_any (m := m) HP7.out HR7.out HF1.out HML.out
                  have eg := enters_of Try.func89 (by kernel_rfl) rfl
                  clear k53 k48 k50 k49
                  go_wp2_with fail
                  refine HC.mono ?_
                  rintro e w9 hd
                  have HD := Lib.hid (hd.pre HO7.out)
                  obtain ⟨rfl, _⟩ := hd
                  clear HC
                  go_wp2_with fail
                  go_ret
                  rw [HE3.out]
                  exact ⟨p1, HD.out⟩
                · rw [if_neg k49] at HE3
                  have hlk := fmap_none HMP.out m.kind (by intro e he; simp [doesM] at he; rcases he with rfl | rfl | rfl | rfl <;> exact ⟨_, rfl, fun e => by simp_all⟩)
                  clear k53 k48 k50 k49
                  go_wp2_with fail
                  go_ret
                  rw [HE3.out]
                  exact ⟨p1, rfl, lv, HP7.out, HR7.out, HO7.out⟩
  · have HE2 := Lib.hid (show oneV r.opt ss m = (ss, 65) by rw [HE.out, if_neg hall])
    have FIN : ∀ e : Ending, e = .returned (.iface 100 (.agg #[.int .u16 65])) → Pulled w w2 P r (oneV r.opt ss m) e := fun e he => by
      rw [HE2.out, he]
      exact ⟨path, rfl, lv, HP2.out, HR2.out, Out.of_below HB2.out⟩
    have HFIN := Lib.hid FIN
    clear FIN HE HE2
    cases cb with
    | false =>
      clear hall
      go_wp2_with fail
      go_ret
      exact HFIN.out _ rfl
    | true =>
      by_cases hcr : cc = r.root
      · subst hcr
        have hcc : (r.root == r.root) = true := by simp
        have hcn : (r.root != r.root) = false := by simp
        cases dq with
        | true => exact absurd (by simp) hall
        | false =>
          clear hall
          go_wp2_with fail
          go_ret
          exact HFIN.out _ rfl
      · have hcc : (cc == r.root) = false := by simpa using hcr
        have hcn : (cc != r.root) = true := by simpa using hcr
        clear hall
        go_wp2_with fail
        go_ret
        exact HFIN.out _ rfl

end Go.Proofs.Ytlbipmlbkcdmnaa

/-
  A single member, laid in a tree.
-/
namespace Go.Proofs.Ytlbipmlbkcdmnaa
open Go.RowKit Go.Shelf

/-- A member, as it lies. -/
def memCells (m : Mem) (pv dv : Value) : List Value :=
  [.string ⟨m.name.toArray⟩, .string ⟨m.link.toArray⟩, .int .u8 m.kind, .int .i64 0, .int .i64 0, .int .i64 0, .string ⟨#[]⟩, .string ⟨#[]⟩, .int .i64 0, .int .i64 0, .int .i64 0, .int .i64 0, .int .i64 0, .int .i64 m.real, .bool m.holes, pv, .slice none 0 0, dv]
structure MemOk (w : World) (m : Mem) (pv dv : Value) : Prop where
  data : DataAt w dv m.data
  slice : ∃ A n c, pv = .slice A n c
  parts : m.holes = true → PartsAt w pv ∧ m.data.length = 2 ∧ 1 ≤ m.real ∧ m.real ≤ 8

def optCells (o : Opt) : List Value := [.string ⟨o.root.toArray⟩, .bool o.links, .bool o.replace]
def reqOf (m : Mem) (pv dv : Value) (o : Opt) : Req := ⟨m.name, m.link, m.kind, m.real, m.holes, pv, dv, o.root, o.links, o.replace⟩

/-- Bounds. -/
structure FitsM (o : Opt) (m : Mem) : Prop where
  root : o.root.length ≤ 400000
  link : m.link.length ≤ 400000
  name : m.name.length ≤ 400000
def FitsS (ss : List Sn) : Prop := ss.length ≤ 1000000 ∧ ∀ s ∈ ss, s.path.length ≤ 1000000

theorem DataAt.below {w w' : World} {v : Value} {bs : List Int} (h : DataAt w v bs) (hb : Below w.heap.size w w') : DataAt w' v bs := by
  obtain ⟨A, c, h1, h2, h3⟩ := h
  exact ⟨A, c, h1, h2.below hb, h3⟩
theorem PartsAt.below {w w' : World} {v : Value} (h : PartsAt w v) (hb : Below w.heap.size w w') : PartsAt w' v := by
  obtain ⟨b, off, c, h1, h2, h3⟩ := h
  exact ⟨b, off, c, h1, (hb.cell (World.block_lt_of_cell? _ _ h2)).trans h2, (hb.cell (World.block_lt_of_cell? _ _ h3)).trans h3⟩
theorem MemOk.below {w w' : World} {m : Mem} {pv dv : Value} (h : MemOk w m pv dv) (hb : Below w.heap.size w w') : MemOk w' m pv dv :=
  ⟨h.data.below hb, h.slice, fun hh => ⟨(h.parts hh).1.below hb, (h.parts hh).2⟩⟩

theorem pull_made {w : World} {P : Nat} {lv : Value} {m : Mem} {pv dv : Value} {o : Opt}
    (h : w.heap[P]? = some (.cells (lv :: (memCells m pv dv ++ (optCells o ++ [.string ⟨#[]⟩]))).toArray 98 (0, 0))) : PullAt w P lv [] (reqOf m pv dv o) :=
  ⟨_, h, rfl, rfl, rfl, rfl, rfl, rfl, rfl, rfl, rfl, rfl, rfl, rfl, ⟨rfl, rfl, rfl, rfl, rfl, rfl, rfl, rfl, rfl, rfl, rfl⟩⟩

set_option maxRecDepth 100000 in
theorem build98 (A : Option Addr) (n c : Nat) (m : Mem) (pv dv : Value) (o : Opt) (w : World) : (Instr.build 98 #[(0, .slice A n c), (1, .agg (memCells m pv dv).toArray), (2, .agg (optCells o).toArray)]).run Try.prog w =
    .ok (.agg (.slice A n c :: (memCells m pv dv ++ (optCells o ++ [.string ⟨#[]⟩]))).toArray) w := run_build w 98 _ _ (by kernel_rfl)

theorem ta_nil (w : World) : (Instr.typeAssert .nilIface 103 100 true).run Try.prog w = .ok (.tuple #[.agg #[.int .u16 0], .bool false]) w := by
  simp [Instr.typeAssert, run_underlying Try.underlying100]
theorem ta_is (v : Value) (w : World) : (Instr.typeAssert (.iface 100 v) 103 100 true).run Try.prog w = .ok (.tuple #[v, .bool true]) w := by
  simp [Instr.typeAssert, run_underlying Try.underlying100]

theorem zero100 (w : World) : (zeroValue 100).run Try.prog w = .ok (.agg #[.int .u16 0]) w := by kernel_rfl

theorem size62 : ∃ i, Try.prog.info? 62 = some i ∧ i.size = 3 := size_of (by kernel_rfl)
theorem agg62 (w : World) : (isAgg 62).run Try.prog w = .ok true w := by simp [isAgg, run_underlying Try.underlying62]

set_option maxRecDepth 100000 in
set_option maxHeartbeats 2000000 in
theorem one_any {w : World} {v : Value} {ss : List Sn} {m : Mem} {pv dv : Value} {o : Opt} (h : RowOf w v ss) (hM : MemOk w m pv dv) (hF : FitsM o m) (hS : FitsS ss) :
    Calls Try.prog 62 #[v, .agg (memCells m pv dv).toArray, .agg (optCells o).toArray] w fun e w' => ∃ v', e = .returned (.tuple #[v', .int .u16 (oneV o ss m).2]) ∧ RowOwn w' 0 v' (oneV o ss m).1 ∧ Below w.heap.size w w' := by
  have hSh : Short ss := ⟨by have := hS.1; omega, fun s hs => by have := hS.2 s hs; omega⟩
  have hbs : belowS [] ss = ss := all_below ss
  have hF0 : Fits0 (reqOf m pv dv o) ss := ⟨hF.root, hF.link, hF.name, hS.1, hS.2⟩
  obtain ⟨i56, hi56, hz56⟩ := size56
  obtain ⟨i62, hi62, hz62⟩ := size62
  have h1 := heap_alloc_new w (.cells (memCells m pv dv).toArray 56)
  have hb1 : Below w.heap.size w (w.alloc (.cells (memCells m pv dv).toArray 56)) := (Below.refl _ _).alloc (Nat.le_refl _) _
  generalize hw1 : w.alloc (.cells (memCells m pv dv).toArray 56) = w1 at h1 hb1
  have h2 := heap_alloc_new w1 (.cells (optCells o).toArray 62)
  have hb2 : Below w1.heap.size w1 (w1.alloc (.cells (optCells o).toArray 62)) := (Below.refl _ _).alloc (Nat.le_refl _) _
  have hsz : w1.heap.size = w.heap.size + 1 := by rw [← hw1]; simp
  have HW1 := Lib.hid hw1
  have HSZ := Lib.hid hsz
  have HH := Lib.hid h1
  have HB1 := Lib.hid hb1
  have HH2 := Lib.hid h2
  have HB2 := Lib.hid hb2
  have HI62 := Lib.hid hi62
  have HZ62 := Lib.hid hz62
  have HI56 := Lib.hid hi56
  have HZ56 := Lib.hid hz56
  clear h1 hb1 h2 hb2 hi56 hz56 hsz hi62 hz62
  go_enter Try.func62, Try.ntmps62
  go_upto_region 1 with fail
  refine wp_region_ordV [0, 2, 3, 1, 4, 5, 6] [1, 5] (by kernel_rfl) (by kernel_rfl) (by kernel_rfl) (fun d _ _ _ _ h => by cases d <;> exact h) (by kernel_rfl) ?_
  intro WG hWG hBG
  have HBG := Lib.hid ((HB1.out.trans (HB2.out.mono HB1.out.size)).trans (hBG.mono (HB1.out.trans (HB2.out.mono HB1.out.size)).size))
  have HL1 := Lib.hid (show ∀ W, Below WG.heap.size WG W → ∀ j v, (memCells m pv dv)[j]? = some v → W.cell? ((⟨w.heap.size, 0, none⟩ : Addr).add j) = some v from fun W hW =>
    row_cells ((hW.block _ (by have := hBG.size; have := HB2.out.size; have := HSZ.out; omega)).trans ((hBG.block _ (by have := HB2.out.size; have := HSZ.out; omega)).trans ((HB2.out.block _ (by have := HSZ.out; omega)).trans HH.out))))
  have HL2 := Lib.hid (show ∀ W, Below WG.heap.size WG W → ∀ j v, (optCells o)[j]? = some v → W.cell? ((⟨w1.heap.size, 0, none⟩ : Addr).add j) = some v from fun W hW => by
    have hl2 := (Array.getElem?_eq_some_iff.1 HH2.out).1
    exact row_cells ((hW.block _ (by have := hBG.size; omega)).trans ((hBG.block _ hl2).trans HH2.out)))
  clear hBG hWG hw1
  repeat (first | (refine wpOrd_take (v := ?_) rfl rfl rfl (fun W hW => ?_) ?_; rotate_left; (focus (go_simp; with_reducible rfl)); simp only [Act.put, List.setIfInBounds_toArray, List.set_cons_succ, List.set_cons_zero]) | (refine wpOrd_skip rfl rfl ?_; simp only [Act.put, List.setIfInBounds_toArray, List.set_cons_succ, List.set_cons_zero]))
  refine wpOrd_take (v := .agg (memCells m pv dv).toArray) rfl rfl rfl (fun W hW => exec_load_row 56 _ i56 ⟨w.heap.size, 0, none⟩ (memCells m pv dv) HI56.out HZ56.out (agg56 W) rfl (HL1.out W hW)) ?_
  simp only [Act.put, List.setIfInBounds_toArray, List.set_cons_succ, List.set_cons_zero]
  refine wpOrd_take (v := .agg (optCells o).toArray) rfl rfl rfl (fun W hW => exec_load_row 62 _ i62 ⟨w1.heap.size, 0, none⟩ (optCells o) HI62.out HZ62.out (agg62 W) rfl (HL2.out W hW)) ?_
  simp only [Act.put, List.setIfInBounds_toArray, List.set_cons_succ, List.set_cons_zero]
  refine wpOrd_call rfl rfl rfl ?_
  go_simp
  refine (below_own (h.below HBG.out) [] (by simp) hSh).mono ?_
  rintro e w3 ⟨v3, rfl, hR3, hb3⟩
  refine ⟨hb3, ?_⟩
  rw [hbs] at hR3
  obtain ⟨A3, n3, c3, rfl⟩ := hR3.form
  have hbd := build98 A3 n3 c3 m pv dv o
  refine wpOrd_take (v := .agg (.slice A3 n3 c3 :: (memCells m pv dv ++ (optCells o ++ [.string ⟨#[]⟩]))).toArray) rfl rfl rfl (fun W hW => ?_) ?_
  · unfold execOp
    simp only [List.map_toArray, List.map_cons, List.map_nil, Act.eval]
    show (Instr.build 98 #[(0, .slice A3 n3 c3), (1, .agg (memCells m pv dv).toArray), (2, .agg (optCells o).toArray)] >>= fun x => pure (Next.value x)).run Try.prog W = _
    rw [Sem.run_bind, hbd W]
    rfl
  simp only [Act.put, List.setIfInBounds_toArray, List.set_cons_succ, List.set_cons_zero]
  refine wpOrd_call rfl rfl rfl ?_
  go_simp
  have h4 := heap_alloc_new w3 (.cells (.slice A3 n3 c3 :: (memCells m pv dv ++ (optCells o ++ [.string ⟨#[]⟩]))).toArray 98)
  have hb4 : Below w3.heap.size w3 (w3.alloc (.cells (.slice A3 n3 c3 :: (memCells m pv dv ++ (optCells o ++ [.string ⟨#[]⟩]))).toArray 98)) := (Below.refl _ _).alloc (Nat.le_refl _) _
  generalize w3.alloc (.cells (.slice A3 n3 c3 :: (memCells m pv dv ++ (optCells o ++ [.string ⟨#[]⟩]))).toArray 98) = w4 at h4 hb4 ⊢
  refine ⟨hb4, ?_⟩
  repeat (first | (refine wpOrd_take (v := ?_) rfl rfl rfl (fun W hW => ?_) ?_; rotate_left; (focus (go_simp; with_reducible rfl)); simp only [Act.put, List.setIfInBounds_toArray, List.set_cons_succ, List.set_cons_zero]) | (refine wpOrd_skip rfl rfl ?_; simp only [Act.put, List.setIfInBounds_toArray, List.set_cons_succ, List.set_cons_zero]))
  refine wpOrd_nil ?_
  have hB3 := HBG.out.trans (hb3.mono HBG.out.size)
  have HM3 := Lib.hid (hM.below hB3)
  have HPL := pull_any (pull_made h4) ((hR3.below hb4).wider (Nat.zero_le _)) hF0 (m := m) (fun W hW => by
    have hB : Below w3.heap.size w3 W := hb4.trans (hW.below (fun k hk => by omega) hb4.size)
    have hm := HM3.out.below hB
    exact ⟨rfl, rfl, rfl, rfl, rfl, hm.data, hm.slice, hm.parts⟩)
  have HPS := Lib.hid (show w.heap.size ≤ w3.heap.size from hB3.size)
  have HB4 := Lib.hid (hB3.trans (hb4.mono hB3.size))
  rw [show (reqOf m pv dv o).opt = o from rfl] at HPL
  obtain ⟨⟨os, oc⟩, hov⟩ : ∃ ov, oneV o ss m = ov := ⟨_, rfl⟩
  rw [hov] at HPL
  have HOV := Lib.hid hov
  clear hov
  clear h4 hb4 hb3 hB3 hR3 hbd HL1 HL2 hM h hF hS hSh hF0 hbs HB1 HB2 HH HH2
  go_wp2_with fail
  refine HPL.mono ?_
  rintro e w5 ⟨path, rfl, lv', hP5, hR5, hO5⟩
  have HP5 := Lib.hid hP5
  have HFIN := Lib.hid (show RowOwn w5 0 lv' os ∧ Below w.heap.size w w5 from ⟨hR5, HB4.out.trans (hO5.below (fun k hk => by have := HPS.out; omega) HB4.out.size)⟩)
  obtain ⟨A5, n5, c5, rfl⟩ := hR5.form
  have p0 := hP5.cells.row
  clear HPL hP5 hR5 hO5
  by_cases hz : oc = 0
  · subst hz
    unfold errV
    rw [if_pos rfl]
    have hta := ta_nil
    have hb6 : Below w5.heap.size w5 (w5.alloc (.cells #[.int .u16 0] 100)) := (Below.refl _ _).alloc (Nat.le_refl _) _
    have q0 := (HP5.out.below hb6).cells.row
    go_wp2_with fail
    go_ret2
    rw [HOV.out]
    exact ⟨_, rfl, HFIN.out.1.below hb6, HFIN.out.2.trans (hb6.mono HFIN.out.2.size)⟩
  · unfold errV
    dsimp only
    rw [if_neg hz]
    have hta := fun w => ta_is (.agg #[.int .u16 oc]) w
    clear p0
    go_upto_region 4 with fail
    have h6 := heap_alloc_new w5 (.cells #[.int .u16 oc] 100)
    have hb6 : Below w5.heap.size w5 (w5.alloc (.cells #[.int .u16 oc] 100)) := (Below.refl _ _).alloc (Nat.le_refl _) _
    refine wp_region_ordV [0, 1, 2, 3, 4, 5, 6, 7] [] (by kernel_rfl) (by kernel_rfl) (by kernel_rfl) (fun d _ _ _ _ h => by cases d <;> exact h) (by kernel_rfl) ?_
    intro WH hWH hBH
    have hbH := hb6.trans (hBH.mono hb6.size)
    have hl6 := (Array.getElem?_eq_some_iff.1 h6).1
    have u0 := fun W (hW : Below WH.heap.size WH W) => ((HP5.out.below hbH).below hW).cells.row
    have u1 : ∀ W, Below WH.heap.size WH W → W.cell? ⟨w5.heap.size, 0, none⟩ = some (.int .u16 oc) := fun W hW => by
      have := (hW.block w5.heap.size (by have := hBH.size; omega)).trans ((hBH.block _ hl6).trans h6)
      unfold World.cell?
      dsimp only
      rw [this]
      rfl
    have HF6 := Lib.hid (show RowOwn WH 0 (.slice A5 n5 c5) os ∧ Below w.heap.size w WH from ⟨HFIN.out.1.below hbH, HFIN.out.2.trans (hbH.mono HFIN.out.2.size)⟩)
    clear hb6 hbH hl6 h6 hBH hWH
    repeat (first | (refine wpOrd_take (v := ?_) rfl rfl rfl (fun W hW => ?_) ?_; rotate_left; (focus (go_simp; with_reducible rfl)); simp only [Act.put, List.setIfInBounds_toArray, List.set_cons_succ, List.set_cons_zero]) | (refine wpOrd_skip rfl rfl ?_; simp only [Act.put, List.setIfInBounds_toArray, List.set_cons_succ, List.set_cons_zero]))
    refine wpOrd_nil ?_
    go_wp2_with fail
    go_ret2
    rw [HOV.out]
    exact ⟨_, rfl, HF6.out⟩

end Go.Proofs.Ytlbipmlbkcdmnaa

/-
  Members, laid one behind the other.
-/
namespace Go.Proofs.Ytlbipmlbkcdmnaa
open Go.RowKit Go.Shelf

def Shp (o : Opt) (ss : List Sn) (p : List UInt8) (x : List Sn × Int) : Prop := x.1 = ss ∨ ∃ s : Sn, s.path = p ∧ x.1 = layL o.root s ss
theorem Shp.ite {o : Opt} {ss : List Sn} {p : List UInt8} {c : Prop} [Decidable c] {a b : List Sn × Int} (ha : Shp o ss p a) (hb : Shp o ss p b) : Shp o ss p (if c then a else b) := by
  split
  · exact ha
  · exact hb

theorem one_shape (o : Opt) (ss : List Sn) (m : Mem) : Shp o ss (whereV o.root m.name).1 (oneV o ss m) := by
  unfold oneV kindE dirE fileE softE hardE putE
  repeat' apply Shp.ite
  all_goals first
    | exact .inl rfl
    | exact .inr ⟨_, rfl, rfl⟩

/-- Bounds of members that are laid in a row. -/
structure FitsE (o : Opt) (m : Mem) : Prop where
  root : o.root.length ≤ 1000
  link : m.link.length ≤ 1000
  name : m.name.length ≤ 1000
def FitsN (k : Nat) (ss : List Sn) : Prop := ss.length ≤ 100000 + 3000 * k ∧ ∀ s ∈ ss, s.path.length ≤ 100000

theorem FitsN.one {o : Opt} {m : Mem} {k : Nat} {ss : List Sn} (h : FitsN k ss) (hm : FitsE o m) : FitsN (k + 1) (oneV o ss m).1 := by
  rcases one_shape o ss m with e | ⟨s, hs, e⟩
  · rw [e]
    exact ⟨by have := h.1; omega, h.2⟩
  · rw [e]
    have hw := where_len o.root m.name
    rw [← hs] at hw
    have h1 := hm.root
    have h2 := hm.name
    obtain ⟨h3, h4⟩ := ahead_short o.root s.path
    obtain ⟨h5, h6⟩ := layDirs_short (m := 100000) (aheadL o.root s.path) ss (fun a ha => by have := h4 a ha; omega) h.2
    refine ⟨?_, fun t ht => ?_⟩
    · have h7 := putG_len Sn.path s (goneL s.path ((aheadL o.root s.path).foldl layDir ss))
      have h8 : (goneL s.path ((aheadL o.root s.path).foldl layDir ss)).length ≤ ((aheadL o.root s.path).foldl layDir ss).length := List.length_filter_le _ _
      have := h.1
      unfold layL
      omega
    · unfold layL at ht
      refine putG_bound (m := 100000) (by omega) (fun t ht => ?_) t ht
      exact h6 t (List.mem_filter.1 ht).1

/-- Members, as they lie in a row. -/
def MemsRow (w : World) (v : Value) (ms : List Mem) : Prop :=
  ∃ (A : Option Addr) (c : Nat), v = .slice A ms.length c ∧ ∀ (j : Nat) (m : Mem), ms[j]? = some m → ∃ b off pv dv, A = some ⟨b, off, none⟩ ∧ MemOk w m pv dv ∧ ∀ (i : Nat) (x : Value), (memCells m pv dv)[i]? = some x → w.cell? ⟨b, off + j * 18 + i, none⟩ = some x

theorem MemsRow.below {w w' : World} {v : Value} {ms : List Mem} (h : MemsRow w v ms) (hb : Below w.heap.size w w') : MemsRow w' v ms := by
  obtain ⟨A, c, rfl, h⟩ := h
  refine ⟨A, c, rfl, fun j m hm => ?_⟩
  obtain ⟨b, off, pv, dv, h1, h2, h3⟩ := h j m hm
  exact ⟨b, off, pv, dv, h1, h2.below hb, fun i x hx => (hb.cell (World.block_lt_of_cell? _ _ (h3 i x hx))).trans (h3 i x hx)⟩

/-- Refusals, as they lie. -/
def encR (r : Nat × Int) : List Value := [.int .i64 r.1, .int .u16 r.2]
def cellsR (rs : List (Nat × Int)) : List Value := rs.flatMap encR

theorem cellsR_snoc (rs : List (Nat × Int)) (r : Nat × Int) : cellsR rs ++ encR r = cellsR (rs ++ [r]) := by
  unfold cellsR
  rw [List.flatMap_append]
  simp

theorem Try.info93 : (Try.prog.info? 93).map (fun i => (i.zero, i.size, i.bytes)) = some (some (.agg #[.int .i64 0, .int .u16 0]), 2, 16) := by kernel_rfl

theorem memCells_one (m : Mem) (A A' : Option Addr) (n n' c c' : Nat) : ∀ v ∈ memCells m (.slice A n c) (.slice A' n' c'), v.oneCell' = true := by
  intro v hv
  unfold memCells at hv
  simp only [List.mem_cons, List.not_mem_nil, or_false] at hv
  rcases hv with rfl | rfl | rfl | rfl | rfl | rfl | rfl | rfl | rfl | rfl | rfl | rfl | rfl | rfl | rfl | rfl | rfl | rfl <;> rfl

theorem encR_one (r : Nat × Int) : ∀ v ∈ encR r, v.oneCell' = true := by
  intro v hv
  simp [encR] at hv
  rcases hv with rfl | rfl <;> rfl

/-- A tree of one's own stays while a row of refusals grows. -/
theorem RowOwn.grown {w w' : World} {B B' n : Nat} {v v' : Value} {ss : List Sn} {xs : List Value} (h : RowOwn w B v ss) (ho : w.ownsRow B' 93 2 v' n xs) (hg : w.grownBy w' v'.ownBlock) : RowOwn w' B v ss := by
  rcases ho.2 with ⟨rfl, _⟩ | ⟨g, cap, cur, rfl, _, hg', _⟩
  · exact h.below ⟨hg.os, hg.tape, hg.output, hg.size, fun k hk => hg.block k hk (by simp [Value.ownBlock])⟩
  · obtain ⟨m, ms, h1, h2⟩ := h
    have hk : ∀ k, k < w.heap.size → k ≠ g → w'.heap[k]? = w.heap[k]? := fun k hk hne => hg.block k hk (by simpa [Value.ownBlock] using hne)
    refine ⟨m, ms, own_other h1 hg' (by decide) hk, h2.1, fun j x s hx hs => ?_⟩
    obtain ⟨a, b, c, d, e⟩ := h2.2 j x s hx hs
    exact ⟨a, b, c, own_other d hg' (by decide) hk, e⟩

set_option maxRecDepth 100000 in
set_option maxHeartbeats 2000000 in
theorem extract_any {w : World} {v va : Value} {ss : List Sn} {ms : List Mem} {o : Opt} (h : RowOf w v ss) (hM : MemsRow w va ms) (hF : ∀ m ∈ ms, FitsE o m) (hS : FitsN 0 ss) (hn : ms.length ≤ 100) :
    Calls Try.prog 38 #[v, va, .agg (optCells o).toArray] w fun e w' => ∃ v' r', e = .returned (.tuple #[v', r']) ∧ RowOf w' v' (extractV o ss ms).1 ∧ w'.ownsRow w.heap.size 93 2 r' (extractV o ss ms).2.length (cellsR (extractV o ss ms).2) ∧ Below w.heap.size w w' := by
  have hSh : Short ss := ⟨by have := hS.1; omega, fun s hs => by have := hS.2 s hs; omega⟩
  have hbs : belowS [] ss = ss := all_below ss
  obtain ⟨i56, hi56, hz56⟩ := size56
  obtain ⟨i62, hi62, hz62⟩ := size62
  have h1 := heap_alloc_new w (.cells (optCells o).toArray 62)
  have hb1 : Below w.heap.size w (w.alloc (.cells (optCells o).toArray 62)) := (Below.refl _ _).alloc (Nat.le_refl _) _
  generalize hw1 : w.alloc (.cells (optCells o).toArray 62) = w1 at h1 hb1
  have HB := below_own (h.below hb1) [] (by simp) hSh
  rw [hbs] at HB
  obtain ⟨Am, cm, rfl, hmem⟩ := hM
  go_enter Try.func38, Try.ntmps38
  go_wp2_with fail
  refine HB.mono ?_
  rintro e w2 ⟨v2, rfl, hR2, hb2⟩
  clear HB hw1
  go_wp2_with fail
  have hkk : ∀ (W : World), Below w1.heap.size w1 W → ∀ j v, (optCells o)[j]? = some v → W.cell? ((⟨w.heap.size, 0, none⟩ : Addr).add j) = some v := fun W hW =>
    row_cells ((hW.block _ (Array.getElem?_eq_some_iff.1 h1).1).trans h1)
  have HK := Lib.hid hkk
  have HMEM := Lib.hid (show ∀ W, Below w.heap.size w W → ∀ (j : Nat) (m : Mem), ms[j]? = some m → ∃ b off pv dv, Am = some ⟨b, off, none⟩ ∧ MemOk W m pv dv ∧ ∀ (i : Nat) (x : Value), (memCells m pv dv)[i]? = some x → W.cell? ⟨b, off + j * 18 + i, none⟩ = some x from fun W hW j m hm => by
    obtain ⟨b, off, pv, dv, k1, k2, k3⟩ := hmem j m hm
    exact ⟨b, off, pv, dv, k1, k2.below hW, fun i x hx => (hW.cell (World.block_lt_of_cell? _ _ (k3 i x hx))).trans (k3 i x hx)⟩)
  have HX := Lib.hid (show extractV o ss ms = ms.zipIdx.foldl (stepV o) (ss, []) from rfl)
  have HB1 := Lib.hid hb1
  have HB2 := Lib.hid hb2
  have HI62 := Lib.hid hi62
  have HZ62 := Lib.hid hz62
  have HI56 := Lib.hid hi56
  have HZ56 := Lib.hid hz56
  have HS0 := Lib.hid hS
  have HFE := Lib.hid hF
  have HR0 := Lib.hid (hR2.wider (Nat.zero_le _))
  clear hkk hmem hb1 hb2 hi56 hz56 hi62 hz62 h1 hbs hSh hS hF hR2 h
  go_loopw [0, 8, 9, 10, 11, 16, 17, 18, 19, 20, 21, 22, 23, 24, 25, 26, 27, 28, 29, 30, 31, 32, 33, 34, 35, 36] (fun v0 v8 _ _ _ v16 _ _ _ _ _ _ _ _ _ _ _ _ _ _ _ _ _ _ _ _ wr => ∃ (k : Nat) (st : List Sn × List (Nat × Int)), k ≤ ms.length ∧ v16 = .int .i64 k ∧ (ms.zipIdx.take k).foldl (stepV o) (ss, []) = st ∧ RowOwn wr 0 v0 st.1 ∧ FitsN k st.1 ∧ st.2.length ≤ k ∧ wr.ownsRow w2.heap.size 93 2 v8 st.2.length (cellsR st.2) ∧ Below w2.heap.size w2 wr)
    (fun v0 v8 _ _ _ v16 _ _ _ _ _ _ _ _ _ _ _ _ _ _ _ _ _ _ _ _ _ => ms.length - (intOf v16).toNat)
  case atStart => exact ⟨0, (ss, []), Nat.zero_le _, rfl, rfl, HR0.out, HS0.out, Nat.le_refl _, World.ownsRow_nil _ _ _ _, Below.refl _ _⟩
  case round =>
    obtain ⟨k, st, hk, rfl, hst, hRk, hSk, hlen, hOk, hbk⟩ := hrel
    by_cases hkz : k < ms.length
    · have hkz' : (k : Int) < (ms.length : Int) := by omega
      obtain ⟨m, hm⟩ : ∃ m, ms[k]? = some m := ⟨_, List.getElem?_eq_getElem hkz⟩
      have hB12 := HB1.out.trans (HB2.out.mono HB1.out.size)
      have hB3 := hB12.trans (hbk.mono hB12.size)
      obtain ⟨b, off, pv, dv, rfl, hmk, hck⟩ := HMEM.out wr hB3 k m hm
      obtain ⟨pA, pn, pc, rfl⟩ := hmk.slice
      obtain ⟨dA, dc, rfl, _⟩ := hmk.data
      have hb4 : Below wr.heap.size wr (wr.alloc (.cells (memCells m (.slice pA pn pc) (.slice dA m.data.length dc)).toArray 56)) := (Below.refl _ _).alloc (Nat.le_refl _) _
      have hb24 := HB2.out.trans (hbk.mono HB2.out.size)
      have HL1 := Lib.hid (row_cells (heap_alloc_new wr (.cells (memCells m (.slice pA pn pc) (.slice dA m.data.length dc)).toArray 56)))
      have HL2 := Lib.hid (HK.out _ (hb24.trans (hb4.mono hb24.size)))
      have HCK := Lib.hid (show ∀ j v, (memCells m (.slice pA pn pc) (.slice dA m.data.length dc))[j]? = some v → wr.cell? ((⟨b, off + k * 18, none⟩ : Addr).add j) = some v from fun j v hj => by rw [Addr.add_lit]; exact hck j v hj)
      have hfe := HFE.out m (List.mem_of_getElem? hm)
      have HFE1 := Lib.hid hfe
      have HONE := Lib.hid (one_any (o := o) (m := m) (hRk.row.below hb4) (hmk.below hb4) ⟨by have := hfe.root; omega, by have := hfe.link; omega, by have := hfe.name; omega⟩ (show FitsS st.1 from ⟨by have := hSk.1; omega, fun s hs => by have := hSk.2 s hs; omega⟩))
      have HST := Lib.hid (show (ms.zipIdx.take (k + 1)).foldl (stepV o) (ss, []) = stepV o st (m, k) from by
        rw [foldl_take (stepV o) (ss, []) ms.zipIdx (k := k) (x := (m, k)) (by rw [List.getElem?_zipIdx, hm]; simp), hst])
      have HSK := Lib.hid hSk
      have HLEN := Lib.hid hlen
      have HOK := Lib.hid hOk
      have HB3 := Lib.hid hB3
      have HBK := Lib.hid hbk
      have HB4 := Lib.hid hb4
      clear hck hfe hst hSk hOk hB3 hbk hb4 hb24 hB12 hRk hmk hm
      go_upto_region 5 with fail
      apply wp_region_lit
      iterate 6 go_step
      refine wpList_load_row 56 _ i56 ⟨b, off + k * 18, none⟩ (memCells m (.slice pA pn pc) (.slice dA m.data.length dc)) HI56.out HZ56.out (agg56 _) rfl HCK.out ?_
      iterate 6 go_step
      refine wpList_store_new 56 _ _ i56 _ (memCells m (.slice pA pn pc) (.slice dA m.data.length dc)) HI56.out HZ56.out rfl rfl rfl (memCells_one _ _ _ _ _ _ _) ?_
      go_upto_region 7 with fail
      apply wp_region_lit
      iterate 3 go_step
      refine wpList_load_row 56 _ i56 ⟨wr.heap.size, 0, none⟩ (memCells m (.slice pA pn pc) (.slice dA m.data.length dc)) HI56.out HZ56.out (agg56 _) rfl HL1.out ?_
      refine wpList_load_row 62 _ i62 ⟨w.heap.size, 0, none⟩ (optCells o) HI62.out HZ62.out (agg62 _) rfl HL2.out ?_
      go_wp2_with fail
      refine HONE.out.mono ?_
      rintro e w5 ⟨v5, rfl, hR5, hb5⟩
      have HSN := Lib.hid (HSK.out.one (o := o) (m := m) HFE1.out)
      have HB5 := Lib.hid (HB4.out.trans (hb5.mono HB4.out.size))
      have HO5 := Lib.hid (own_below HOK.out HB5.out)
      have HR5 := Lib.hid hR5
      obtain ⟨⟨os, oc⟩, hov⟩ : ∃ ov, oneV o st.1 m = ov := ⟨_, rfl⟩
      have hst2 : stepV o st (m, k) = (os, if oc = 0 then st.2 else st.2 ++ [(k, oc)]) := by unfold stepV; dsimp only; rw [hov]
      rw [hov] at HSN HR5
      rw [hst2] at HST
      rw [hov]
      clear hov hst2 hR5 hb5 HONE
      dsimp only at HSN HR5 ⊢
      have hst24 : w2.heap.size ≤ wr.heap.size := HBK.out.size
      obtain ⟨A8, c8, rfl⟩ := own_form HOK.out
      by_cases hz : oc = 0
      · subst hz
        rw [if_pos rfl] at HST
        go_wp2_with fail
        go_roundw
        case rel => exact ⟨k + 1, (os, st.2), by omega, by go_num, HST.out, HR5.out, HSN.out, (by have := HLEN.out; show st.2.length ≤ k + 1; omega), HO5.out, HBK.out.trans (HB5.out.mono HBK.out.size)⟩
        case measure => simp only [intOf]; omega
      · rw [if_neg hz] at HST
        obtain ⟨i0, hi, hzz0, hzz1, hzz2⟩ := info_parts Try.info93
        have h89 : w2.heap.size ≤ w5.heap.size := by have := HB5.out.size; omega
        go_wp2_with (at_builtin; refine wpList_append_own _ rfl _ _ 58 rfl w2.heap.size 93 i0 _ 2 16 Try.underlying58 hi hzz0 hzz1 hzz2 rfl (by decide) (.slice A8 st.2.length c8) st.2.length (cellsR st.2) rfl (HO5.out.alloc _) ⟨_, 0, none⟩ 1 1 (encR (k, oc)) rfl rfl (cells_new _ (encR (k, oc)).toArray 93) (encR_one (k, oc)) (by unfold maxLen; omega) (by omega) (by simp; omega) ?_; intro v' w6 hown6 hgrow6 _; rw [cellsR_snoc] at hown6; obtain ⟨A9, c9, rfl⟩ := own_form hown6)
        have hb25 := HBK.out.trans (HB5.out.mono HBK.out.size)
        go_roundw
        case rel => exact ⟨k + 1, (os, st.2 ++ [(k, oc)]), by omega, by go_num, HST.out, ((HR5.out.below ((Below.refl _ _).alloc (Nat.le_refl _) _)).grown (HO5.out.alloc _) hgrow6), HSN.out, (by have := HLEN.out; simp; omega), by simpa using hown6, (hb25.alloc hb25.size _).grown hgrow6 (by have := hb25.size; simp; omega) (fun j e => own_from HO5.out j e)⟩
        case measure => simp only [intOf]; omega
    · obtain rfl : k = ms.length := by omega
      rw [List.take_of_length_le (by rw [List.length_zipIdx]; omega), ← HX.out] at hst
      have hB12 := HB1.out.trans (HB2.out.mono HB1.out.size)
      have HFIN := Lib.hid (hB12.trans (hbk.mono hB12.size))
      have HST := Lib.hid hst
      have HRK := Lib.hid hRk
      have HOK := Lib.hid hOk
      clear hst hRk hOk hSk hbk hB12
      go_wp2_with fail
      go_ret2
      rw [HST.out]
      exact ⟨_, _, rfl, HRK.out.row, own_wider HOK.out (by have := HB1.out.size; have := HB2.out.size; omega), HFIN.out⟩

end Go.Proofs.Ytlbipmlbkcdmnaa
