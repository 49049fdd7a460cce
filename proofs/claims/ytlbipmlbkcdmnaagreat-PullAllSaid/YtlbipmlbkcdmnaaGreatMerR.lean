/-
  The document's answer for pull: the paths that a path begins with.
-/
import Derived.Test.YtlbipmlbkcdmnaaGreatBsV
import Derived.Laws.AppendOwnNone
namespace Go.Proofs.YtlbipmlbkcdmnaaGreat
open Go.RowKit Go.Shelf

theorem belowP_under (r a : List UInt8) : belowP r a = (!(a == r) && underL a r && !a.isEmpty) := by
  rw [← below_under]
  unfold belowP belowL
  cases r with
  | nil =>
    cases a with
    | nil => rfl
    | cons x t => simp
  | cons y t =>
    simp only [List.isEmpty_cons, Bool.false_and, Bool.false_or]
    rw [Bool.eq_iff_iff]
    constructor
    · intro h
      have h1 : (y :: t ++ [47]) <+: a := by
        unfold Lib.hasPrefix at h
        simpa [List.isPrefixOf_iff_prefix] using h
      have h2 := h1.length_le
      have h3 : ¬ a = y :: t := fun e => by rw [e] at h2; simp at h2; omega
      have h4 : ¬ a = [] := fun e => by rw [e] at h2; simp at h2
      rw [h]
      simp [h3, h4]
    · intro h
      simp only [Bool.and_eq_true] at h
      exact h.1.2

theorem encS_all (xs : List (List UInt8)) : ∀ u ∈ xs.map encS, u.oneCell' = true := by
  intro u hu
  obtain ⟨x, _, rfl⟩ := List.mem_map.1 hu
  rfl

theorem str_of_own {w : World} {B B' : Nat} {v : Value} {xs : List (List UInt8)} (h : w.ownsRow B 9 1 v xs.length (xs.map encS)) (hB : B' ≤ B) : StrRow w B' v xs := by
  obtain ⟨A, c, rfl⟩ := own_form h
  refine ⟨A, c, rfl, fun j x hx => ?_⟩
  rcases h.2 with ⟨hv, h0⟩ | ⟨g, cap, cur, hv, hgb, hg, _⟩
  · have hx0 : xs = [] := List.eq_nil_of_length_eq_zero h0
    subst hx0
    simp at hx
  · injection hv with hv1 hv2 hv3
    subst hv1
    have h1 := h.cells (g := g) rfl j (encS x) (by simp [hx])
    rw [Addr.add_lit, Nat.zero_add] at h1
    exact ⟨g, rfl, Nat.le_trans hB hgb, h1⟩

set_option maxRecDepth 100000 in
set_option maxHeartbeats 2000000 in
theorem refAhead_any (root p : List UInt8) (hr : root.length ≤ 10000000000) (hp : p.length ≤ 10000000000) (w : World) :
    Calls Tryz.prog 39 #[.string ⟨root.toArray⟩, .string ⟨p.toArray⟩] w fun e w' => ∃ v, e = .returned v ∧ StrRow w' w.heap.size v (aheadL root p) ∧ Below w.heap.size w w' := by
  obtain ⟨i0, hi, hz0, hz1, hz2⟩ := info_parts Tryz.info9
  have HU := fun w => refUp_any p (by omega) w
  have hul := upL_len p
  have HA := Lib.hid (show aheadL root p = (upsF root (p.length + 1) (upL p)).reverse from rfl)
  generalize aheadL root p = al at HA ⊢
  generalize upL p = a0 at HU HA hul
  go_enter Tryz.func39, Tryz.ntmps39
  go_wp2_with fail
  refine (HU _).mono ?_
  rintro e w2 ⟨rfl, hb2⟩
  have HB2 := Lib.hid hb2
  clear HU hb2
  go_wp2_with fail
  go_loopw [5, 6, 7, 10, 11, 12, 13, 14, 15, 16, 17, 18, 19, 20, 21, 22, 23, 24, 25, 26, 27, 28, 29, 30, 31] (fun v5 v6 _ _ _ _ _ _ _ _ _ _ _ _ _ _ _ _ _ _ _ _ _ _ _ wr => ∃ (xs : List (List UInt8)) (a : List UInt8) (f : Nat), v6 = .string ⟨a.toArray⟩ ∧ wr.ownsRow w2.heap.size 9 1 v5 xs.length (xs.map encS) ∧ xs.length + f ≤ p.length + 1 ∧ a.length < f ∧ (upsF root f a).reverse ++ xs = (upsF root (p.length + 1) a0).reverse ∧ Below w2.heap.size w2 wr)
    (fun _ v6 _ _ _ _ _ _ _ _ _ _ _ _ _ _ _ _ _ _ _ _ _ _ _ _ => strLen v6)
  case atStart => exact ⟨[], a0, p.length + 1, rfl, World.ownsRow_nil _ _ _ _, by simp, by omega, by simp, Below.refl _ _⟩
  case round =>
    obtain ⟨xs, a, f, rfl, ho, hlen, haf, hups, hb⟩ := hrel
    have HUN := fun w => under_any a root (by omega) w
    obtain ⟨A5, c5, rfl⟩ := own_form ho
    have HO := Lib.hid ho; have HBB := Lib.hid hb
    clear ho hb
    obtain ⟨f, rfl⟩ : ∃ f', f = f' + 1 := ⟨f - 1, by omega⟩
    rw [upsF] at hups
    have hbu := belowP_under root a
    by_cases hq : belowP root a = true
    · rw [hq] at hbu hups
      rw [if_pos rfl] at hups
      have hne := below_ne hq
      have hsh := up_short hne
      have HU2 := fun w => refUp_any a (by omega) w
      have HUPS := Lib.hid hups
      have e1 := emp hne
      rw [e1] at hbu
      obtain ⟨har, hun⟩ : (a == root) = false ∧ underL a root = true := by
        revert hbu
        cases (a == root) <;> cases underL a root <;> simp
      rw [hun] at HUN
      clear hq hups hbu hun
      generalize hau : upL a = au at HU2 hsh HUPS
      clear hau
      have hend : ∀ (v4 : Value) (w4 : World), w4.ownsRow w2.heap.size 9 1 v4 (1 + xs.length) ([encS a] ++ xs.map encS) → Below w2.heap.size w2 w4 → ∀ w5, Below w4.heap.size w4 w5 →
          ∃ (xs' : List (List UInt8)) (a' : List UInt8) (f' : Nat), (Value.string ⟨au.toArray⟩) = .string ⟨a'.toArray⟩ ∧ w5.ownsRow w2.heap.size 9 1 v4 xs'.length (xs'.map encS) ∧ xs'.length + f' ≤ p.length + 1 ∧ a'.length < f' ∧ (upsF root f' a').reverse ++ xs' = (upsF root (p.length + 1) a0).reverse ∧ Below w2.heap.size w2 w5 := fun v4 w4 h1 h2 w5 h3 =>
        ⟨a :: xs, au, f, rfl, own_below (by simpa [Nat.add_comm] using h1) h3, by simp; omega, by omega, by rw [← HUPS.out]; simp, h2.trans (h3.mono h2.size)⟩
      have HEND := Lib.hid hend
      clear hend
      have hxl : xs.length ≤ 20000000000 := by omega
      rcases HO.out.2 with ⟨hv, h0⟩ | ⟨g, cap, cur, hv, hgb, hg, _⟩
      · have hx0 : xs = [] := List.eq_nil_of_length_eq_zero h0
        subst hx0
        injection hv with hv1 hv2 hv3
        subst hv1
        subst hv3
        clear hv2 h0
        go_wp2_with fail
        refine (HUN _).mono ?_
        rintro e w4 ⟨rfl, hw4⟩
        obtain rfl := hw4.symm
        go_wp2_with (first | (at_builtin; refine wpList_append_own _ rfl _ _ 55 rfl w2.heap.size 9 i0 (.string ⟨#[]⟩) 1 16 Tryz.underlying55 hi hz0 hz1 hz2 rfl (by decide) (.slice none 0 0) 0 [] rfl (World.ownsRow_nil _ _ _ _) ⟨_, 0, none⟩ 1 1 [encS a] rfl rfl (cells_new _ #[encS a] 9) (encS_one a) (by unfold maxLen; omega) (by omega) (by have := HBB.out.size; simp; omega) ?_; intro v' w3 hown3 hgrow3 _; rw [Nat.zero_add, List.nil_append] at hown3; obtain ⟨A7, c7, rfl⟩ := own_form hown3; have hb3 := (HBB.out.alloc HBB.out.size _).grown hgrow3 (by have := HBB.out.size; simp; omega) (fun j e => by cases e); have HB3 := Lib.hid hb3; have HO3 := Lib.hid hown3; clear hb3 hown3 hgrow3) | (at_builtin; refine wpList_append_own_none rfl _ _ 55 rfl w2.heap.size 9 i0 1 Tryz.underlying55 hi _ _ _ rfl HO3.out rfl ?_))
        refine (HU2 _).mono ?_
        rintro e w5 ⟨rfl, hb5⟩
        have HFIN := Lib.hid (HEND.out _ _ (by simpa using HO3.out) HB3.out _ hb5)
        clear hb5 HU2
        go_wp2_with fail
        go_roundw
        case rel => exact HFIN.out
        case measure => exact hsh
      · injection hv with hv1 hv2 hv3
        subst hv1
        subst hv3
        clear hv2
        go_wp2_with fail
        refine (HUN _).mono ?_
        rintro e w4 ⟨rfl, hw4⟩
        obtain rfl := hw4.symm
        go_wp2_with (first | (at_builtin; refine wpList_append_own _ rfl _ _ 55 rfl w2.heap.size 9 i0 (.string ⟨#[]⟩) 1 16 Tryz.underlying55 hi hz0 hz1 hz2 rfl (by decide) (.slice none 0 0) 0 [] rfl (World.ownsRow_nil _ _ _ _) ⟨_, 0, none⟩ 1 1 [encS a] rfl rfl (cells_new _ #[encS a] 9) (encS_one a) (by unfold maxLen; omega) (by omega) (by have := HBB.out.size; simp; omega) ?_; intro v' w3 hown3 hgrow3 _; rw [Nat.zero_add, List.nil_append] at hown3; obtain ⟨A7, c7, rfl⟩ := own_form hown3; have hb3 := (HBB.out.alloc HBB.out.size _).grown hgrow3 (by have := HBB.out.size; simp; omega) (fun j e => by cases e); have HB3 := Lib.hid hb3; have HO3 := Lib.hid hown3; have hbk := (show Below wr.heap.size wr w3 from ((Below.refl _ _).alloc (Nat.le_refl _) _).grown hgrow3 (by simp) (fun j e => by cases e)); have HC := Lib.hid ((own_below HO.out hbk).cells (g := g) rfl); clear hbk; clear hb3 hown3 hgrow3) | (at_builtin; refine wpList_append_own _ rfl _ _ 55 rfl w2.heap.size 9 i0 (.string ⟨#[]⟩) 1 16 Tryz.underlying55 hi hz0 hz1 hz2 rfl (by decide) (.slice A7 1 c7) 1 [encS a] rfl HO3.out ⟨g, 0, none⟩ xs.length c5 (xs.map encS) rfl (by simp) HC.out (encS_all xs) (by unfold maxLen; omega) (by omega) (by have := HB3.out.size; omega) ?_; intro v' w4 hown4 hgrow4 _; obtain ⟨A8, c8, rfl⟩ := own_form hown4; have hb4 := HB3.out.grown hgrow4 (by have := HB3.out.size; omega) (fun j e => own_from HO3.out j e); have HB4 := Lib.hid hb4; have HO4 := Lib.hid hown4; clear hb4 hown4 hgrow4))
        refine (HU2 _).mono ?_
        rintro e w5 ⟨rfl, hb5⟩
        have HFIN := Lib.hid (HEND.out _ _ HO4.out HB4.out _ hb5)
        clear hb5 HU2
        go_wp2_with fail
        go_roundw
        case rel => exact HFIN.out
        case measure => exact hsh
    · have HAL := Lib.hid (show al = xs by rw [HA.out, ← hups, if_neg hq]; simp)
      have hqf : belowP root a = false := by simpa using hq
      rw [hqf] at hbu
      have HST := Lib.hid (str_of_own (B' := w.heap.size) HO.out HB2.out.size)
      have HBE := Lib.hid (HB2.out.trans (HBB.out.mono HB2.out.size))
      clear hups hq hqf HA
      by_cases har : a = root
      · subst har
        have hab : (a == a) = true := by simp
        clear hbu
        go_wp2_with fail
        go_ret
        rw [HAL.out]
        exact ⟨_, rfl, HST.out, HBE.out⟩
      · have hab : (a == root) = false := by simpa using har
        rw [hab] at hbu
        cases hun : underL a root with
        | false =>
          rw [hun] at HUN
          clear hbu hun
          go_wp2_with fail
          refine (HUN _).mono ?_
          rintro e w4 ⟨rfl, hw4⟩
          obtain rfl := hw4.symm
          go_wp2_with fail
          go_ret
          rw [HAL.out]
          exact ⟨_, rfl, HST.out, HBE.out⟩
        | true =>
          rw [hun] at HUN hbu
          have hae : a = [] := by
            revert hbu
            cases a <;> simp
          subst hae
          clear hbu hun
          go_wp2_with fail
          refine (HUN _).mono ?_
          rintro e w4 ⟨rfl, hw4⟩
          obtain rfl := hw4.symm
          go_wp2_with fail
          go_ret
          rw [HAL.out]
          exact ⟨_, rfl, HST.out, HBE.out⟩

end Go.Proofs.YtlbipmlbkcdmnaaGreat

/-
  The document's answer for pull: whether directories are open; what is in the way; a node is laid.
-/
namespace Go.Proofs.YtlbipmlbkcdmnaaGreat
open Go.RowKit Go.Shelf

def openP (ss : List Sn) (mi : Bool) (a : List UInt8) : Bool := if (findL ss a).2 then (findL ss a).1.kind == 53 else mi

theorem all_take {α : Type} {f : α → Bool} {xs : List α} {k : Nat} {x : α} (hx : xs[k]? = some x) : (xs.take (k + 1)).all f = ((xs.take k).all f && f x) := by
  rw [List.take_add_one, hx, List.all_append]
  simp

theorem all_false {α : Type} {f : α → Bool} {xs : List α} {k : Nat} {x : α} (hx : xs[k]? = some x) (hf : f x = false) : xs.all f = false := by
  rw [List.all_eq_false]
  exact ⟨x, List.mem_of_getElem? hx, by simp [hf]⟩

set_option maxRecDepth 100000 in
set_option maxHeartbeats 2000000 in
theorem refOpen_row {w : World} {v pv : Value} {ss : List Sn} {B : Nat} {ps : List (List UInt8)} (h : RowOf w v ss) (hS : Short ss) (hP : StrRow w B pv ps) (mi : Bool) (hn : ps.length ≤ 100000000000) :
    Calls Tryz.prog 38 #[v, pv, .bool mi] w fun e w' => e = .returned (.bool (ps.all (openP ss mi))) ∧ Below w.heap.size w w' := by
  obtain ⟨A, c, rfl, hcell⟩ := hP
  have HR := Lib.hid h
  have HC := Lib.hid (show ∀ W, Below w.heap.size w W → ∀ (j : Nat) (x : List UInt8), ps[j]? = some x → ∃ g, A = some ⟨g, 0, none⟩ ∧ W.cell? ⟨g, j, none⟩ = some (.string ⟨x.toArray⟩) from fun W hW j x hx => by
    obtain ⟨g, h1, _, h3⟩ := hcell j x hx
    exact ⟨g, h1, (hW.cell (World.block_lt_of_cell? w _ h3)).trans h3⟩)
  have HS := Lib.hid hS
  clear h hcell hS
  go_enter Tryz.func38, Tryz.ntmps38
  go_wp2_with fail
  go_loopw [7, 8, 9, 10, 11, 12, 13, 14, 15, 16, 17, 18, 19, 20, 21, 22, 23, 24, 25, 26, 27, 28, 29, 30, 31, 32, 33, 34, 35, 36, 37, 38] (fun v7 _ _ _ _ _ _ _ _ _ _ _ _ _ _ _ _ _ _ _ _ _ _ _ _ _ _ _ _ _ _ _ wr => ∃ k : Nat, k ≤ ps.length ∧ v7 = .int .i64 k ∧ (ps.take k).all (openP ss mi) = true ∧ Below w.heap.size w wr)
    (fun v7 _ _ _ _ _ _ _ _ _ _ _ _ _ _ _ _ _ _ _ _ _ _ _ _ _ _ _ _ _ _ _ _ => ps.length - (intOf v7).toNat)
  case atStart => exact ⟨0, Nat.zero_le _, rfl, by simp, Below.refl _ _⟩
  case round =>
    obtain ⟨k, hk, rfl, hall, hb⟩ := hrel
    by_cases hkl : k < ps.length
    · have hkz : (k : Int) < (ps.length : Int) := by omega
      obtain ⟨a, ha⟩ : ∃ a, ps[k]? = some a := ⟨_, List.getElem?_eq_getElem hkl⟩
      obtain ⟨g, rfl, hc⟩ := HC.out wr hb k a ha
      have HF := refFind_row (HR.out.below hb) a HS.out
      have HT := Lib.hid (all_take (f := openP ss mi) ha)
      have HZ := Lib.hid (fun h => all_false (f := openP ss mi) ha h)
      have HO := Lib.hid (show openP ss mi a = if (findL ss a).2 then (findL ss a).1.kind == 53 else mi from rfl)
      have HA := Lib.hid hall
      have HB := Lib.hid hb
      clear ha hall hb
      generalize findL ss a = fd at HF HO
      obtain ⟨⟨fp, fk, fdt, fl⟩, fb⟩ := fd
      dsimp only at HF HO
      go_wp2_with fail
      refine HF.mono ?_
      rintro e w4 ⟨y, rfl, hy, hb4⟩
      have hyk := hy.2.1
      have HB4 := Lib.hid (HB.out.trans (hb4.mono HB.out.size))
      obtain ⟨yp, yk, ya, yn, yc, yl⟩ := y
      unfold Nd.cells
      dsimp only at hyk ⊢
      subst hyk
      clear HF hy hb4 hc
      have HB5 := Lib.hid (HB4.out.alloc HB4.out.size (.cells #[.string ⟨yp.toArray⟩, .int .u8 yk, .slice ya yn yc, .string ⟨yl.toArray⟩] 49))
      cases fb with
      | true =>
        by_cases h53 : yk = 53
        · subst h53
          go_wp2_with fail
          go_roundw
          case rel => exact ⟨k + 1, by omega, by go_num, by rw [HT.out, HA.out, HO.out]; rfl, HB5.out⟩
          case measure => simp only [intOf]; omega
        · go_wp2_with fail
          go_ret
          rw [HZ.out (by rw [HO.out]; simpa using h53)]
          exact ⟨rfl, HB5.out⟩
      | false =>
        cases mi with
        | true =>
          go_wp2_with fail
          go_roundw
          case rel => exact ⟨k + 1, by omega, by go_num, by rw [HT.out, HA.out, HO.out]; rfl, HB5.out⟩
          case measure => simp only [intOf]; omega
        | false =>
          go_wp2_with fail
          go_ret
          rw [HZ.out (by rw [HO.out]; rfl)]
          exact ⟨rfl, HB5.out⟩
    · obtain rfl : k = ps.length := by omega
      rw [List.take_of_length_le (Nat.le_refl _)] at hall
      have HA := Lib.hid hall
      clear hall
      go_wp2_with fail
      go_ret
      rw [HA.out]
      exact ⟨rfl, hb⟩

/-- What is in the way. -/
def thereE (ss : List Sn) (p : List UInt8) (o : Opt) : Int := if (isAt ss p 53 || thereAt ss p && !o.replace) = true then 62 else 0

set_option maxRecDepth 100000 in
set_option maxHeartbeats 2000000 in
theorem refThere_row {w : World} {v : Value} {ss : List Sn} (h : RowOf w v ss) (hS : Short ss) (p : List UInt8) (o : Opt) :
    Calls Tryz.prog 63 #[v, .string ⟨p.toArray⟩, .agg (optCells o).toArray] w fun e w' => e = .returned (.int .i64 (thereE ss p o)) ∧ Below w.heap.size w w' := by
  have hb0 : Below w.heap.size w (w.alloc (.cells (optCells o).toArray 40)) := (Below.refl _ _).alloc (Nat.le_refl _) _
  have HF := refFind_row (h.below hb0) p hS
  have HE := Lib.hid (show thereE ss p o = if ((findL ss p).2 && (findL ss p).1.kind == 53 || (findL ss p).2 && !o.replace) = true then 62 else 0 from rfl)
  have hN := heap_alloc_new w (.cells (optCells o).toArray 40)
  generalize hwn : w.alloc (.cells (optCells o).toArray 40) = w1 at hN hb0 HF
  have HN := Lib.hid hN
  have HB0 := Lib.hid hb0
  generalize thereE ss p o = te at HE ⊢
  generalize findL ss p = fd at HF HE
  obtain ⟨⟨fp, fk, fdt, fl⟩, fb⟩ := fd
  dsimp only at HF HE
  clear hN hb0 h hS
  go_enter Tryz.func63, Tryz.ntmps63
  go_wp2_with fail
  refine HF.mono ?_
  rintro e w4 ⟨y, rfl, hy, hb4⟩
  have hyk := hy.2.1
  have h0 : w.heap.size < w1.heap.size := (Array.getElem?_eq_some_iff.1 HN.out).1
  have c2 : w4.cell? ⟨w.heap.size, 2, none⟩ = some (.bool o.replace) := by
    have := row_cells HN.out 2 (.bool o.replace) rfl
    rw [Addr.add_lit, Nat.zero_add] at this
    exact (hb4.cell (p := ⟨w.heap.size, 2, none⟩) h0).trans this
  have HB4 := Lib.hid (HB0.out.trans (hb4.mono HB0.out.size))
  obtain ⟨yp, yk, ya, yn, yc, yl⟩ := y
  unfold Nd.cells
  dsimp only at hyk ⊢
  subst hyk
  have c5 : (w4.alloc (.cells #[.string ⟨yp.toArray⟩, .int .u8 yk, .slice ya yn yc, .string ⟨yl.toArray⟩] 49)).cell? ⟨w.heap.size, 2, none⟩ = some (.bool o.replace) :=
    (((Below.refl w4.heap.size w4).alloc (Nat.le_refl _) _).cell (p := ⟨w.heap.size, 2, none⟩) (by have := hb4.size; show w.heap.size < w4.heap.size; omega)).trans c2
  clear HF hy hb4 hwn c2
  have HB5 := Lib.hid (HB4.out.alloc HB4.out.size (.cells #[.string ⟨yp.toArray⟩, .int .u8 yk, .slice ya yn yc, .string ⟨yl.toArray⟩] 49))
  cases fb with
  | true =>
    by_cases h53 : yk = 53
    · subst h53
      go_wp2_with fail
      go_ret
      rw [HE.out]
      exact ⟨by simp, HB5.out⟩
    · obtain ⟨orr, ol, ore⟩ := o
      dsimp only at c5
      cases ore with
      | true =>
        go_wp2_with fail
        go_ret
        rw [HE.out]
        exact ⟨by simp [h53], HB5.out⟩
      | false =>
        go_wp2_with fail
        go_ret
        rw [HE.out]
        exact ⟨by simp [h53], HB5.out⟩
  | false =>
    go_wp2_with fail
    go_ret
    rw [HE.out]
    exact ⟨by simp, HB5.out⟩

end Go.Proofs.YtlbipmlbkcdmnaaGreat

/-
  The document's answer for pull: a node is laid, with directories ahead of it.
-/
namespace Go.Proofs.YtlbipmlbkcdmnaaGreat
open Go.RowKit Go.Shelf

set_option maxRecDepth 100000 in
set_option maxHeartbeats 4000000 in
theorem refLay_row {w : World} {v : Value} {ss : List Sn} (h : RowOf w v ss) (hs : ss.length ≤ 1000000) (hsp : ∀ s ∈ ss, s.path.length ≤ 1000000) (root : List UInt8) (hr : root.length ≤ 1000000)
    (x : Nd) (s : Sn) (hx : NdAt w x s) (hp : s.path.length ≤ 1000000) :
    Calls Tryz.prog 40 #[v, .string ⟨root.toArray⟩, .agg x.cells.toArray] w fun e w' => ∃ v', e = .returned v' ∧ RowOf w' v' (layL root s ss) ∧ Below w.heap.size w w' := by
  have hal := ahead_short root s.path
  have hLay := Lib.hid (show layL root s ss = putG Sn.path s (goneL s.path ((aheadL root s.path).foldl layDir ss)) from rfl)
  have hxp : x.path = s.path := hx.1
  have hb0 : Below w.heap.size w (w.alloc (.cells #[.string ⟨s.path.toArray⟩, .int .u8 x.kind, .slice x.adr x.len x.cap, .string ⟨x.link.toArray⟩] 49)) := (Below.refl _ _).alloc (Nat.le_refl _) _
  have hN := heap_alloc_new w (.cells #[.string ⟨s.path.toArray⟩, .int .u8 x.kind, .slice x.adr x.len x.cap, .string ⟨x.link.toArray⟩] 49)
  generalize hw1 : w.alloc (.cells #[.string ⟨s.path.toArray⟩, .int .u8 x.kind, .slice x.adr x.len x.cap, .string ⟨x.link.toArray⟩] 49) = w1 at hb0 hN
  have HA := refAhead_any root s.path (by omega) (by omega) w1
  have HX := Lib.hid (hx.below hb0)
  have HR := Lib.hid (h.below hb0)
  have HN := Lib.hid hN
  have HB0 := Lib.hid hb0
  have hN1 : w.heap.size < w1.heap.size := (Array.getElem?_eq_some_iff.1 hN).1
  obtain ⟨cn0, cn1, cn2, cn3⟩ := node_cells hN
  unfold Nd.cells
  rw [hxp]
  have HXP := Lib.hid hxp
  clear hxp h hx hb0 hN
  generalize aheadL root s.path = al at hal HA hLay
  go_enter Tryz.func40, Tryz.ntmps40
  go_wp2_with fail
  refine HA.mono ?_
  rintro e w2 ⟨va, rfl, hrow, hb2⟩
  have HR2 := Lib.hid (HR.out.below hb2)
  obtain ⟨A, c, rfl, hcell⟩ := hrow
  have HS := Lib.hid (show ∀ W, Below w2.heap.size w2 W → ∀ (j : Nat) (a : List UInt8), al[j]? = some a → ∃ g, A = some ⟨g, 0, none⟩ ∧ W.cell? ⟨g, j, none⟩ = some (.string ⟨a.toArray⟩) from fun W hW j a hj => by
    obtain ⟨g, hA, hB, hc⟩ := hcell j a hj
    exact ⟨g, hA, (hW.cell (World.block_lt_of_cell? _ _ hc)).trans hc⟩)
  have HB2 := Lib.hid hb2
  have hw2s := hb2.size
  clear hcell HA hb2 hw1
  go_wp2_with fail
  go_loopw [0, 8, 9, 10, 15, 16, 17, 18, 19, 20, 21, 22, 23, 24, 25, 26, 27, 28, 29, 30, 31, 32, 33, 34, 35, 36, 37, 38] (fun v0 v8 _ _ _ _ _ _ _ _ _ _ _ _ _ _ _ _ _ _ _ _ _ _ _ _ _ _ wr => ∃ k : Nat, k ≤ al.length ∧ v8 = .int .i64 k ∧ RowOf wr v0 ((al.take k).foldl layDir ss) ∧ Below w2.heap.size w2 wr)
    (fun _ v8 _ _ _ _ _ _ _ _ _ _ _ _ _ _ _ _ _ _ _ _ _ _ _ _ _ _ _ => al.length - (intOf v8).toNat)
  case atStart => exact ⟨0, Nat.zero_le _, rfl, HR2.out, Below.refl _ _⟩
  case round =>
    obtain ⟨k, hk, rfl, hRk, hbk⟩ := hrel
    have hsk := layDirs_short (al.take k) ss (m := 1000000) (fun a ha => by have := hal.2 a (List.mem_of_mem_take ha); omega) hsp
    have hft := fun a h => @foldl_take _ _ layDir ss al k a h
    rw [List.length_take] at hsk
    have hkl := hal.1
    by_cases hkz : k < al.length
    · have hkz' : (k : Int) < (al.length : Int) := by omega
      obtain ⟨a, ha⟩ : ∃ a, al[k]? = some a := ⟨_, List.getElem?_eq_getElem hkz⟩
      obtain ⟨g, rfl, ca⟩ := HS.out wr hbk k a ha
      have hft := hft a ha
      generalize (al.take k).foldl layDir ss = sk at hsk hRk hft
      have hSk : Short sk := ⟨by omega, fun s hs => by have := hsk.2 s hs; omega⟩
      have HI := refFind_row hRk a hSk
      have HRk := Lib.hid hRk
      have HBk := Lib.hid hbk
      have HFT := Lib.hid (show (al.take (k + 1)).foldl layDir ss = if (findL sk a).2 then sk else putG Sn.path ⟨a, 53, [], []⟩ sk from hft)
      have HCA := Lib.hid (show ∀ W, Below wr.heap.size wr W → W.cell? ⟨g, k, none⟩ = some (.string ⟨a.toArray⟩) from fun W hW => (hW.cell (World.block_lt_of_cell? _ _ ca)).trans ca)
      clear hRk hbk hft ha
      generalize findL sk a = fd at HI HFT
      obtain ⟨fs, fb⟩ := fd
      dsimp only at HI HFT
      cases fb with
      | true =>
        go_wp2_with fail
        refine HI.mono ?_
        rintro e w3 ⟨y, rfl, hy, hb3⟩
        clear HI hy
        unfold Nd.cells
        have HR3 := Lib.hid (HRk.out.below (hb3.alloc hb3.size (.cells #[.string ⟨y.path.toArray⟩, .int .u8 y.kind, .slice y.adr y.len y.cap, .string ⟨y.link.toArray⟩] 49)))
        have HB3 := Lib.hid (HBk.out.trans ((hb3.alloc hb3.size (.cells #[.string ⟨y.path.toArray⟩, .int .u8 y.kind, .slice y.adr y.len y.cap, .string ⟨y.link.toArray⟩] 49)).mono HBk.out.size))
        clear hb3
        go_wp2_with fail
        go_roundw
        case rel => exact ⟨k + 1, by omega, by go_num, by rw [HFT.out]; simpa using HR3.out, HB3.out⟩
        case measure => simp only [intOf]; omega
      | false =>
        go_wp2_with fail
        refine HI.mono ?_
        rintro e w3 ⟨y, rfl, hy, hb3⟩
        clear HI hy
        unfold Nd.cells
        have hb4 := hb3.alloc hb3.size (.cells #[.string ⟨y.path.toArray⟩, .int .u8 y.kind, .slice y.adr y.len y.cap, .string ⟨y.link.toArray⟩] 49)
        have HPT := refPut_row (HRk.out.below hb4) ⟨a, 53, none, 0, 0, []⟩ ⟨a, 53, [], []⟩ ⟨rfl, rfl, rfl, ⟨rfl, fun j hj => absurd hj (Nat.not_lt_zero _)⟩, Nat.le_refl _, Nat.zero_le _⟩ hSk
        have c4 := HCA.out _ hb4
        have HB4 := Lib.hid (HBk.out.trans (hb4.mono HBk.out.size))
        unfold Nd.cells at HPT
        dsimp only at HPT
        clear hb3 hb4 ca
        go_wp2_with fail
        refine HPT.mono ?_
        rintro e w5 ⟨v5, rfl, hR5, hb5⟩
        have HR5 := Lib.hid hR5
        have HB5 := Lib.hid (HB4.out.trans (hb5.mono HB4.out.size))
        clear HPT hR5 hb5
        go_wp2_with fail
        go_roundw
        case rel => exact ⟨k + 1, by omega, by go_num, by rw [HFT.out]; simpa using HR5.out, HB5.out⟩
        case measure => simp only [intOf]; omega
    · obtain rfl : k = al.length := by omega
      rw [List.take_length] at hsk hRk
      clear hft
      have HNW := Lib.hid (show ∀ W, Below wr.heap.size wr W → W.heap[w.heap.size]? = some (.cells #[.string ⟨s.path.toArray⟩, .int .u8 x.kind, .slice x.adr x.len x.cap, .string ⟨x.link.toArray⟩] 49 (0, 0)) from fun W hW =>
        (hW.block _ (by have := hbk.size; omega)).trans ((hbk.block _ (by omega)).trans ((HB2.out.block _ hN1).trans HN.out)))
      generalize al.foldl layDir ss = sk at hsk hRk hLay
      have hSk : Short sk := ⟨by omega, fun s hs => by have := hsk.2 s hs; omega⟩
      have HRk := Lib.hid hRk
      have HBW := Lib.hid (HB0.out.trans ((HB2.out.trans (hbk.mono HB2.out.size)).mono HB0.out.size))
      have HXK := Lib.hid ((HX.out.below HB2.out).below hbk)
      clear hRk hbk cn0 cn1 cn2 cn3
      go_upto_region 8 with fail
      refine wp_region_ordV [0, 1, 2, 4, 3, 5, 6] [3, 5] (by kernel_rfl) (by kernel_rfl) (by kernel_rfl) (fun d _ _ _ _ h => by cases d <;> exact h) (by kernel_rfl) ?_
      intro WG hWG hBG
      have u0 := fun W (hW : Below WG.heap.size WG W) => (node_cells (HNW.out W (hBG.trans (hW.mono hBG.size)))).1
      have u1 := fun W (hW : Below WG.heap.size WG W) => (node_cells (HNW.out W (hBG.trans (hW.mono hBG.size)))).2.1
      have u2 := fun W (hW : Below WG.heap.size WG W) => (node_cells (HNW.out W (hBG.trans (hW.mono hBG.size)))).2.2.1
      have u3 := fun W (hW : Below WG.heap.size WG W) => (node_cells (HNW.out W (hBG.trans (hW.mono hBG.size)))).2.2.2
      have HRG := Lib.hid (HRk.out.below hBG)
      have HXG := Lib.hid (HXK.out.below hBG)
      have HBG := Lib.hid (HBW.out.trans (hBG.mono HBW.out.size))
      clear hBG hWG
      repeat (first | (refine wpOrd_take (v := ?_) rfl rfl rfl (fun W hW => ?_) ?_; rotate_left; (focus (go_simp; with_reducible rfl)); simp only [Act.put, List.setIfInBounds_toArray, List.set_cons_succ, List.set_cons_zero]) | (refine wpOrd_skip rfl rfl ?_; simp only [Act.put, List.setIfInBounds_toArray, List.set_cons_succ, List.set_cons_zero]))
      refine wpOrd_call rfl rfl rfl ?_
      go_simp
      refine (refRemove_row HRG.out s.path (by omega) hSk).mono ?_
      rintro e w3 ⟨v3, rfl, hR3, hb3⟩
      refine ⟨hb3, ?_⟩
      have HP2 := refPut_row hR3 x s (HXG.out.below hb3) (hSk.gone s.path)
      unfold Nd.cells at HP2
      rw [HXP.out] at HP2
      have w0' := fun W (hW : Below w3.heap.size w3 W) => u0 W (hb3.trans (hW.mono hb3.size))
      have w1' := fun W (hW : Below w3.heap.size w3 W) => u1 W (hb3.trans (hW.mono hb3.size))
      have w2' := fun W (hW : Below w3.heap.size w3 W) => u2 W (hb3.trans (hW.mono hb3.size))
      have w3' := fun W (hW : Below w3.heap.size w3 W) => u3 W (hb3.trans (hW.mono hb3.size))
      clear u0 u1 u2 u3
      repeat (first | (refine wpOrd_take (v := ?_) rfl rfl rfl (fun W hW => ?_) ?_; rotate_left; (focus (go_simp; with_reducible rfl)); simp only [Act.put, List.setIfInBounds_toArray, List.set_cons_succ, List.set_cons_zero]) | (refine wpOrd_skip rfl rfl ?_; simp only [Act.put, List.setIfInBounds_toArray, List.set_cons_succ, List.set_cons_zero]))
      refine wpOrd_call rfl rfl rfl ?_
      go_simp
      refine HP2.mono ?_
      rintro e w4 ⟨v4, rfl, hR4, hb4⟩
      refine ⟨hb4, ?_⟩
      repeat (first | (refine wpOrd_take (v := ?_) rfl rfl rfl (fun W hW => ?_) ?_; rotate_left; (focus (go_simp; with_reducible rfl)); simp only [Act.put, List.setIfInBounds_toArray, List.set_cons_succ, List.set_cons_zero]) | (refine wpOrd_skip rfl rfl ?_; simp only [Act.put, List.setIfInBounds_toArray, List.set_cons_succ, List.set_cons_zero]))
      refine wpOrd_nil ?_
      have HR4 := Lib.hid hR4
      have HB4 := Lib.hid (HBG.out.trans ((hb3.trans (hb4.mono hb3.size)).mono HBG.out.size))
      clear hR4 hb3 hb4 HP2 w0' w1' w2' w3' hR3
      go_wp2_with fail
      go_ret
      exact ⟨_, rfl, by rw [hLay.out]; exact HR4.out, HB4.out⟩

end Go.Proofs.YtlbipmlbkcdmnaaGreat

/-
  The document's answer for pull, in plain words: what a member is, and why it is not laid.
-/
namespace Go.Proofs.YtlbipmlbkcdmnaaGreat
open Go.RowKit Go.Shelf

def fileC (m : Mem) : Int := if m.holes = true then if m.real < 3 then 11 else 0 else 0
def fileD (m : Mem) : List Int := if m.holes = true then expandL m else m.data

/-- A hard link's way. -/
def hardO (o : Opt) (ss : List Sn) (m : Mem) (p : List UInt8) : Bool :=
  (whereV o.root m.link).2 && (whereV o.root m.link).1 != p && isAt ss (whereV o.root m.link).1 48 && (aheadL o.root (whereV o.root m.link).1).all (isAt ss · 53)

def nodeV (o : Opt) (ss : List Sn) (m : Mem) (p : List UInt8) : Sn :=
  if m.kind = 48 then ⟨p, 48, fileD m, []⟩ else if m.kind = 50 then ⟨p, 50, [], m.link⟩ else ⟨p, 48, (findL ss (whereV o.root m.link).1).1.data, []⟩
def nodeB (o : Opt) (ss : List Sn) (m : Mem) (p : List UInt8) : Int :=
  if m.kind = 48 then fileC m else if m.kind = 50 then (if (targetV o.root p m.link).2 = true then 0 else 64) else (if hardO o ss m p = true then 0 else 64)
def nodeC (o : Opt) (ss : List Sn) (m : Mem) (p : List UInt8) : Int := if nodeB o ss m p = 0 then thereE ss p o else nodeB o ss m p

theorem nodeV_path (o : Opt) (ss : List Sn) (m : Mem) (p : List UInt8) : (nodeV o ss m p).path = p := by
  unfold nodeV
  split
  · rfl
  · split <;> rfl

theorem putE_there (o : Opt) (ss : List Sn) (s : Sn) : putE o ss s = if thereE ss s.path o = 0 then (layL o.root s ss, 0) else (ss, thereE ss s.path o) := by
  unfold putE thereE
  split
  · rw [if_neg (by decide)]
  · rw [if_pos rfl]

theorem kind_node (o : Opt) (ss : List Sn) (m : Mem) (p : List UInt8) (hk : m.kind = 48 ∨ (m.kind = 50 ∨ m.kind = 49) ∧ o.links = true) :
    kindE o ss m p = if nodeC o ss m p = 0 then (layL o.root (nodeV o ss m p) ss, 0) else (ss, nodeC o ss m p) := by
  unfold kindE nodeC nodeB nodeV
  rcases hk with hk | ⟨hk | hk, hl⟩
  · simp only [hk, if_pos, show ¬ ((48 : Int) = 53) by decide, if_false]
    unfold fileE fileC fileD
    cases m.holes with
    | true =>
      simp only [if_true]
      by_cases h3 : m.real < 3
      · simp [h3]
      · simp only [h3, if_false, if_true, putE_there]
    | false => simp [putE_there]
  · simp only [hk, show ¬ ((50 : Int) = 53) by decide, show ¬ ((50 : Int) = 48) by decide, if_false, if_true]
    unfold softE
    rw [if_pos hl]
    cases (targetV o.root p m.link).2 with
    | true => simp [putE_there]
    | false => simp
  · simp only [hk, show ¬ ((49 : Int) = 53) by decide, show ¬ ((49 : Int) = 48) by decide, show ¬ ((49 : Int) = 50) by decide, if_false, if_true]
    unfold hardE
    rw [if_pos hl]
    show (if hardO o ss m p = true then _ else _) = _
    cases hardO o ss m p with
    | true => simp [putE_there]
    | false => simp

theorem there_range (ss : List Sn) (p : List UInt8) (o : Opt) : thereE ss p o = 0 ∨ thereE ss p o = 62 := by
  unfold thereE
  split
  · exact .inr rfl
  · exact .inl rfl

theorem open_true (ss : List Sn) : openP ss true = fun a => !thereAt ss a || isAt ss a 53 := by
  funext a
  unfold openP thereAt isAt
  cases (findL ss a).2 <;> simp
theorem open_false (ss : List Sn) : openP ss false = fun a => isAt ss a 53 := by
  funext a
  unfold openP isAt
  cases (findL ss a).2 <;> simp

def Code (c : Int) : Prop := 0 ≤ c ∧ c ≤ 65

theorem Code.ite {p : Prop} [Decidable p] {a b : List Sn × Int} (ha : Code a.2) (hb : Code b.2) : Code (if p then a else b).2 := by
  split
  · exact ha
  · exact hb

theorem one_code (o : Opt) (ss : List Sn) (m : Mem) : Code (oneV o ss m).2 := by
  unfold oneV kindE dirE fileE softE hardE putE
  repeat' apply Code.ite
  all_goals exact ⟨by simp, by simp⟩

end Go.Proofs.YtlbipmlbkcdmnaaGreat
