/-
  Where a member's path is, and where a link leads: both words.
-/
import Derived.Test.YtlbipmlbkcdmnaaMerI
namespace Go.Proofs.Ytlbipmlbkcdmnaa
open Go.RowKit Go.Shelf

def whereV (root name : List UInt8) : List UInt8 × Bool :=
  if (cleanV name).2 = false ∨ (cleanV name).1 = [] then ([], false) else (joinL root (cleanV name).1, true)

theorem clean_len (s : List UInt8) : (cleanV s).1.length ≤ s.length + 1 := by
  unfold cleanV
  split
  · simp
  · split
    · simp
    · exact joined_len s

set_option maxRecDepth 100000 in
set_option maxHeartbeats 1000000 in
theorem where_any (root name : List UInt8) (hr : root.length ≤ 100000000000) (hn : name.length ≤ 100000000000) (w : World) : Calls Try.prog 43 #[.string ⟨root.toArray⟩, .string ⟨name.toArray⟩] w fun e w' =>
    e = .returned (.tuple #[.string ⟨(whereV root name).1.toArray⟩, .bool (whereV root name).2]) ∧ Below w.heap.size w w' := by
  have HC := fun w => clean_any name (by omega) w
  have hcl := clean_len name
  have HJ := fun w => join_any root (cleanV name).1 (by omega) (by omega) w
  have HW := Lib.hid (show whereV root name = if (cleanV name).2 = false ∨ (cleanV name).1 = [] then ([], false) else (joinL root (cleanV name).1, true) from rfl)
  generalize cleanV name = cl at HC HJ HW
  generalize whereV root name = wv at HW ⊢
  obtain ⟨c, ok⟩ := cl
  dsimp only at HC HJ HW
  go_enter Try.func43, Try.ntmps43
  go_wp2_with fail
  refine (HC _).mono ?_
  rintro e w1 ⟨rfl, hb1⟩
  cases ok with
  | false =>
    go_wp2_with fail
    go_ret2
    rw [HW.out]
    exact ⟨rfl, hb1⟩
  | true =>
    by_cases hc : c = []
    · subst hc
      go_wp2_with fail
      go_ret2
      rw [HW.out]
      exact ⟨rfl, hb1⟩
    · have he := emp hc
      have hcb : (c == []) = false := by simpa using hc
      have HW2 := Lib.hid (show wv = (joinL root c, true) by rw [HW.out, if_neg (by simp [hc])])
      go_wp2_with (go_at_call 16; refine (HJ _).mono ?_; rintro e w2 ⟨rfl, rfl⟩)
      go_ret2
      rw [HW2.out]
      exact ⟨rfl, hb1⟩

set_option maxRecDepth 100000 in
set_option maxHeartbeats 1000000 in
theorem refWhere_any (root name : List UInt8) (hr : root.length ≤ 100000000000) (hn : name.length ≤ 100000000000) (w : World) : Calls Try.prog 64 #[.string ⟨root.toArray⟩, .string ⟨name.toArray⟩] w fun e w' =>
    e = .returned (.tuple #[.string ⟨(whereV root name).1.toArray⟩, .bool (whereV root name).2]) ∧ Below w.heap.size w w' := by
  have HC := fun w => refClean_any name (by omega) w
  have hcl := clean_len name
  have HJ := fun w => refJoin_any root (cleanV name).1 (by omega) (by omega) w
  have HW := Lib.hid (show whereV root name = if (cleanV name).2 = false ∨ (cleanV name).1 = [] then ([], false) else (joinL root (cleanV name).1, true) from rfl)
  generalize cleanV name = cl at HC HJ HW
  generalize whereV root name = wv at HW ⊢
  obtain ⟨c, ok⟩ := cl
  dsimp only at HC HJ HW
  go_enter Try.func64, Try.ntmps64
  go_wp2_with fail
  refine (HC _).mono ?_
  rintro e w1 ⟨rfl, hb1⟩
  cases ok with
  | false =>
    go_wp2_with fail
    go_ret2
    rw [HW.out]
    exact ⟨rfl, hb1⟩
  | true =>
    by_cases hc : c = []
    · subst hc
      go_wp2_with fail
      go_ret2
      rw [HW.out]
      exact ⟨rfl, hb1⟩
    · have he := emp hc
      have hcb : (c == []) = false := by simpa using hc
      have HW2 := Lib.hid (show wv = (joinL root c, true) by rw [HW.out, if_neg (by simp [hc])])
      go_wp2_with (go_at_call 22; refine (HJ _).mono ?_; rintro e w2 ⟨rfl, rfl⟩)
      go_ret2
      rw [HW2.out]
      exact ⟨rfl, hb1⟩

/-- pull.below. -/
def belowP (root path : List UInt8) : Bool := root.isEmpty && !path.isEmpty || Lib.hasPrefix path (root ++ [47])

set_option maxRecDepth 100000 in
set_option maxHeartbeats 1000000 in
theorem belowP_any (root path : List UInt8) (hr : root.length ≤ 1000000000000) (w : World) : Calls Try.prog 77 #[.string ⟨root.toArray⟩, .string ⟨path.toArray⟩] w fun e w' => e = .returned (.bool (belowP root path)) ∧ w' = w := by
  have HB := Lib.hid (show belowP root path = (root.isEmpty && !path.isEmpty || Lib.hasPrefix path (root ++ [47])) from rfl)
  by_cases h1 : root = []
  · subst h1
    by_cases h2 : path = []
    · subst h2
      go_enter Try.func77, Try.ntmps77
      go_wp2_with fail
      refine (Try.strings_HasPrefix _ _ _).mono ?_
      rintro e w2 ⟨rfl, rfl⟩
      go_wp2_with fail
      go_ret
      exact ⟨by rw [HB.out]; rfl, rfl⟩
    · have e2 := emp h2
      have e2b : (path == []) = false := by simpa using h2
      go_enter Try.func77, Try.ntmps77
      go_wp2_with fail
      go_ret
      exact ⟨by rw [HB.out, e2]; rfl, rfl⟩
  · have e1 := emp h1
    have e1b : (root == []) = false := by simpa using h1
    go_enter Try.func77, Try.ntmps77
    go_wp2_with fail
    refine (Try.strings_HasPrefix _ _ _).mono ?_
    rintro e w2 ⟨rfl, rfl⟩
    go_wp2_with fail
    go_ret
    refine ⟨?_, rfl⟩
    rw [HB.out, e1]
    rfl

def insideL (root path : List UInt8) : Bool := path == root || underL path root

theorem inside_belowP (root path : List UInt8) : (path == root || belowP root path) = insideL root path := by
  unfold insideL belowP
  rw [← below_under]
  unfold belowL
  cases root with
  | nil =>
    cases path with
    | nil => rfl
    | cons b r => simp
  | cons a r => simp

set_option maxHeartbeats 1000000 in
theorem inside_any (root path : List UInt8) (hr : root.length ≤ 4000000000000) (w : World) : Calls Try.prog 65 #[.string ⟨root.toArray⟩, .string ⟨path.toArray⟩] w fun e w' => e = .returned (.bool (insideL root path)) ∧ w' = w := by
  have HU := fun w => under_any path root hr w
  have HB := Lib.hid (show insideL root path = (path == root || underL path root) from rfl)
  generalize insideL root path = ip at HB ⊢
  generalize underL path root = up at HU HB
  by_cases h : path = root
  · subst h
    have hb : (path == path) = true := by simp
    go_enter Try.func65, Try.ntmps65
    go_wp2_with fail
    go_ret
    exact ⟨by rw [HB.out]; simp, rfl⟩
  · have hb : (path == root) = false := by simpa using h
    go_enter Try.func65, Try.ntmps65
    go_wp2_with (go_at_call 18; refine (HU _).mono ?_; rintro e w2 ⟨rfl, rfl⟩)
    go_ret
    exact ⟨by rw [HB.out, hb]; rfl, rfl⟩

def targetW (root : List UInt8) : List UInt8 → List (List UInt8) → List UInt8 × Bool
  | at', [] => (at', true)
  | at', x :: r =>
    if x = [46, 46] then
      if at' = root then ([], false) else if insideL root (upL at') then targetW root (upL at') r else ([], false)
    else if insideL root (joinL at' x) then targetW root (joinL at' x) r else ([], false)

def targetV (root path link : List UInt8) : List UInt8 × Bool :=
  if link = [] ∨ Lib.hasPrefix link [47] = true ∨ insideL root (upL path) = false then ([], false) else targetW root (upL path) (namesL link)

theorem joinL_len (a b : List UInt8) : (joinL a b).length ≤ a.length + b.length + 1 := by
  unfold joinL
  split
  · omega
  · split
    · omega
    · simp; omega
theorem upL_len (a : List UInt8) : (upL a).length ≤ a.length := by unfold upL; simp; omega

end Go.Proofs.Ytlbipmlbkcdmnaa

/-
  Where a link leads: the document's words.
-/
namespace Go.Proofs.Ytlbipmlbkcdmnaa
open Go.RowKit Go.Shelf

theorem tot_drop {xs : List (List UInt8)} {k : Nat} {x : List UInt8} (h : xs[k]? = some x) : tot (xs.drop k) = x.length + 1 + tot (xs.drop (k + 1)) := by
  have hk := (List.getElem?_eq_some_iff.1 h).1
  rw [List.drop_eq_getElem_cons hk]
  rw [List.getElem?_eq_getElem hk] at h
  injection h with h
  rw [h]
  rfl

theorem targetW_drop (root at' : List UInt8) {xs : List (List UInt8)} {k : Nat} {x : List UInt8} (h : xs[k]? = some x) : targetW root at' (xs.drop k) =
    if x = [46, 46] then (if at' = root then ([], false) else if insideL root (upL at') then targetW root (upL at') (xs.drop (k + 1)) else ([], false))
    else if insideL root (joinL at' x) then targetW root (joinL at' x) (xs.drop (k + 1)) else ([], false) := by
  have hk := (List.getElem?_eq_some_iff.1 h).1
  rw [List.drop_eq_getElem_cons hk]
  rw [List.getElem?_eq_getElem hk] at h
  injection h with h
  rw [h]
  rfl

set_option maxRecDepth 100000 in
set_option maxHeartbeats 2000000 in
theorem refTarget_any (root path link : List UInt8) (hr : root.length ≤ 10000000000) (hp : path.length ≤ 10000000000) (hl : link.length ≤ 10000000000) (w : World) : Calls Try.prog 42 #[.string ⟨root.toArray⟩, .string ⟨path.toArray⟩, .string ⟨link.toArray⟩] w fun e w' =>
    e = .returned (.tuple #[.string ⟨(targetV root path link).1.toArray⟩, .bool (targetV root path link).2]) ∧ Below w.heap.size w w' := by
  cases link with
  | nil =>
    have HV := Lib.hid (show targetV root path [] = ([], false) from by unfold targetV; simp)
    generalize targetV root path [] = tv at HV ⊢
    go_enter Try.func42, Try.ntmps42
    go_wp2_with fail
    go_ret2
    rw [HV.out]
    exact ⟨rfl, Below.refl _ _⟩
  | cons b r =>
    have h0 : 0 < (b :: r).length := by simp
    by_cases hb47 : b = 47
    · have HV := Lib.hid (show targetV root path (b :: r) = ([], false) from by unfold targetV; rw [if_pos (.inr (.inl (by rw [hb47]; simp [Lib.hasPrefix])))])
      subst hb47
      have hx0 : (ByteArray.mk ((47 : UInt8) :: r).toArray)[0]'(Nat.succ_pos _) = 47 := rfl
      generalize targetV root path (47 :: r) = tv at HV ⊢
      go_enter Try.func42, Try.ntmps42
      go_wp2_with fail
      go_ret2
      rw [HV.out]
      exact ⟨rfl, Below.refl _ _⟩
    · have HV := Lib.hid (show targetV root path (b :: r) = if insideL root (upL path) = false then ([], false) else targetW root (upL path) (namesL (b :: r)) from by
        unfold targetV
        have h1 : ¬ (Lib.hasPrefix (b :: r) [47] = true) := by
          simp [Lib.hasPrefix]
          exact fun e => hb47 e.symm
        have this : Lib.hasPrefix (b :: r) [47] = false := by
          cases hq : Lib.hasPrefix (b :: r) [47] with
          | false => rfl
          | true => exact absurd hq h1
        simp [this])
      have hbn : ((b.toNat : Int) == 47) = false := by
        simp only [beq_eq_false_iff_ne, ne_eq]
        intro e
        exact hb47 (UInt8.toNat_inj.1 (by show b.toNat = 47; omega))
      obtain ⟨sv, hsv⟩ : ∃ sv, sv = b :: r := ⟨_, rfl⟩
      have hpos : 0 < sv.length := by rw [hsv]; exact h0
      have hbn' : ((((ByteArray.mk sv.toArray)[0]'hpos).toNat : Int) == 47) = false := by subst hsv; exact hbn
      have hse : sv.isEmpty = false := by rw [hsv]; rfl
      have hseb : (sv == []) = false := by rw [hsv]; rfl
      have hne : ¬ sv = [] := by rw [hsv]; simp
      rw [← hsv] at HV hl ⊢
      clear hsv hbn hb47 h0
      have HSP := fun w => refSplit_any sv (by omega) w
      have HU := fun w => refUp_any path (by omega) w
      have hul := upL_len path
      have hnl := names_length sv
      have htot : tot (namesL sv) ≤ sv.length + 1 := by rw [← tot_split]; exact tot_filter _ _
      generalize targetV root path sv = tv at HV ⊢
      generalize namesL sv = xs at HSP HV hnl htot
      generalize upL path = at0 at HU HV hul
      have HI := fun w => inside_any root at0 (by omega) w
      go_enter Try.func42, Try.ntmps42
      go_wp2_with fail
      refine (HU _).mono ?_
      rintro e w1 ⟨rfl, hb1⟩
      go_wp2_with fail
      refine (HSP _).mono ?_
      rintro e w2 ⟨v, rfl, ho, hb2⟩
      obtain ⟨A1, c1, rfl⟩ := own_form ho
      have hcell : ∀ W, Below w2.heap.size w2 W → ∀ (j : Nat) (x : List UInt8), xs[j]? = some x → ∃ g, A1 = some ⟨g, 0, none⟩ ∧ W.cell? ⟨g, j, none⟩ = some (.string ⟨x.toArray⟩) := fun W hW j x hx => by
        rcases ho.2 with ⟨_, h0⟩ | ⟨g, cap, cur, hv, _⟩
        · have := (List.getElem?_eq_some_iff.1 hx).1
          omega
        · injection hv with hv1 _ _
          subst hv1
          have h1 := (own_below ho hW).cells (g := g) rfl j (encS x) (by simp [hx])
          rw [Addr.add_lit, Nat.zero_add] at h1
          exact ⟨g, rfl, h1⟩
      have HB2 := Lib.hid (hb1.trans (hb2.mono hb1.size))
      have hxn : xs.length ≤ 20000000000 := by omega
      generalize hnx : xs.length = n at ho hxn ⊢
      have HNX := Lib.hid hnx
      clear ho hb1 hb2 hnx hnl HSP HU
      cases hi : insideL root at0 with
      | false =>
        rw [hi] at HI HV
        have HV2 := Lib.hid (show tv = ([], false) by rw [HV.out]; rfl)
        clear HV hi
        go_wp2_with (go_at_call 65; refine (HI _).mono ?_; rintro e w3 ⟨rfl, rfl⟩)
        go_ret2
        rw [HV2.out]
        exact ⟨rfl, HB2.out⟩
      | true =>
        rw [hi] at HI HV
        have HV2 := Lib.hid (show tv = targetW root at0 (xs.drop 0) by rw [HV.out]; rfl)
        clear HV hi
        have hbnd : at0.length + tot (xs.drop 0) ≤ 30000000000 := by rw [List.drop_zero]; omega
        clear htot
        go_wp2_with (go_at_call 65; refine (HI _).mono ?_; rintro e w3 ⟨rfl, rfl⟩)
        clear HI
        go_loopw [8, 10, 26, 27, 28, 29, 30, 31, 32, 33, 34, 35, 36, 37, 38, 39, 40, 41, 42, 43, 44, 45, 46, 47, 48, 49, 50, 51] (fun v8 v10 _ _ _ _ _ _ _ _ _ _ _ _ _ _ _ _ _ _ _ _ _ _ _ _ _ _ wr => ∃ (k : Nat) (at' : List UInt8), k ≤ n ∧ v10 = .int .i64 k ∧ v8 = .string ⟨at'.toArray⟩ ∧ tv = targetW root at' (xs.drop k) ∧ at'.length + tot (xs.drop k) ≤ 30000000000 ∧ Below w3.heap.size w3 wr) (fun _ v10 _ _ _ _ _ _ _ _ _ _ _ _ _ _ _ _ _ _ _ _ _ _ _ _ _ _ _ => n - (intOf v10).toNat)
        case atStart => exact ⟨0, at0, Nat.zero_le _, rfl, rfl, HV2.out, hbnd, Below.refl _ _⟩
        case round =>
          obtain ⟨k, at', hk, rfl, rfl, htv, hat, hbr⟩ := hrel
          clear HV2 hbnd
          by_cases hlt : k < n
          · have hkz : (k : Int) < (n : Int) := by omega
            obtain ⟨x, hx⟩ : ∃ x, xs[k]? = some x := ⟨_, List.getElem?_eq_getElem (by have := HNX.out; omega)⟩
            obtain ⟨g, rfl, hc⟩ := hcell wr hbr k x hx
            rw [targetW_drop root at' hx] at htv
            rw [tot_drop hx] at hat
            clear hcell hx
            by_cases hdd : x = [46, 46]
            · rw [if_pos hdd] at htv
              subst hdd
              by_cases har : at' = root
              · rw [if_pos har] at htv
                have HTV := Lib.hid htv
                subst har
                have harb : (at' == at') = true := by simp
                clear htv
                go_wp2_with fail
                go_ret2
                rw [HTV.out]
                exact ⟨rfl, HB2.out.trans (hbr.mono HB2.out.size)⟩
              · rw [if_neg har] at htv
                have harb : (at' == root) = false := by simpa using har
                have HU2 := fun w => refUp_any at' (by omega) w
                have HI2 := fun w => inside_any root (upL at') (by omega) w
                have hul2 := upL_len at'
                generalize upL at' = au at HU2 HI2 htv hul2
                cases hi2 : insideL root au with
                | true =>
                  rw [hi2] at HI2 htv
                  have HTV := Lib.hid (show tv = targetW root au (xs.drop (k + 1)) by rw [htv]; rfl)
                  clear htv hi2
                  go_wp2_with (first | (go_at_call 21; refine (HU2 _).mono ?_; rintro e w4 ⟨rfl, hb4⟩) | (go_at_call 65; refine (HI2 _).mono ?_; rintro e w5 ⟨rfl, rfl⟩))
                  go_roundw
                  case rel => exact ⟨k + 1, au, by omega, by go_num, rfl, HTV.out, by simp at hat; omega, hbr.trans (hb4.mono hbr.size)⟩
                  case measure => simp [intOf]; omega
                | false =>
                  rw [hi2] at HI2 htv
                  have HTV := Lib.hid (show tv = ([], false) by rw [htv]; rfl)
                  clear htv hi2
                  go_wp2_with (first | (go_at_call 21; refine (HU2 _).mono ?_; rintro e w4 ⟨rfl, hb4⟩) | (go_at_call 65; refine (HI2 _).mono ?_; rintro e w5 ⟨rfl, rfl⟩))
                  go_ret2
                  rw [HTV.out]
                  exact ⟨rfl, HB2.out.trans ((hbr.trans (hb4.mono hbr.size)).mono HB2.out.size)⟩
            · rw [if_neg hdd] at htv
              have hdb : (x == [46, 46]) = false := by simpa using hdd
              have HJ2 := fun w => refJoin_any at' x (by omega) (by omega) w
              have HI2 := fun w => inside_any root (joinL at' x) (by omega) w
              have hjl := joinL_len at' x
              generalize joinL at' x = aj at HJ2 HI2 htv hjl
              cases hi2 : insideL root aj with
              | true =>
                rw [hi2] at HI2 htv
                have HTV := Lib.hid (show tv = targetW root aj (xs.drop (k + 1)) by rw [htv]; rfl)
                clear htv hi2
                go_wp2_with (first | (go_at_call 22; refine (HJ2 _).mono ?_; rintro e w4 ⟨rfl, rfl⟩) | (go_at_call 65; refine (HI2 _).mono ?_; rintro e w5 ⟨rfl, rfl⟩))
                go_roundw
                case rel => exact ⟨k + 1, aj, by omega, by go_num, rfl, HTV.out, by omega, hbr⟩
                case measure => simp [intOf]; omega
              | false =>
                rw [hi2] at HI2 htv
                have HTV := Lib.hid (show tv = ([], false) by rw [htv]; rfl)
                clear htv hi2
                go_wp2_with (first | (go_at_call 22; refine (HJ2 _).mono ?_; rintro e w4 ⟨rfl, rfl⟩) | (go_at_call 65; refine (HI2 _).mono ?_; rintro e w5 ⟨rfl, rfl⟩))
                go_ret2
                rw [HTV.out]
                exact ⟨rfl, HB2.out.trans (hbr.mono HB2.out.size)⟩
          · obtain rfl : k = n := by omega
            have HTV := Lib.hid (show tv = (at', true) by rw [htv, List.drop_eq_nil_of_le (by have := HNX.out; omega)]; rfl)
            clear htv hcell
            go_wp2_with fail
            go_ret2
            rw [HTV.out]
            exact ⟨rfl, HB2.out.trans (hbr.mono HB2.out.size)⟩

end Go.Proofs.Ytlbipmlbkcdmnaa

/-
  Where a link leads: Target.
-/
namespace Go.Proofs.Ytlbipmlbkcdmnaa
open Go.RowKit Go.Shelf

set_option maxRecDepth 100000 in
set_option maxHeartbeats 1000000 in
theorem out_any (root at' : List UInt8) (hr : root.length ≤ 1000000000000) (ga gr : Nat) (W : World) (h1 : W.cell? ⟨ga, 0, none⟩ = some (.string ⟨at'.toArray⟩)) (h2 : W.cell? ⟨gr, 0, none⟩ = some (.string ⟨root.toArray⟩)) :
    Calls Try.prog 76 #[.pointer (some ⟨ga, 0, none⟩), .pointer (some ⟨gr, 0, none⟩)] W fun e w' => e = .returned (.bool (!insideL root at')) ∧ w' = W := by
  have HB := fun w => belowP_any root at' hr w
  have HI := Lib.hid (inside_belowP root at')
  generalize belowP root at' = bp at HB HI
  by_cases h : at' = root
  · subst h
    have hb : (at' == at') = true := by simp
    have hb2 : (at' != at') = false := by simp
    go_enter Try.func76, Try.ntmps76
    go_wp2_with fail
    go_ret
    exact ⟨by rw [← HI.out]; simp, rfl⟩
  · have hb : (at' == root) = false := by simpa using h
    have hb2 : (at' != root) = true := by simpa using h
    go_enter Try.func76, Try.ntmps76
    go_wp2_with (go_at_call 77; refine (HB _).mono ?_; rintro e w2 ⟨rfl, rfl⟩)
    go_ret
    exact ⟨by rw [← HI.out, hb]; simp, rfl⟩

set_option maxRecDepth 100000 in
set_option maxHeartbeats 2000000 in
theorem target_any (root path link : List UInt8) (hr : root.length ≤ 10000000000) (hp : path.length ≤ 10000000000) (hl : link.length ≤ 10000000000) (w : World) : Calls Try.prog 63 #[.string ⟨root.toArray⟩, .string ⟨path.toArray⟩, .string ⟨link.toArray⟩] w fun e w' =>
    e = .returned (.tuple #[.string ⟨(targetV root path link).1.toArray⟩, .bool (targetV root path link).2]) ∧ Below w.heap.size w w' := by
  have HU := fun w => up_any path (by omega) w
  have hul := upL_len path
  have HV := Lib.hid (show targetV root path link = if link = [] ∨ Lib.hasPrefix link [47] = true ∨ insideL root (upL path) = false then ([], false) else targetW root (upL path) (namesL link) from rfl)
  have HPX : ∀ w, Calls Try.prog 73 #[.string ⟨link.toArray⟩, .string ⟨#[47]⟩] w fun e w' => e = .returned (.bool (Lib.hasPrefix link [47])) ∧ w' = w := fun w => Try.strings_HasPrefix ⟨link.toArray⟩ ⟨#[47]⟩ w
  have eg := enters_of Try.func76 (by kernel_rfl) rfl
  generalize targetV root path link = tv at HV ⊢
  generalize Lib.hasPrefix link [47] = hpx at HPX HV
  generalize upL path = at0 at HU HV hul
  obtain ⟨w1, hw1⟩ : ∃ w1, w1 = (w.alloc (.cells #[.string ⟨root.toArray⟩] 9)).alloc (.cells #[.string ⟨at0.toArray⟩] 9) := ⟨_, rfl⟩
  have hb1 : Below w.heap.size w w1 := by rw [hw1]; exact ((Below.refl _ _).alloc (Nat.le_refl _) _).alloc (by simp) _
  have hz1 : w1.heap.size = w.heap.size + 2 := by rw [hw1]; simp
  have hka : w1.heap[w.heap.size + 1]? = some (.cells #[.string ⟨at0.toArray⟩] 9 (0, 0)) := by
    rw [hw1]
    have := heap_alloc_new (w.alloc (.cells #[.string ⟨root.toArray⟩] 9)) (.cells #[.string ⟨at0.toArray⟩] 9)
    rwa [World.size_alloc] at this
  have hkr : w1.heap[w.heap.size]? = some (.cells #[.string ⟨root.toArray⟩] 9 (0, 0)) := by
    rw [hw1, Below.heap_alloc _ _ _ (by simp)]
    exact heap_alloc_new w _
  have hca := (cell_of hka).1
  have hcr := (cell_of hkr).1
  by_cases hl0 : link = []
  · subst hl0
    have HV2 := Lib.hid (show tv = ([], false) by rw [HV.out, if_pos (.inl rfl)])
    clear HV hka hkr hca hcr
    go_enter Try.func63, Try.ntmps63
    go_wp2_with (go_at_call 19; refine (HU _).mono ?_; rintro e w2 ⟨rfl, hw2⟩; obtain rfl := hw2.symm)
    go_ret2
    rw [HV2.out]
    exact ⟨rfl, ((Below.refl _ _).alloc (Nat.le_refl _) _).alloc (by simp) _⟩
  · have hle := emp hl0
    have hlb : (link == []) = false := by simpa using hl0
    cases hpx with
    | true =>
      have HV2 := Lib.hid (show tv = ([], false) by rw [HV.out, if_pos (.inr (.inl rfl))])
      clear HV hka hkr hca hcr
      go_enter Try.func63, Try.ntmps63
      go_wp2_with (first | (go_at_call 19; refine (HU _).mono ?_; rintro e w2 ⟨rfl, hw2⟩; obtain rfl := hw2.symm) | (go_at_call 73; refine (HPX _).mono ?_; rintro e w2 ⟨rfl, hw2⟩; obtain rfl := hw2.symm))
      go_ret2
      rw [HV2.out]
      exact ⟨rfl, ((Below.refl _ _).alloc (Nat.le_refl _) _).alloc (by simp) _⟩
    | false =>
      have HOUT := out_any root at0 (by omega) (w.heap.size + 1) w.heap.size w1 hca hcr
      have HSP := fun w => split_any link (by omega) w
      have hnl := names_length link
      have htot : tot (namesL link) ≤ link.length + 1 := by rw [← tot_split]; exact tot_filter _ _
      generalize namesL link = xs at HSP HV hnl htot
      cases hi : insideL root at0 with
      | false =>
        rw [hi] at HOUT HV
        have HV2 := Lib.hid (show tv = ([], false) by rw [HV.out, if_pos (.inr (.inr rfl))])
        clear HV hka hkr hca hcr hi
        go_enter Try.func63, Try.ntmps63
        go_wp2_with (first | (go_at_call 19; refine (HU _).mono ?_; rintro e w2 ⟨rfl, hw2⟩; obtain rfl := hw2.symm) | (go_at_call 73; refine (HPX _).mono ?_; rintro e w2 ⟨rfl, hw2⟩; obtain rfl := hw2.symm))
        rw [← hw1]
        clear hw1
        refine HOUT.mono ?_
        rintro e w2 ⟨rfl, hw2⟩
        obtain rfl := hw2.symm
        go_wp2_with fail
        go_ret2
        rw [HV2.out]
        exact ⟨rfl, hb1⟩
      | true =>
        rw [hi] at HOUT HV
        have HV2 := Lib.hid (show tv = targetW root at0 (xs.drop 0) by rw [HV.out, if_neg (by simp [hl0])]; rfl)
        have HKA := Lib.hid hka; have HKR := Lib.hid hkr; have HB1 := Lib.hid hb1
        have hga1 : w.heap.size + 1 < w1.heap.size := by omega
        clear HV hka hkr hca hcr hi hb1
        go_enter Try.func63, Try.ntmps63
        go_wp2_with (first | (go_at_call 19; refine (HU _).mono ?_; rintro e w2 ⟨rfl, hw2⟩; obtain rfl := hw2.symm) | (go_at_call 73; refine (HPX _).mono ?_; rintro e w2 ⟨rfl, hw2⟩; obtain rfl := hw2.symm))
        rw [← hw1]
        clear hw1
        refine HOUT.mono ?_
        rintro e w2 ⟨rfl, hw2⟩
        obtain rfl := hw2.symm
        go_wp2_with fail
        clear HOUT HU HPX
        refine (HSP _).mono ?_
        rintro e w3 ⟨v, rfl, ho, hb3⟩
        have hz3 := hb3.size
        obtain ⟨A1, c1, rfl⟩ := own_form ho
        have hcell : ∀ W, Out (· = w.heap.size + 1) w3 W → ∀ (j : Nat) (x : List UInt8), xs[j]? = some x → ∃ g, A1 = some ⟨g, 0, none⟩ ∧ W.cell? ⟨g, j, none⟩ = some (.string ⟨x.toArray⟩) := fun W hW j x hx => by
          rcases ho.2 with ⟨_, h0⟩ | ⟨g, cap, cur, hv, hgb, _⟩
          · have := (List.getElem?_eq_some_iff.1 hx).1
            omega
          · injection hv with hv1 _ _
            subst hv1
            have h1 := ho.cells (g := g) rfl j (encS x) (by simp [hx])
            rw [Addr.add_lit, Nat.zero_add] at h1
            have hgl := World.block_lt_of_cell? w3 _ h1
            exact ⟨g, rfl, (World.cell?_of_block (hW.block g hgl (by omega))).trans h1⟩
        have HKA3 := Lib.hid ((hb3.block _ hga1).trans HKA.out)
        have HKR3 := Lib.hid ((hb3.block w.heap.size (by omega)).trans HKR.out)
        have HB3 := Lib.hid (HB1.out.trans (hb3.mono HB1.out.size))
        have hxn : xs.length ≤ 20000000000 := by omega
        have hbnd : at0.length + tot (xs.drop 0) ≤ 30000000000 := by rw [List.drop_zero]; omega
        generalize hnx : xs.length = n at ho hxn ⊢
        have HNX := Lib.hid hnx
        clear ho hb3 hnx hnl HSP htot HKA HKR HB1 hul
        have hga3 : w.heap.size + 1 < w3.heap.size := by omega
        generalize hgaE : w.heap.size + 1 = ga at *
        have hgr : ¬ w.heap.size = ga := by omega
        have hgle : w.heap.size ≤ ga := by omega
        have hgrl : w.heap.size < w3.heap.size := by omega
        clear hgaE
        go_wp2_with fail
        go_loopw [11, 28, 29, 30, 31, 32, 33, 34, 35, 36, 37, 38, 39, 40, 41, 42, 43, 44, 45, 46] (fun v11 v28 _ _ _ _ _ _ _ _ _ _ _ _ _ _ _ _ _ _ wr => ∃ (k : Nat) (at' : List UInt8), k ≤ n ∧ v28 = .int .i64 k ∧ wr.heap[ga]? = some (.cells #[.string ⟨at'.toArray⟩] 9 (0, 0)) ∧ tv = targetW root at' (xs.drop k) ∧ at'.length + tot (xs.drop k) ≤ 30000000000 ∧ Out (· = ga) w3 wr) (fun _ v28 _ _ _ _ _ _ _ _ _ _ _ _ _ _ _ _ _ _ _ => n - (intOf v28).toNat)
        case atStart => exact ⟨0, at0, Nat.zero_le _, rfl, HKA3.out, HV2.out, hbnd, ⟨rfl, rfl, rfl, Nat.le_refl _, fun _ _ _ => rfl⟩⟩
        case round =>
          obtain ⟨k, at', hk, rfl, hka, htv, hat, hout⟩ := hrel
          clear HV2 hbnd
          obtain ⟨ca, fa⟩ := cell_of hka
          have hkr := (hout.block _ hgrl hgr).trans HKR3.out
          have cr := (cell_of hkr).1
          have HOU := Lib.hid hout
          have HKAw := Lib.hid hka
          have hset : ∀ v, (wr.setCell ⟨ga, 0, none⟩ v).heap[ga]? = some (.cells #[v] 9 (0, 0)) := fun v => set_one hka
          have hsetr : ∀ v, (wr.setCell ⟨ga, 0, none⟩ v).cell? ⟨w.heap.size, 0, none⟩ = some (.string ⟨root.toArray⟩) := fun v => (World.cell?_of_block (Below.heap_setCell _ _ _ _ hgr)).trans cr
          by_cases hlt : k < n
          · have hkz : (k : Int) < (n : Int) := by omega
            obtain ⟨x, hx⟩ : ∃ x, xs[k]? = some x := ⟨_, List.getElem?_eq_getElem (by have := HNX.out; omega)⟩
            obtain ⟨g, rfl, hc⟩ := hcell wr hout k x hx
            rw [targetW_drop root at' hx] at htv
            rw [tot_drop hx] at hat
            clear hcell hx hka hkr hout
            by_cases hdd : x = [46, 46]
            · rw [if_pos hdd] at htv
              subst hdd
              by_cases har : at' = root
              · rw [if_pos har] at htv
                have HTV := Lib.hid htv
                subst har
                have harb : (at' == at') = true := by simp
                clear htv hset hsetr
                go_wp2_with fail
                go_ret2
                rw [HTV.out]
                exact ⟨rfl, HB3.out.trans ((HOU.out.below (fun k h => by rw [h]; exact hgle) (Nat.le_of_lt hgrl)))⟩
              · rw [if_neg har] at htv
                have harb : (at' == root) = false := by simpa using har
                have HU2 := fun w => up_any at' (by omega) w
                have hul2 := upL_len at'
                generalize upL at' = au at HU2 htv hul2
                have HO2 := out_any root au (by omega) ga w.heap.size (wr.setCell ⟨ga, 0, none⟩ (.string ⟨au.toArray⟩)) (cell_of (hset _)).1 (hsetr _)
                have HS2 := Lib.hid (hset (.string ⟨au.toArray⟩))
                have HOO := Lib.hid (HOU.out.trans (Out.set wr ga (.string ⟨au.toArray⟩)))
                clear hset hsetr
                cases hi2 : insideL root au with
                | true =>
                  rw [hi2] at HO2 htv
                  have HTV := Lib.hid (show tv = targetW root au (xs.drop (k + 1)) by rw [htv]; rfl)
                  clear htv hi2
                  go_wp2_with (first | (go_at_call 19; refine (HU2 _).mono ?_; rintro e w4 ⟨rfl, hw4⟩; obtain rfl := hw4.symm))
                  refine HO2.mono ?_
                  rintro e w4 ⟨rfl, hw4⟩
                  obtain rfl := hw4.symm
                  go_wp2_with fail
                  go_roundw
                  case rel => exact ⟨k + 1, au, by omega, by go_num, HS2.out, HTV.out, by simp at hat; omega, HOO.out⟩
                  case measure => simp [intOf]; omega
                | false =>
                  rw [hi2] at HO2 htv
                  have HTV := Lib.hid (show tv = ([], false) by rw [htv]; rfl)
                  clear htv hi2
                  go_wp2_with (first | (go_at_call 19; refine (HU2 _).mono ?_; rintro e w4 ⟨rfl, hw4⟩; obtain rfl := hw4.symm))
                  refine HO2.mono ?_
                  rintro e w4 ⟨rfl, hw4⟩
                  obtain rfl := hw4.symm
                  go_wp2_with fail
                  go_ret2
                  rw [HTV.out]
                  exact ⟨rfl, HB3.out.trans ((HOO.out.below (fun k h => by rw [h]; exact hgle) (Nat.le_of_lt hgrl)))⟩
            · rw [if_neg hdd] at htv
              have hdb : (x == [46, 46]) = false := by simpa using hdd
              have hdb2 : (x != [46, 46]) = true := by simpa using hdd
              have HJ2 := fun w => join_any at' x (by omega) (by omega) w
              have hjl := joinL_len at' x
              generalize joinL at' x = aj at HJ2 htv hjl
              have HO2 := out_any root aj (by omega) ga w.heap.size (wr.setCell ⟨ga, 0, none⟩ (.string ⟨aj.toArray⟩)) (cell_of (hset _)).1 (hsetr _)
              have HS2 := Lib.hid (hset (.string ⟨aj.toArray⟩))
              have HOO := Lib.hid (HOU.out.trans (Out.set wr ga (.string ⟨aj.toArray⟩)))
              clear hset hsetr
              cases hi2 : insideL root aj with
              | true =>
                rw [hi2] at HO2 htv
                have HTV := Lib.hid (show tv = targetW root aj (xs.drop (k + 1)) by rw [htv]; rfl)
                clear htv hi2
                go_wp2_with (first | (go_at_call 16; refine (HJ2 _).mono ?_; rintro e w4 ⟨rfl, hw4⟩; obtain rfl := hw4.symm))
                refine HO2.mono ?_
                rintro e w4 ⟨rfl, hw4⟩
                obtain rfl := hw4.symm
                go_wp2_with fail
                go_roundw
                case rel => exact ⟨k + 1, aj, by omega, by go_num, HS2.out, HTV.out, by omega, HOO.out⟩
                case measure => simp [intOf]; omega
              | false =>
                rw [hi2] at HO2 htv
                have HTV := Lib.hid (show tv = ([], false) by rw [htv]; rfl)
                clear htv hi2
                go_wp2_with (first | (go_at_call 16; refine (HJ2 _).mono ?_; rintro e w4 ⟨rfl, hw4⟩; obtain rfl := hw4.symm))
                refine HO2.mono ?_
                rintro e w4 ⟨rfl, hw4⟩
                obtain rfl := hw4.symm
                go_wp2_with fail
                go_ret2
                rw [HTV.out]
                exact ⟨rfl, HB3.out.trans ((HOO.out.below (fun k h => by rw [h]; exact hgle) (Nat.le_of_lt hgrl)))⟩
          · obtain rfl : k = n := by omega
            have HTV := Lib.hid (show tv = (at', true) by rw [htv, List.drop_eq_nil_of_le (by have := HNX.out; omega)]; rfl)
            clear htv hcell hset hsetr hka hkr hout
            go_wp2_with fail
            go_ret2
            rw [HTV.out]
            exact ⟨rfl, HB3.out.trans ((HOU.out.below (fun k h => by rw [h]; exact hgle) (Nat.le_of_lt hgrl)))⟩

end Go.Proofs.Ytlbipmlbkcdmnaa

/-
  Where and Target, in both words.
-/
namespace Go.Proofs.Ytlbipmlbkcdmnaa
open Go.RowKit Go.Shelf

set_option maxRecDepth 100000 in
set_option maxHeartbeats 2000000 in
theorem pathsAll_any (root path link : List UInt8) (hr : root.length ≤ 10000000000) (hp : path.length ≤ 10000000000) (hl : link.length ≤ 10000000000) (w : World) : Calls Try.prog 41 #[.string ⟨root.toArray⟩, .string ⟨path.toArray⟩, .string ⟨link.toArray⟩] w fun e w' =>
    e = .returned (.bool true) ∧ Below w.heap.size w w' := by
  have H1 := fun w => where_any root link (by omega) (by omega) w
  have H2 := fun w => refWhere_any root link (by omega) (by omega) w
  have H3 := fun w => target_any root path link hr hp hl w
  have H4 := fun w => refTarget_any root path link hr hp hl w
  generalize whereV root link = wv at H1 H2
  generalize targetV root path link = tv at H3 H4
  obtain ⟨a, b⟩ := wv
  obtain ⟨c, d⟩ := tv
  dsimp only at H1 H2 H3 H4
  go_enter Try.func41, Try.ntmps41
  go_wp2_with (first
    | (go_at_call 43; refine (H1 _).mono ?_; rintro e w1 ⟨rfl, hb1⟩)
    | (go_at_call 64; refine (H2 _).mono ?_; rintro e w2 ⟨rfl, hb2⟩)
    | (go_at_call 63; refine (H3 _).mono ?_; rintro e w3 ⟨rfl, hb3⟩)
    | (go_at_call 42; refine (H4 _).mono ?_; rintro e w4 ⟨rfl, hb4⟩))
  go_ret
  exact ⟨by simp, hb1.trans ((hb2.trans ((hb3.trans (hb4.mono hb3.size)).mono hb2.size)).mono hb1.size)⟩

end Go.Proofs.Ytlbipmlbkcdmnaa
