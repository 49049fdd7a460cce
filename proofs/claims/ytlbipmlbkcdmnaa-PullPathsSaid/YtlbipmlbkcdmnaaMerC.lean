/-
  Whether two trees are one: true where both read alike.
-/
import Derived.Test.YtlbipmlbkcdmnaaWV
import Derived.Test.YtlbipmlbkcdmnaaO
namespace Go.Proofs.Ytlbipmlbkcdmnaa
open Go.RowKit Go.Shelf

set_option maxRecDepth 100000 in
set_option maxHeartbeats 4000000 in
theorem sameAll_any {w : World} {A A' : Option Addr} {n c c' : Nat} {ns ms : List Nd} {ss : List Sn} (h : Nodes w A ns) (hL : Like w ns ss) (hl : n = ns.length) (h' : Nodes w A' ms) (hL' : Like w ms ss) (hn : n ≤ 1000000000000) :
    Calls Try.prog 25 #[.slice A n c, .slice A' n c'] w fun e w' => e = .returned (.bool true) ∧ Below w.heap.size w w' := by
  have HL := Lib.hid hl; clear hl
  go_enter Try.func25, Try.ntmps25
  go_wp2_with fail
  go_loopw [5, 11, 12, 13, 14, 15, 16, 17, 18, 19, 20, 21, 22, 23, 24, 25, 26] (fun i _ _ _ _ _ _ _ _ _ _ _ _ _ _ _ _ wr => ∃ k : Nat, k ≤ n ∧ i = .int .i64 k ∧ Below w.heap.size w wr)
    (fun i _ _ _ _ _ _ _ _ _ _ _ _ _ _ _ _ _ => n - (intOf i).toNat)
  case atStart => exact ⟨0, Nat.zero_le _, rfl, Below.refl _ _⟩
  case round =>
    obtain ⟨k, hk, rfl, hb⟩ := hrel
    by_cases hlt : k < n
    · have hkz : (k : Int) < (n : Int) := by omega
      obtain ⟨x, hx⟩ : ∃ x, ns[k]? = some x := ⟨_, List.getElem?_eq_getElem (by have := HL.out; omega)⟩
      obtain ⟨y, hy⟩ : ∃ y, ms[k]? = some y := ⟨_, List.getElem?_eq_getElem (by have := HL.out; have := hL.1; have := hL'.1; omega)⟩
      obtain ⟨t, ht⟩ : ∃ t, ss[k]? = some t := ⟨_, List.getElem?_eq_getElem (by have := HL.out; have := hL.1; omega)⟩
      have hxt := (hL.2 k x t hx ht).below hb
      have hyt := (hL'.2 k y t hy ht).below hb
      rcases h.below hb with rfl | ⟨b, off, rfl, hbl, hc⟩
      · simp at hx
      rcases h'.below hb with rfl | ⟨b', off', rfl, hbl', hc'⟩
      · simp at hy
      obtain ⟨x0, x1, x2, x3⟩ := hc k x hx
      obtain ⟨y0, y1, y2, y3⟩ := hc' k y hy
      clear hc hc' h h' hL hL' hx hy ht
      have HB := Lib.hid hb; clear hb
      go_wp2_with fail
      refine wp_region_ordV [0, 1, 2, 3, 4, 5, 6, 7, 8, 9] [8] (by kernel_rfl) (by kernel_rfl) (by kernel_rfl) (fun d _ _ _ _ h => by cases d <;> exact h) (by kernel_rfl) ?_
      intro WG hWG hBG
      have gl : ∀ {a : Addr} {v : Value}, a.block < wr.heap.size → wr.cell? a = some v → ∀ W, Below WG.heap.size WG W → W.cell? a = some v := fun {a v} hl hc W hW => (hW.cell (by rw [hWG]; exact hl)).trans ((hBG.cell hl).trans hc)
      have u0 := gl (a := ⟨b, off + k * 4, none⟩) hbl x0
      have u1 := gl (a := ⟨b, off + k * 4 + 1, none⟩) hbl x1
      have u2 := gl (a := ⟨b, off + k * 4 + 2, none⟩) hbl x2
      have u3 := gl (a := ⟨b, off + k * 4 + 3, none⟩) hbl x3
      have v0 := gl (a := ⟨b', off' + k * 4, none⟩) hbl' y0
      have v1 := gl (a := ⟨b', off' + k * 4 + 1, none⟩) hbl' y1
      have v2 := gl (a := ⟨b', off' + k * 4 + 2, none⟩) hbl' y2
      have v3 := gl (a := ⟨b', off' + k * 4 + 3, none⟩) hbl' y3
      have HG := Lib.hid (HB.out.trans (hBG.mono HB.out.size))
      have HS := same_any x y t WG (hxt.below hBG) (hyt.below hBG)
      clear gl hBG hWG hxt hyt x0 x1 x2 x3 y0 y1 y2 y3
      unfold Nd.cells at HS
      repeat (first | (refine wpOrd_take (v := ?_) rfl rfl rfl (fun W hW => ?_) ?_; rotate_left; (focus (go_simp; with_reducible rfl)); simp only [Act.put, List.setIfInBounds_toArray, List.set_cons_succ, List.set_cons_zero]) | (refine wpOrd_skip rfl rfl ?_; simp only [Act.put, List.setIfInBounds_toArray, List.set_cons_succ, List.set_cons_zero]))
      refine wpOrd_call rfl rfl rfl ?_
      go_simp
      refine HS.mono ?_
      rintro e w5 ⟨rfl, hb5⟩
      refine ⟨hb5, ?_⟩
      repeat (first | (refine wpOrd_take (v := ?_) rfl rfl rfl (fun W hW => ?_) ?_; rotate_left; (focus (go_simp; with_reducible rfl)); simp only [Act.put, List.setIfInBounds_toArray, List.set_cons_succ, List.set_cons_zero]) | (refine wpOrd_skip rfl rfl ?_; simp only [Act.put, List.setIfInBounds_toArray, List.set_cons_succ, List.set_cons_zero]))
      refine wpOrd_nil ?_
      go_wp2_with fail
      go_roundw
      case rel => exact ⟨k + 1, by omega, by go_num, HG.out.trans (hb5.mono HG.out.size)⟩
      case measure => simp [intOf]; omega
    · obtain rfl : k = n := by omega
      go_wp2_with fail
      go_ret
      exact ⟨rfl, hb⟩

end Go.Proofs.Ytlbipmlbkcdmnaa

/-
  The two ways to say that one path is below another.
-/
namespace Go.Proofs.Ytlbipmlbkcdmnaa
open Go.RowKit Go.Shelf

theorem below_under (p s : List UInt8) : belowL p s = underL p s := by
  unfold belowL underL Lib.hasPrefix
  congr 1
  rw [Bool.eq_iff_iff]
  simp only [List.isPrefixOf_iff_prefix, Bool.and_eq_true, decide_eq_true_eq, beq_iff_eq]
  constructor
  · intro h
    have h1 := h.length_le
    have h2 := List.prefix_iff_eq_take.1 h
    simp at h1
    exact ⟨by omega, by rw [show s.length + 1 = (s ++ [47]).length by simp]; exact h2.symm⟩
  · rintro ⟨_, h⟩
    rw [← h]
    exact List.take_prefix _ _

end Go.Proofs.Ytlbipmlbkcdmnaa

/-
  The document's Below.
-/
namespace Go.Proofs.Ytlbipmlbkcdmnaa
open Go.RowKit Go.Shelf

theorem cellsOf_snoc (ms : List Nd) (x : Nd) : cellsOf ms ++ x.cells = cellsOf (ms ++ [x]) := by
  unfold cellsOf
  rw [List.flatMap_append]
  simp

set_option maxRecDepth 100000 in
set_option maxHeartbeats 4000000 in
theorem refBelow_any {w : World} {A : Option Addr} {n c : Nat} {ns : List Nd} (s : List UInt8) (hs : s.length ≤ 4000000000000) (h : Nodes w A ns) (hp : ∀ x ∈ ns, x.path.length ≤ 4000000000000) (hl : n = ns.length) (hn : n ≤ 1000000000000) :
    Calls Try.prog 45 #[.slice A n c, .string ⟨s.toArray⟩] w fun e w' => ∃ v m, e = .returned v ∧ w'.ownsRow w.heap.size 31 4 v m (cellsOf (ns.filter fun x => underL x.path s)) ∧ Below w.heap.size w w' := by
  obtain ⟨i0, hi, hz0, hz1, hz2⟩ := info_parts Try.info31
  have HL := Lib.hid hl; clear hl
  go_enter Try.func45, Try.ntmps45
  go_wp2_with fail
  go_loopw [5, 6, 7, 8, 9, 10, 11, 12, 13, 14, 15, 16, 17, 18, 19, 20, 21, 22, 23, 24, 25, 26] (fun v i _ _ _ _ _ _ _ _ _ _ _ _ _ _ _ _ _ _ _ _ wr => ∃ (k : Nat) (ms : List Nd), k ≤ n ∧ i = .int .i64 k ∧ wr.ownsRow w.heap.size 31 4 v ms.length (cellsOf ms) ∧ ms.length ≤ k ∧ ms = (ns.take k).filter (fun x => underL x.path s) ∧ Below w.heap.size w wr)
    (fun _ i _ _ _ _ _ _ _ _ _ _ _ _ _ _ _ _ _ _ _ _ _ => n - (intOf i).toNat)
  case atStart => exact ⟨0, [], Nat.zero_le _, rfl, World.ownsRow_nil _ _ _ _, Nat.le_refl _, rfl, Below.refl _ _⟩
  case round =>
    obtain ⟨k, ms, hk, rfl, ho, hml, hms, hb⟩ := hrel
    by_cases hlt : k < n
    · have hkz : (k : Int) < (n : Int) := by omega
      obtain ⟨x, hx⟩ : ∃ x, ns[k]? = some x := ⟨_, List.getElem?_eq_getElem (by have := HL.out; omega)⟩
      have htk : ns.take (k + 1) = ns.take k ++ [x] := by rw [List.take_add_one, hx]; rfl
      have HU := fun w => under_any x.path s hs w
      have hxp := hp x (List.mem_of_getElem? hx)
      rcases h.below hb with rfl | ⟨b, off, rfl, hbl, hc⟩
      · simp at hx
      obtain ⟨x0, x1, x2, x3⟩ := hc k x hx
      obtain ⟨A5, c5, rfl⟩ := own_form ho
      have HO := Lib.hid ho; clear ho
      have HMS := Lib.hid hms; clear hms
      have HB := Lib.hid hb; clear hb
      have HTK := Lib.hid htk; clear htk
      clear hc h hp hx
      cases hq : underL x.path s with
      | true =>
        rw [hq] at HU
        have HQ := Lib.hid hq; clear hq
        go_wp2_with (first | (go_at_call 18; refine (HU _).mono ?_; rintro e w2 ⟨rfl, rfl⟩) | (at_builtin; refine wpList_append_own _ rfl _ _ 28 rfl w.heap.size 31 i0 _ 4 64 Try.underlying28 hi hz0 hz1 hz2 rfl (by decide) (.slice A5 ms.length c5) ms.length (cellsOf ms) rfl (HO.out.alloc _) ⟨_, 0, none⟩ 1 1 x.cells rfl rfl (cells_new _ x.cells.toArray 31) (fun u hu => cells_one [x] u (by simpa [cellsOf] using hu)) (by unfold maxLen; omega) (by omega) (by have := HB.out.size; simp; omega) ?_; intro v' w3 hown3 hgrow3 _; rw [cellsOf_snoc] at hown3; obtain ⟨A6, c6, rfl⟩ := own_form hown3))
        go_roundw
        case rel =>
          refine ⟨k + 1, ms ++ [x], by omega, by go_num, by simpa using hown3, by simp; omega, by rw [HTK.out, List.filter_append, ← HMS.out]; simp [HQ.out], ?_⟩
          exact (HB.out.alloc HB.out.size _).grown hgrow3 (by have := HB.out.size; simp; omega) (fun j e => own_from HO.out j e)
        case measure => simp [intOf]; omega
      | false =>
        rw [hq] at HU
        have HQ := Lib.hid hq; clear hq
        go_wp2_with (go_at_call 18; refine (HU _).mono ?_; rintro e w2 ⟨rfl, rfl⟩)
        go_roundw
        case rel => exact ⟨k + 1, ms, by omega, by go_num, HO.out, by omega, by rw [HTK.out, List.filter_append, ← HMS.out]; simp [HQ.out], HB.out⟩
        case measure => simp [intOf]; omega
    · obtain rfl : k = n := by omega
      have hall : (ns.take k).filter (fun x => underL x.path s) = ns.filter fun x => underL x.path s := by rw [List.take_of_length_le (by have := HL.out; omega)]
      rw [hall] at hms
      subst hms
      go_wp2_with fail
      go_ret
      exact ⟨_, _, rfl, ho, hb⟩

end Go.Proofs.Ytlbipmlbkcdmnaa

/-
  The document's Remove.
-/
namespace Go.Proofs.Ytlbipmlbkcdmnaa
open Go.RowKit Go.Shelf

set_option maxRecDepth 100000 in
set_option maxHeartbeats 4000000 in
theorem refRemove_any {w : World} {A : Option Addr} {n c : Nat} {ns : List Nd} (s : List UInt8) (hs : s.length ≤ 4000000000000) (h : Nodes w A ns) (hp : ∀ x ∈ ns, x.path.length ≤ 4000000000000) (hl : n = ns.length) (hn : n ≤ 1000000000000) :
    Calls Try.prog 29 #[.slice A n c, .string ⟨s.toArray⟩] w fun e w' => ∃ v m, e = .returned v ∧ w'.ownsRow w.heap.size 31 4 v m (cellsOf (ns.filter fun x => !(x.path == s || underL x.path s))) ∧ Below w.heap.size w w' := by
  obtain ⟨i0, hi, hz0, hz1, hz2⟩ := info_parts Try.info31
  have HL := Lib.hid hl; clear hl
  go_enter Try.func29, Try.ntmps29
  go_wp2_with fail
  go_loopw [5, 6, 7, 8, 9, 10, 11, 12, 13, 14, 15, 16, 17, 18, 19, 20, 21, 22, 23, 24, 25, 26, 27, 28, 29, 30, 31, 32, 33, 34, 35, 36] (fun v i _ _ _ _ _ _ _ _ _ _ _ _ _ _ _ _ _ _ _ _ _ _ _ _ _ _ _ _ _ _ wr => ∃ (k : Nat) (ms : List Nd), k ≤ n ∧ i = .int .i64 k ∧ wr.ownsRow w.heap.size 31 4 v ms.length (cellsOf ms) ∧ ms.length ≤ k ∧ ms = (ns.take k).filter (fun x => !(x.path == s || underL x.path s)) ∧ Below w.heap.size w wr)
    (fun _ i _ _ _ _ _ _ _ _ _ _ _ _ _ _ _ _ _ _ _ _ _ _ _ _ _ _ _ _ _ _ _ => n - (intOf i).toNat)
  case atStart => exact ⟨0, [], Nat.zero_le _, rfl, World.ownsRow_nil _ _ _ _, Nat.le_refl _, rfl, Below.refl _ _⟩
  case round =>
    obtain ⟨k, ms, hk, rfl, ho, hml, hms, hb⟩ := hrel
    by_cases hlt : k < n
    · have hkz : (k : Int) < (n : Int) := by omega
      obtain ⟨x, hx⟩ : ∃ x, ns[k]? = some x := ⟨_, List.getElem?_eq_getElem (by have := HL.out; omega)⟩
      have htk : ns.take (k + 1) = ns.take k ++ [x] := by rw [List.take_add_one, hx]; rfl
      have HU := fun w => under_any x.path s hs w
      have hxp := hp x (List.mem_of_getElem? hx)
      rcases h.below hb with rfl | ⟨b, off, rfl, hbl, hc⟩
      · simp at hx
      obtain ⟨x0, x1, x2, x3⟩ := hc k x hx
      obtain ⟨A5, c5, rfl⟩ := own_form ho
      have HO := Lib.hid ho; clear ho
      have HMS := Lib.hid hms; clear hms
      have HB := Lib.hid hb; clear hb
      have HTK := Lib.hid htk; clear htk
      clear hc h hp hx
      cases he : (x.path == s) with
      | true =>
        have hne : x.path = s := by simpa using he
        have HE := Lib.hid he; clear HU
        go_wp2_with fail
        go_roundw
        case rel => exact ⟨k + 1, ms, by omega, by go_num, HO.out, by omega, by rw [HTK.out, List.filter_append, ← HMS.out]; simp [HE.out], HB.out⟩
        case measure => simp [intOf]; omega
      | false =>
        have hne : ¬ x.path = s := by simpa using he
        have HE := Lib.hid he
        cases hq : underL x.path s with
        | false =>
          rw [hq] at HU
          have HQ := Lib.hid hq; clear hq
          go_wp2_with (first | (go_at_call 18; refine (HU _).mono ?_; rintro e w2 ⟨rfl, rfl⟩) | (at_builtin; refine wpList_append_own _ rfl _ _ 28 rfl w.heap.size 31 i0 _ 4 64 Try.underlying28 hi hz0 hz1 hz2 rfl (by decide) (.slice A5 ms.length c5) ms.length (cellsOf ms) rfl (HO.out.alloc _) ⟨_, 0, none⟩ 1 1 x.cells rfl rfl (cells_new _ x.cells.toArray 31) (fun u hu => cells_one [x] u (by simpa [cellsOf] using hu)) (by unfold maxLen; omega) (by omega) (by have := HB.out.size; simp; omega) ?_; intro v' w3 hown3 hgrow3 _; rw [cellsOf_snoc] at hown3; obtain ⟨A6, c6, rfl⟩ := own_form hown3))
          go_roundw
          case rel =>
            refine ⟨k + 1, ms ++ [x], by omega, by go_num, by simpa using hown3, by simp; omega, by rw [HTK.out, List.filter_append, ← HMS.out]; simp [HQ.out, HE.out], ?_⟩
            exact (HB.out.alloc HB.out.size _).grown hgrow3 (by have := HB.out.size; simp; omega) (fun j e => own_from HO.out j e)
          case measure => simp [intOf]; omega
        | true =>
          rw [hq] at HU
          have HQ := Lib.hid hq; clear hq
          go_wp2_with (go_at_call 18; refine (HU _).mono ?_; rintro e w2 ⟨rfl, rfl⟩)
          go_roundw
          case rel => exact ⟨k + 1, ms, by omega, by go_num, HO.out, by omega, by rw [HTK.out, List.filter_append, ← HMS.out]; simp [HQ.out, HE.out], HB.out⟩
          case measure => simp [intOf]; omega
    · obtain rfl : k = n := by omega
      have hall : (ns.take k).filter (fun x => !(x.path == s || underL x.path s)) = ns.filter (fun x => !(x.path == s || underL x.path s)) := by rw [List.take_of_length_le (by have := HL.out; omega)]
      rw [hall] at hms
      subst hms
      go_wp2_with fail
      go_ret
      exact ⟨_, _, rfl, ho, hb⟩

end Go.Proofs.Ytlbipmlbkcdmnaa
