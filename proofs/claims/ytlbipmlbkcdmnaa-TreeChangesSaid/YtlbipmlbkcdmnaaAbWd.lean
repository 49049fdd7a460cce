/-
  The document's Remove.
-/
import Derived.Test.YtlbipmlbkcdmnaaZWd
namespace Go.Proofs.Ytlbipmlbkcdmnaa
open Go.RowKit Go.Shelf

set_option maxRecDepth 100000 in
set_option maxHeartbeats 4000000 in
theorem refRemove_any {w : World} {A : Option Addr} {n c : Nat} {ns : List Nd} (s : List UInt8) (hs : s.length ≤ 140737488355328) (h : Nodes w A ns) (hp : ∀ x ∈ ns, x.path.length ≤ 140737488355328) (hl : n = ns.length) (hn : n ≤ 2199023255500) :
    Calls Try.prog 29 #[.slice A n c, .string ⟨s.toArray⟩] w fun e w' => ∃ v m, e = .returned v ∧ w'.ownsRow w.heap.size 31 4 v m (cellsOf (ns.filter fun x => !(x.path == s || underL x.path s))) ∧ Below w.heap.size w w' := by
  obtain ⟨i0, hi, hz0, hz1, hz2⟩ := info_parts Try.info31
  have HL := Lib.hid hl; clear hl
  go_enter Try.func29, Try.ntmps29
  go_wp2_with fail
  go_loopw [5, 6, 7, 8, 9, 10, 11, 12, 13, 14, 15, 16, 17, 18, 19, 20, 21, 22, 23, 24, 25, 26, 27, 28, 29, 30, 31, 32, 33, 34, 35, 36] (fun v i _ _ _ _ _ _ _ _ _ _ _ _ _ _ _ _ _ _ _ _ _ _ _ _ _ _ _ _ _ _ wr => ∃ (k : Nat) (ms : List Nd), k ≤ n ∧ i = .int .i64 k ∧ wr.ownsRow w.heap.size 31 4 v ms.length (cellsOf ms) ∧ ms.length ≤ k ∧ ms = (ns.take k).filter (fun x => !(x.path == s || underL x.path s)) ∧ Below w.heap.size w wr)
    (fun _ i _ _ _ _ _ _ _ _ _ _ _ _ _ _ _ _ _ _ _ _ _ _ _ _ _ _ _ _ _ _ _ => n - (intOf i).toNat)
  case atStart => exact ⟨0, [], Nat.zero_le _, rfl, World.ownsRow_nil _ _ _ _, Nat.le_refl _, rfl, Below.refl _ _⟩
  case round =>
    obtain ⟨k, ms, hk, rfl, ho, hml, hms, hb⟩ := hrel
    by_cases hlt : k < n
    · have hkz : (k : Int) < (n : Int) := by omega
      obtain ⟨x, hx⟩ : ∃ x, ns[k]? = some x := ⟨_, List.getElem?_eq_getElem (by have := HL.out; omega)⟩
      have htk : ns.take (k + 1) = ns.take k ++ [x] := by rw [List.take_add_one, hx]; rfl
      have HU := fun w => under_any x.path s hs w
      have hxp := hp x (List.mem_of_getElem? hx)
      rcases h.below hb with rfl | ⟨b, off, rfl, hbl, hc⟩
      · simp at hx
      obtain ⟨x0, x1, x2, x3⟩ := hc k x hx
      obtain ⟨A5, c5, rfl⟩ := own_form ho
      have HO := Lib.hid ho; clear ho
      have HMS := Lib.hid hms; clear hms
      have HB := Lib.hid hb; clear hb
      have HTK := Lib.hid htk; clear htk
      clear hc h hp hx
      cases he : (x.path == s) with
      | true =>
        have hne : x.path = s := by simpa using he
        have HE := Lib.hid he; clear HU
        go_wp2_with fail
        go_roundw
        case rel => exact ⟨k + 1, ms, by omega, by go_num, HO.out, by omega, by rw [HTK.out, List.filter_append, ← HMS.out]; simp [HE.out], HB.out⟩
        case measure => simp [intOf]; omega
      | false =>
        have hne : ¬ x.path = s := by simpa using he
        have HE := Lib.hid he
        cases hq : underL x.path s with
        | false =>
          rw [hq] at HU
          have HQ := Lib.hid hq; clear hq
          go_wp2_with (first | (go_at_call 18; refine (HU _).mono ?_; rintro e w2 ⟨rfl, rfl⟩) | (at_builtin; refine wpList_append_own _ rfl _ _ 28 rfl w.heap.size 31 i0 _ 4 64 Try.underlying28 hi hz0 hz1 hz2 rfl (by decide) (.slice A5 ms.length c5) ms.length (cellsOf ms) rfl (HO.out.alloc _) ⟨_, 0, none⟩ 1 1 x.cells rfl rfl (cells_new _ x.cells.toArray 31) (fun u hu => cells_one [x] u (by simpa [cellsOf] using hu)) (by unfold maxLen; omega) (by omega) (by have := HB.out.size; simp; omega) ?_; intro v' w3 hown3 hgrow3 _; rw [cellsOf_snoc] at hown3; obtain ⟨A6, c6, rfl⟩ := own_form hown3))
          go_roundw
          case rel =>
            refine ⟨k + 1, ms ++ [x], by omega, by go_num, by simpa using hown3, by simp; omega, by rw [HTK.out, List.filter_append, ← HMS.out]; simp [HQ.out, HE.out], ?_⟩
            exact (HB.out.alloc HB.out.size _).grown hgrow3 (by have := HB.out.size; simp; omega) (fun j e => own_from HO.out j e)
          case measure => simp [intOf]; omega
        | true =>
          rw [hq] at HU
          have HQ := Lib.hid hq; clear hq
          go_wp2_with (go_at_call 18; refine (HU _).mono ?_; rintro e w2 ⟨rfl, rfl⟩)
          go_roundw
          case rel => exact ⟨k + 1, ms, by omega, by go_num, HO.out, by omega, by rw [HTK.out, List.filter_append, ← HMS.out]; simp [HQ.out, HE.out], HB.out⟩
          case measure => simp [intOf]; omega
    · obtain rfl : k = n := by omega
      have hall : (ns.take k).filter (fun x => !(x.path == s || underL x.path s)) = ns.filter (fun x => !(x.path == s || underL x.path s)) := by rw [List.take_of_length_le (by have := HL.out; omega)]
      rw [hall] at hms
      subst hms
      go_wp2_with fail
      go_ret
      exact ⟨_, _, rfl, ho, hb⟩

end Go.Proofs.Ytlbipmlbkcdmnaa
