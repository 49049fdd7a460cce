/-
  Whether a tree may be: the document's Right.
-/
import Derived.Test.YtlbipmlbkcdmnaaAp
namespace Go.Proofs.Ytlbipmlbkcdmnaa
open Go.RowKit Go.Shelf

def rightIdx (ss : List Sn) (k : Nat) : Bool := match ss[k]? with | some s => rightAt ss k s | none => true
def rightS (ss : List Sn) : Bool := (List.range ss.length).all (rightIdx ss)

set_option maxRecDepth 100000 in
set_option maxHeartbeats 4000000 in
theorem refRight_any {w : World} {A : Option Addr} {n c : Nat} {ns : List Nd} {ss : List Sn} (hN : Nodes w A ns) (hL : Like w ns ss) (hl : n = ns.length) (hn : n ≤ 1000000000) (hp : ∀ t ∈ ss, t.path.length ≤ 1000000000) :
    Calls Try.prog 30 #[.slice A n c] w fun e w' => e = .returned (.bool (rightS ss)) ∧ Below w.heap.size w w' := by
  have hls : n = ss.length := by rw [hl]; exact hL.1
  have HR := Lib.hid (show ∀ W k s, Below w.heap.size w W → k < n → ss[k]? = some s → Calls Try.prog 55 #[.slice A n c, .int .i64 k] W fun e w' => e = .returned (.bool (rightAt ss k s)) ∧ Below W.heap.size W w' from
    fun W k s hW hk hs => refRightAt_any s (hN.below hW) (hL.below hW) hl hn hp hk hs)
  have HLS := Lib.hid hls
  clear hN hL hl hp hls
  go_enter Try.func30, Try.ntmps30
  go_wp2_with fail
  go_loopw [3, 4, 5, 6, 7, 8, 9, 10, 11, 12, 13] (fun v3 _ _ _ _ _ _ _ _ _ _ wr => ∃ k : Nat, k ≤ n ∧ v3 = .int .i64 k ∧ Below w.heap.size w wr ∧ ∀ j, j < k → rightIdx ss j = true) (fun v3 _ _ _ _ _ _ _ _ _ _ _ => n - (intOf v3).toNat)
  case atStart => exact ⟨0, Nat.zero_le _, rfl, Below.refl _ _, fun j hj => absurd hj (Nat.not_lt_zero _)⟩
  case round =>
    obtain ⟨k, hk, rfl, hb, hbef⟩ := hrel
    by_cases hlt : k < n
    · have hkz : (k : Int) < (n : Int) := by omega
      obtain ⟨s, hs⟩ : ∃ s, ss[k]? = some s := ⟨_, List.getElem?_eq_getElem (by have := HLS.out; omega)⟩
      have HC := HR.out wr k s hb hlt hs
      have hi : rightIdx ss k = rightAt ss k s := by unfold rightIdx; rw [hs]
      have HBF := Lib.hid hbef
      have HI := Lib.hid hi
      clear hs hbef hi
      cases hq : rightAt ss k s with
      | true =>
        rw [hq] at HC
        have HQ := Lib.hid hq; clear hq
        go_wp2_with (go_at_call 55; refine HC.mono ?_; rintro e w2 ⟨rfl, hb2⟩)
        go_roundw
        case rel =>
          refine ⟨k + 1, by omega, by go_num, hb.trans (hb2.mono hb.size), fun j hj => ?_⟩
          by_cases hjk : j = k
          · subst hjk; rw [HI.out]; exact HQ.out
          · exact HBF.out j (by omega)
        case measure => simp [intOf]; omega
      | false =>
        rw [hq] at HC
        have HQ := Lib.hid hq; clear hq
        go_wp2_with (go_at_call 55; refine HC.mono ?_; rintro e w2 ⟨rfl, hb2⟩)
        go_ret
        refine ⟨?_, hb.trans (hb2.mono hb.size)⟩
        have : rightS ss = false := by
          unfold rightS
          rw [List.all_eq_false]
          exact ⟨k, List.mem_range.2 (by have := HLS.out; omega), by rw [HI.out, HQ.out]; decide⟩
        rw [this]
        rfl
    · obtain rfl : k = n := by omega
      have hT : rightS ss = true := by
        unfold rightS
        rw [List.all_eq_true]
        intro j hj
        exact hbef j (by have := List.mem_range.1 hj; have := HLS.out; omega)
      have HT := Lib.hid hT
      clear hbef hT
      go_wp2_with fail
      go_ret
      exact ⟨by rw [HT.out]; rfl, hb⟩

end Go.Proofs.Ytlbipmlbkcdmnaa
