/-
  The document's Up.
-/
import Derived.Test.YtlbipmlbkcdmnaaQWd
namespace Go.Proofs.Ytlbipmlbkcdmnaa
open Go.RowKit Go.Shelf

theorem at_mk (a : List UInt8) (k : Nat) (h : k < a.length) : (ByteArray.mk a.toArray).data[k]! = (ByteArray.mk a.toArray)[k]'h := by
  rw [getElem!_pos _ k (by simpa using h)]
  rfl

theorem lastIdx_hit {a : List UInt8} {k : Nat} (h : k < a.length) (e : ((((ByteArray.mk a.toArray)[k]'h).toNat : Int) == 47) = true) : Lib.lastIdx ⟨a.toArray⟩ 47 (k + 1) = k := by
  unfold Lib.lastIdx
  rw [if_pos (by rw [at_mk a k h]; simpa using e)]

theorem lastIdx_miss {a : List UInt8} {k : Nat} (h : k < a.length) (e : ((((ByteArray.mk a.toArray)[k]'h).toNat : Int) == 47) = false) : Lib.lastIdx ⟨a.toArray⟩ 47 (k + 1) = Lib.lastIdx ⟨a.toArray⟩ 47 k := by
  rw [Lib.lastIdx]
  rw [if_neg (by rw [at_mk a k h]; simpa using e)]

set_option maxRecDepth 100000 in
set_option maxHeartbeats 1000000 in
theorem refUp_any (a : List UInt8) (ha : a.length ≤ 140737488355328) (w : World) : Calls Try.prog 21 #[.string ⟨a.toArray⟩] w fun e w' => e = .returned (.string ⟨(upL a).toArray⟩) ∧ Below w.heap.size w w' := by
  have hw : IntKind.i64.wrap ((a.length : Int) - 1) = (a.length : Int) - 1 := by rw [IntKind.wrap_i64]; omega
  go_enter Try.func21, Try.ntmps21
  go_wp2_with fail
  go_loopw [3, 7, 8, 9, 10, 11, 12, 13, 14] (fun i _ _ _ _ _ _ _ _ wr => ∃ k : Nat, k ≤ a.length ∧ i = .int .i64 ((k : Int) - 1) ∧ Below w.heap.size w wr ∧ Lib.lastIndexByte ⟨a.toArray⟩ 47 = Lib.lastIdx ⟨a.toArray⟩ 47 k)
    (fun i _ _ _ _ _ _ _ _ _ => (intOf i + 1).toNat)
  case atStart => exact ⟨a.length, Nat.le_refl _, rfl, Below.refl _ _, rfl⟩
  case round =>
    obtain ⟨k, hk, rfl, hb, hl⟩ := hrel
    cases k with
    | zero =>
      have h0 : ¬ ((0 : Int) ≤ (((0 : Nat) : Int) - 1)) := by omega
      go_wp2_with fail
      go_ret
      exact ⟨by unfold upL; rw [hl]; rw [show (max (Lib.lastIdx ⟨a.toArray⟩ 47 0) 0).toNat = 0 from rfl]; rfl, hb⟩
    | succ k =>
      have h0 : (0 : Int) ≤ (((k + 1 : Nat) : Int) - 1) := by omega
      have h1 : (((k + 1 : Nat) : Int) - 1) = (k : Int) := by omega
      rw [h1] at h0 ⊢
      have h2 : k < a.length := by omega
      cases hq : ((((ByteArray.mk a.toArray)[k]'h2).toNat : Int) == 47) with
      | true =>
        have hl2 := hl.trans (lastIdx_hit h2 hq)
        have hq2 : (((ByteArray.mk a.toArray)[k]'h2).toNat : Int) = 47 := by simpa using hq
        go_wp2_with fail
        go_ret
        refine ⟨?_, hb⟩
        rw [cut_mk]
        unfold upL
        rw [hl2]
        simp
      | false =>
        have hl2 := hl.trans (lastIdx_miss h2 hq)
        have hw2 : IntKind.i64.wrap ((k : Int) - 1) = (k : Int) - 1 := by rw [IntKind.wrap_i64]; omega
        go_wp2_with fail
        go_roundw
        case rel => exact ⟨k, by omega, by first | rfl | go_num, hb, hl2⟩
        case measure => simp [intOf]

end Go.Proofs.Ytlbipmlbkcdmnaa
