/-
  Paths: what Join, Up, Under and Path answer.
-/
import Derived.Test.YtlbipmlbkcdmnaaRows
import Derived.Test.YtlbipmlbkcdmnaaShelf
import Derived.WalkKit
import Derived.Lib.Hide
import Derived.Lib.SliceRun
import Derived.BigQuiet
namespace Go.Proofs.Ytlbipmlbkcdmnaa
open Go.RowKit

/-- Two paths. -/
def joinL (a b : List UInt8) : List UInt8 := if a = [] then b else if b = [] then a else a ++ 47 :: b

theorem cat_mk (a b : List UInt8) : (ByteArray.mk a.toArray) ++ (ByteArray.mk b.toArray) = ⟨(a ++ b).toArray⟩ := by
  apply ByteArray.ext
  simp [ByteArray.data_append]

theorem cut_mk (a : List UInt8) (i j : Nat) : (ByteArray.mk a.toArray).extract i j = ⟨((a.drop i).take (j - i)).toArray⟩ := by
  apply ByteArray.ext
  simp [ByteArray.data_extract]

theorem emp {a : List UInt8} (h : a ≠ []) : a.isEmpty = false := by cases a <;> simp_all

set_option maxHeartbeats 400000 in
theorem join_any (a b : List UInt8) (ha : a.length ≤ 4000000000000) (hb : b.length ≤ 4000000000000) (w : World) : Calls Try.prog 16 #[.string ⟨a.toArray⟩, .string ⟨b.toArray⟩] w fun e w' =>
    e = .returned (.string ⟨(joinL a b).toArray⟩) ∧ w' = w := by
  by_cases h : a = []
  · subst h
    go_enter Try.func16, Try.ntmps16
    go_wp2_with fail
    go_ret
    exact ⟨by simp [joinL], rfl⟩
  · have e1 := emp h
    by_cases h2 : b = []
    · subst h2
      go_enter Try.func16, Try.ntmps16
      go_wp2_with fail
      go_ret
      exact ⟨by simp [joinL], rfl⟩
    · have e2 := emp h2
      go_enter Try.func16, Try.ntmps16
      go_wp2_with fail
      go_ret
      exact ⟨by rw [cat_mk a [47], cat_mk]; simp [joinL, h, h2], rfl⟩

/-- Ahead of the last name. -/
def upL (a : List UInt8) : List UInt8 := a.take (max (Lib.lastIndexByte ⟨a.toArray⟩ 47) 0).toNat

theorem last_le (a : ByteArray) : Lib.lastIndexByte a 47 ≤ a.size := by
  rcases Lib.lastIdx_spec a 47 a.size with ⟨h, _⟩ | ⟨i, hi, h, _⟩
  · show Lib.lastIdx a 47 a.size ≤ _; omega
  · show Lib.lastIdx a 47 a.size ≤ _; omega

set_option maxHeartbeats 400000 in
theorem up_any (a : List UInt8) (ha : a.length ≤ 4000000000000) (w : World) : Calls Try.prog 19 #[.string ⟨a.toArray⟩] w fun e w' =>
    e = .returned (.string ⟨(upL a).toArray⟩) ∧ w' = w := by
  have hl := last_le ⟨a.toArray⟩
  have hz : (ByteArray.mk a.toArray).size = a.length := rfl
  rw [hz] at hl
  have h47 : ((({ data := #[47] } : ByteArray)[0]'(by decide)).toNat : Int) = 47 := by decide
  have hb : 0 ≤ max (Lib.lastIndexByte ⟨a.toArray⟩ 47) 0 ∧ max (Lib.lastIndexByte ⟨a.toArray⟩ 47) 0 ≤ (a.length : Int) := by omega
  have hd : upL a = a.take (max (Lib.lastIndexByte ⟨a.toArray⟩ 47) 0).toNat := rfl
  generalize hz0 : Lib.lastIndexByte ⟨a.toArray⟩ 47 = z at hl hb hd
  have HL : ∀ w : World, Calls Try.prog 44 #[.string ⟨a.toArray⟩, .string ⟨#[47]⟩] w fun e w' => e = .returned (.int .i64 z) ∧ w' = w := by
    intro w
    refine (Try.strings_LastIndex_one ⟨a.toArray⟩ ⟨#[47]⟩ rfl (by rw [hz]; omega) w).mono ?_
    rintro e w' ⟨rfl, rfl⟩
    rw [h47, hz0]
    exact ⟨rfl, rfl⟩
  clear hz0
  go_enter Try.func19, Try.ntmps19
  go_wp2_with (go_at_call 44; refine (HL w).mono ?_; rintro e w' ⟨rfl, rfl⟩)
  go_ret
  exact ⟨by rw [hd, cut_mk]; simp, rfl⟩

def pathsL : List (List UInt8) := [[97], [97, 47, 98], [97, 47, 98, 47, 99], [100], [97, 46, 98], [100, 47, 101], [97, 98], []]
def pathOf (k : Int) : List UInt8 := pathsL.getD (k % 8).toNat []

set_option maxHeartbeats 1000000 in
theorem path_any (k : Int) (w : World) (hk : 0 ≤ k) (hk2 : k < 256) : Calls Try.prog 15 #[.int .u8 k] w fun e w' =>
    e = .returned (.string ⟨(pathOf k).toArray⟩) ∧ Below w.heap.size w w' := by
  have h8 : k % 8 = 0 ∨ k % 8 = 1 ∨ k % 8 = 2 ∨ k % 8 = 3 ∨ k % 8 = 4 ∨ k % 8 = 5 ∨ k % 8 = 6 ∨ k % 8 = 7 := by omega
  go_enter Try.func15, Try.ntmps15
  rcases h8 with h | h | h | h | h | h | h | h <;> (go_wp2_with fail; go_ret; exact ⟨by rw [pathOf, h]; rfl, (Below.refl _ _).alloc (Nat.le_refl _) _⟩)

/-- Is one below another? -/
def underL (a b : List UInt8) : Bool := b.isEmpty || (decide (b.length < a.length) && a.take (b.length + 1) == b ++ [47])

set_option maxHeartbeats 1000000 in
theorem under_any (a b : List UInt8) (hb : b.length ≤ 4000000000000) (w : World) : Calls Try.prog 18 #[.string ⟨a.toArray⟩, .string ⟨b.toArray⟩] w fun e w' =>
    e = .returned (.bool (underL a b)) ∧ w' = w := by
  by_cases h : b = []
  · subst h
    go_enter Try.func18, Try.ntmps18
    go_wp2_with fail
    go_ret
    exact ⟨rfl, rfl⟩
  · have e1 := emp h
    by_cases hl : b.length < a.length
    · go_enter Try.func18, Try.ntmps18
      go_wp2_with fail
      go_ret
      refine ⟨?_, rfl⟩
      rw [cat_mk b [47], cut_mk]
      simp [underL, hl, h]
    · go_enter Try.func18, Try.ntmps18
      go_wp2_with fail
      go_ret
      refine ⟨?_, rfl⟩
      simp [underL, hl, e1]

/-- Round the first slash. -/
def cutL (a : List UInt8) : List UInt8 × List UInt8 × Bool :=
  if Lib.indexByte a 47 < 0 then (a, [], false) else (a.take (Lib.indexByte a 47).toNat, a.drop (Lib.indexByte a 47 + 1).toNat, true)

theorem index_lt : ∀ a : List UInt8, Lib.indexByte a 47 < 0 ∨ Lib.indexByte a 47 < a.length
  | [] => .inl (by decide)
  | b :: l => by
    have := index_lt l
    have hg := Lib.indexByte_ge l 47
    unfold Lib.indexByte
    split
    · right; simp
    · split
      · left; decide
      · right
        rename_i h
        simp at h
        simp
        omega

set_option maxHeartbeats 1000000 in
theorem cut1_any (a : List UInt8) (ha : a.length ≤ 4000000000000) (w : World) : Calls Try.prog 100 #[.string ⟨a.toArray⟩, .string ⟨#[47]⟩] w fun e w' =>
    e = .returned (.tuple #[.string ⟨(cutL a).1.toArray⟩, .string ⟨(cutL a).2.1.toArray⟩, .bool (cutL a).2.2]) ∧ Below w.heap.size w w' := by
  have hl := index_lt a
  have hg := Lib.indexByte_ge a 47
  have hd : cutL a = if Lib.indexByte a 47 < 0 then (a, [], false) else (a.take (Lib.indexByte a 47).toNat, a.drop (Lib.indexByte a 47 + 1).toNat, true) := rfl
  have HL : ∀ w : World, Calls Try.prog 104 #[.string ⟨a.toArray⟩, .string ⟨#[47]⟩] w fun e w' => e = .returned (.int .i64 (Lib.indexByte a 47)) ∧ w' = w :=
    fun w => Try.stringslite_Index_one ⟨a.toArray⟩ 47 w
  generalize Lib.indexByte a 47 = z at hl hg hd HL
  rw [hd]
  by_cases hz : z < 0
  · rw [if_pos hz]
    have hz2 : ¬ (0 ≤ z) := by omega
    clear hl hg hd
    go_enter Try.func100, Try.ntmps100
    go_wp2_with (go_at_call 104; refine (HL w).mono ?_; rintro e w' ⟨rfl, rfl⟩)
    go_ret3
    exact ⟨rfl, Below.refl _ _⟩
  · rw [if_neg hz]
    have hz2 : 0 ≤ z := by omega
    have hz3 : z < a.length := by omega
    have hw : IntKind.i64.wrap (z + 1) = z + 1 := by rw [IntKind.wrap_i64]; omega
    have hz4 : 0 ≤ z ∧ z ≤ (a.length : Int) := by omega
    have hz5 : 0 ≤ z + 1 ∧ z + 1 ≤ (a.length : Int) := by omega
    clear hl hg hd
    go_enter Try.func100, Try.ntmps100
    go_wp2_with (go_at_call 104; refine (HL w).mono ?_; rintro e w' ⟨rfl, rfl⟩)
    go_quiet (fail)
    go_wp2_with fail
    go_ret3
    refine ⟨?_, ⟨rfl, rfl, rfl, Nat.le_refl _, fun _ _ => rfl⟩⟩
    rw [cut_mk, cut_mk]
    simp
    rw [List.take_of_length_le (by simp)]

set_option maxHeartbeats 1000000 in
theorem cut_any (a : List UInt8) (ha : a.length ≤ 4000000000000) (w : World) : Calls Try.prog 91 #[.string ⟨a.toArray⟩, .string ⟨#[47]⟩] w fun e w' =>
    e = .returned (.tuple #[.string ⟨(cutL a).1.toArray⟩, .string ⟨(cutL a).2.1.toArray⟩, .bool (cutL a).2.2]) ∧ Below w.heap.size w w' := by
  go_enter Try.func91, Try.ntmps91
  go_wp2_with (go_at_call 100; refine (cut1_any a ha w).mono ?_; rintro e w1 ⟨rfl, hb⟩)
  go_ret3
  exact ⟨rfl, hb⟩
end Go.Proofs.Ytlbipmlbkcdmnaa
