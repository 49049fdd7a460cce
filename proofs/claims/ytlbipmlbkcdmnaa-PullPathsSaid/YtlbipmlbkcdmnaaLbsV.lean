/-
  Where and Target: the law's walk, for texts as long as an argument may be.
-/
import Derived.Test.YtlbipmlbkcdmnaaBoV
namespace Go.Proofs.Ytlbipmlbkcdmnaa
open Go.RowKit Go.Shelf

set_option maxRecDepth 100000 in
set_option maxHeartbeats 4000000 in
theorem pullPaths_walk (a b c : List UInt8) {Ad Ae : Option Addr} {nd cd ne ce : Nat} {ds es : List Int} {k j : Int} (w : World) (ha : a.length ≤ 140737488355328) (hb : b.length ≤ 140737488355328) (hc : c.length ≤ 140737488355328)
    (hd : Rd w .u8 Ad nd ds) (hrd : ∀ x ∈ ds, 0 ≤ x ∧ x < 256) (hnd : nd ≤ 9223372036854775807) (he : Rd w .u8 Ae ne es) (hre : ∀ x ∈ es, 0 ≤ x ∧ x < 256) (hne : ne ≤ 9223372036854775807) (hk0 : 0 ≤ k) (hk : k < 256) (hj0 : 0 ≤ j) (hj : j < 256) :
    Calls Try.prog 11 #[.string ⟨a.toArray⟩, .string ⟨b.toArray⟩, .string ⟨c.toArray⟩, .slice Ad nd cd, .slice Ae ne ce, .int .u8 k, .int .u8 j] w fun e w' => e = .returned (.bool true) ∧ Below w.heap.size w w' := by
  have HK := pullKnown
  have HD := fun W (hW : Below w.heap.size w W) => path02_any (c := cd) (hd.below hW) hrd hnd
  have HE := fun W (hW : Below w.heap.size w W) => path02_any (c := ce) (he.below hW) hre hne
  have HPk := fun w => path_any k w hk0 hk
  have HPj := fun w => path_any j w hj0 hj
  have hlk := path_short k
  have hlj := path_short j
  generalize pathOf k = r at HPk hlk
  generalize pathOf j = s at HPj hlj
  have hw1 : IntKind.i64.wrap ((a.length : Int) + (b.length : Int)) = (a.length : Int) + (b.length : Int) := by rw [IntKind.wrap_i64]; omega
  have hw2 : IntKind.i64.wrap ((a.length : Int) + (b.length : Int) + (c.length : Int)) = (a.length : Int) + (b.length : Int) + (c.length : Int) := by rw [IntKind.wrap_i64]; omega
  have HHD := Lib.hid HD
  have HHE := Lib.hid HE
  clear hd he HD HE
  by_cases hlong : a.length + b.length + c.length > 500
  · have hlz : (500 : Int) < (a.length : Int) + (b.length : Int) + (c.length : Int) := by omega
    go_enter Try.func11, Try.ntmps11
    go_wp2_with fail
    refine (HK _).mono ?_
    rintro e w1 ⟨rfl, hb1⟩
    go_wp2_with fail
    go_ret
    exact ⟨rfl, hb1⟩
  · have hlz : ¬ (500 : Int) < (a.length : Int) + (b.length : Int) + (c.length : Int) := by omega
    have hA := fun w => pathsAll_any a b c (by omega) (by omega) (by omega) w
    go_enter Try.func11, Try.ntmps11
    go_wp2_with fail
    refine (HK _).mono ?_
    rintro e w1 ⟨rfl, hb1⟩
    go_wp2_with fail
    refine (HHD.out _ hb1).mono ?_
    rintro e w2 ⟨p, rfl, hp, hb2⟩
    have HB2 := Lib.hid (hb1.trans (hb2.mono hb1.size))
    clear hb1 hb2
    go_wp2_with fail
    refine (HHE.out _ HB2.out).mono ?_
    rintro e w3 ⟨q, rfl, hq, hb3⟩
    have HB3 := Lib.hid (HB2.out.trans (hb3.mono HB2.out.size))
    clear hb3
    go_wp2_with fail
    refine (HPk _).mono ?_
    rintro e w4 ⟨rfl, hb4⟩
    go_wp2_with fail
    refine (HPj _).mono ?_
    rintro e w5 ⟨rfl, hb5⟩
    have HB5 := Lib.hid (HB3.out.trans ((hb4.trans (hb5.mono hb4.size)).mono HB3.out.size))
    clear hb4 hb5
    go_wp2_with fail
    refine (refJoin_any r s (by omega) (by omega) _).mono ?_
    rintro e w6 ⟨rfl, rfl⟩
    have hjl := joinL_len r s
    generalize joinL r s = t at hjl ⊢
    have h1 := fun w => pathsAll_any r t p (by omega) (by omega) (by omega) w
    have h2 := fun w => pathsAll_any r t q (by omega) (by omega) (by omega) w
    have h3 := fun w => pathsAll_any p q b (by omega) (by omega) (by omega) w
    have h4 := fun w => pathsAll_any r p q (by omega) (by omega) (by omega) w
    go_wp2_with fail
    refine (hA _).mono ?_
    rintro e w7 ⟨rfl, hb7⟩
    go_wp2_with fail
    refine (h1 _).mono ?_
    rintro e w8 ⟨rfl, hb8⟩
    go_wp2_with fail
    refine (h2 _).mono ?_
    rintro e w9 ⟨rfl, hb9⟩
    go_wp2_with fail
    refine (h3 _).mono ?_
    rintro e w10 ⟨rfl, hb10⟩
    go_wp2_with fail
    refine (h4 _).mono ?_
    rintro e w11 ⟨rfl, hb11⟩
    go_wp2_with fail
    go_ret
    exact ⟨rfl, HB5.out.trans ((hb7.trans ((hb8.trans ((hb9.trans ((hb10.trans (hb11.mono hb10.size)).mono hb9.size)).mono hb8.size)).mono hb7.size)).mono HB5.out.size)⟩

end Go.Proofs.Ytlbipmlbkcdmnaa
