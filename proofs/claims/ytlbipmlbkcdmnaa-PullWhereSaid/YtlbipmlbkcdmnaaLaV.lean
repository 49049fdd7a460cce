/-
  Where a member is laid: the law's walk.
-/
import Derived.Test.YtlbipmlbkcdmnaaBoV
import Derived.Test.YtlbipmlbkcdmnaaMerQ
namespace Go.Proofs.Ytlbipmlbkcdmnaa
open Go.RowKit Go.Shelf

set_option maxRecDepth 100000 in
set_option maxHeartbeats 4000000 in
theorem pullWhere_walk {A : Option Addr} {n c : Nat} {bs : List Int} {k : Int} (w : World) (h : Rd w .u8 A n bs) (hr : ∀ x ∈ bs, 0 ≤ x ∧ x < 256) (hn : n ≤ 9223372036854775807) (hk0 : 0 ≤ k) (hk : k < 256) :
    Calls Try.prog 14 #[.slice A n c, .int .u8 k] w fun e w' => e = .returned (.bool true) ∧ Below w.heap.size w w' := by
  have HP := fun w => path_any k w hk0 hk
  have hps := path_short k
  have HK := pullKnown
  have HQ := fun W (hW : Below w.heap.size w W) => path02_any (c := c) (h.below hW) hr hn
  have hwp := fun n => @where_path k n
  generalize pathOf k = r at HP hps hwp
  go_enter Try.func14, Try.ntmps14
  go_wp2_with fail
  refine (HP _).mono ?_
  rintro e w1 ⟨rfl, hb1⟩
  go_wp2_with fail
  refine (HQ _ hb1).mono ?_
  rintro e w2 ⟨p, rfl, hpl, hb2⟩
  have HB2 := Lib.hid (hb1.trans (hb2.mono hb1.size))
  have H1 := fun w => where_any r p (by omega) (by omega) w
  have H2 := fun w => where_any r ([47] ++ p) (by omega) (by simp; omega) w
  have H3 := fun w => where_any r (p ++ [47, 46, 46]) (by omega) (by simp; omega) w
  have H4 := fun w => where_any r ([46, 46, 47] ++ p) (by omega) (by simp; omega) w
  rw [where_abs] at H2
  rw [where_last] at H3
  rw [where_first] at H4
  have hno := @where_none r p
  have hyes := hwp p
  have hwl := where_len r p
  generalize whereV r p = wv at H1 hno hyes hwl
  obtain ⟨q, ok⟩ := wv
  generalize (whereV r ([47] ++ p)).1 = q2 at H2
  generalize (whereV r (p ++ [47, 46, 46])).1 = q3 at H3
  generalize (whereV r ([46, 46, 47] ++ p)).1 = q4 at H4
  dsimp only at H1 hno hyes hwl
  simp only [← cat_mk] at H2 H3 H4
  have HCQ := fun w => refClean_any q (by omega) w
  have HU := fun w => under_any q r (by omega) w
  clear hb1 hb2 HQ HP hwp
  go_wp2_with fail
  refine (H1 _).mono ?_
  rintro e w3 ⟨rfl, hb3⟩
  go_wp2_with fail
  refine (H2 _).mono ?_
  rintro e w4 ⟨rfl, hb4⟩
  go_wp2_with fail
  refine (H3 _).mono ?_
  rintro e w5 ⟨rfl, hb5⟩
  go_wp2_with fail
  refine (H4 _).mono ?_
  rintro e w6 ⟨rfl, hb6⟩
  have HB6 := Lib.hid (HB2.out.trans ((hb3.trans ((hb4.trans ((hb5.trans (hb6.mono hb5.size)).mono hb4.size)).mono hb3.size)).mono HB2.out.size))
  clear H1 H2 H3 H4 hb3 hb4 hb5 hb6
  cases ok with
  | false =>
    obtain rfl := hno rfl
    clear hno hyes
    go_wp2_with fail
    refine (HK _).mono ?_
    rintro e w7 ⟨rfl, hb7⟩
    go_wp2_with fail
    go_ret
    exact ⟨rfl, HB6.out.trans (hb7.mono HB6.out.size)⟩
  | true =>
    obtain ⟨hc, hne, hu⟩ := hyes rfl
    rw [hc] at HCQ
    rw [hu] at HU
    have hnb : (q == r) = false := by simpa using hne
    have hqq : (q == q) = true := by simp
    clear hno hyes hc hu
    go_wp2_with fail
    refine (HCQ _).mono ?_
    rintro e w7 ⟨rfl, hb7⟩
    go_wp2_with fail
    refine (HK _).mono ?_
    rintro e w8 ⟨rfl, hb8⟩
    have HB8 := Lib.hid (HB6.out.trans ((hb7.trans (hb8.mono hb7.size)).mono HB6.out.size))
    clear hb7 hb8 HCQ
    go_wp2_with fail
    refine (HU _).mono ?_
    rintro e w9 ⟨rfl, rfl⟩
    go_wp2_with fail
    go_ret
    exact ⟨rfl, HB8.out⟩

end Go.Proofs.Ytlbipmlbkcdmnaa
