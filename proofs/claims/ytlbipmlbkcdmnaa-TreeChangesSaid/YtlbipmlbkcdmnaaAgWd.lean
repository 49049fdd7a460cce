/-
  The walk of the law TreeParts.
-/
import Derived.Test.YtlbipmlbkcdmnaaAfWd
namespace Go.Proofs.Ytlbipmlbkcdmnaa
open Go.RowKit Go.Shelf

set_option maxRecDepth 100000 in
set_option maxHeartbeats 1000000 in
theorem parts_walk {A : Option Addr} {n c : Nat} {bs : List Int} {k : Int} (w : World) (h : Rd w .u8 A n bs) (hr : ∀ x ∈ bs, 0 ≤ x ∧ x < 256) (hn : n ≤ 9223372036854775807) (hk0 : 0 ≤ k) (hk : k < 256) :
    Calls Try.prog 7 #[.slice A n c, .int .u8 k] w fun e w' => e = .returned (.bool true) ∧ Below w.heap.size w w' := by
  have HT := tree_any (c := c) h hr hn
  have HP := fun w => path_any k w hk0 hk
  have hps := path_short k
  have hOnce := Once.tree bs
  have hlen := tree_len bs
  clear h hr
  generalize treeL bs = t at HT hOnce hlen
  generalize pathOf k = p at HP hps
  go_enter Try.func7, Try.ntmps7
  go_wp2_with fail
  refine HT.mono ?_
  rintro e w1 ⟨v, m, ns, rfl, ho, hL, hb1⟩
  obtain ⟨A1, c1, rfl⟩ := own_form ho
  obtain ⟨hm, hN⟩ := own_nodes ho
  have hnil := own_none ho
  have HMT := Lib.hid (show m = t.length by rw [hm]; exact hL.1)
  have HM := Lib.hid hm
  clear hm
  go_wp2_with fail
  refine (HP _).mono ?_
  rintro e w2 ⟨rfl, hb2⟩
  have hN2 := hN.below hb2
  have hL2 := hL.below hb2
  have hB2 := hb1.trans (hb2.mono hb1.size)
  have HB2 := Lib.hid hB2
  clear ho hN hL hb1 hb2 hB2
  have HBL : ∀ W, Below w2.heap.size w2 W → Calls Try.prog 34 #[.slice A1 m c1, .string ⟨p.toArray⟩] W fun e w' => ∃ A5 c5, e = .returned (.slice A5 (t.filter fun s => belowL s.path p).length c5) ∧ Below W.heap.size W w' := fun W hW =>
    (below_any p (by omega) (hN2.below hW) (hL2.below hW) HM.out (by have := HMT.out; omega) hnil).mono (by
      rintro e w' ⟨v5, m5, ms5, rfl, ho5, hL5, hb5⟩
      obtain ⟨A5, c5, rfl⟩ := own_form ho5
      obtain ⟨hm5, _⟩ := own_nodes ho5
      exact ⟨A5, c5, by rw [hm5, hL5.1], hb5⟩)
  have HRM : ∀ W, Below w2.heap.size w2 W → Calls Try.prog 28 #[.slice A1 m c1, .string ⟨p.toArray⟩] W fun e w' => ∃ A5 c5, e = .returned (.slice A5 (t.filter fun s => !(s.path == p || belowL s.path p)).length c5) ∧ Below W.heap.size W w' := fun W hW =>
    (remove_any p (by omega) (hN2.below hW) (hL2.below hW) HM.out (by have := HMT.out; omega) hnil).mono (by
      rintro e w' ⟨v5, m5, ms5, rfl, ho5, hL5, hb5⟩
      obtain ⟨A5, c5, rfl⟩ := own_form ho5
      obtain ⟨hm5, _⟩ := own_nodes ho5
      exact ⟨A5, c5, by rw [hm5, hL5.1], hb5⟩)
  have HFD : ∀ W, Below w2.heap.size w2 W → Calls Try.prog 35 #[.slice A1 m c1, .string ⟨p.toArray⟩] W fun e w' => ∃ y : Nd, e = .returned (.tuple #[.agg y.cells.toArray, .bool (findL t p).2]) ∧ Below W.heap.size W w' := fun W hW =>
    (find_any p (hN2.below hW) (hL2.below hW) HM.out (by have := HMT.out; omega)).mono (by
      rintro e w' ⟨y, rfl, _, hb5⟩
      exact ⟨y, rfl, hb5⟩)
  clear hN2 hL2 hnil
  by_cases hp : p = []
  · subst hp
    rw [all_below, ← HMT.out] at HBL
    go_wp2_with (first | (go_at_call 17; refine (known_any _).mono ?_; rintro e w3 ⟨rfl, hb3⟩) | (go_at_call 34; refine (HBL _ hb3).mono ?_; rintro e w4 ⟨A5, c5, rfl, hb4⟩))
    go_ret
    exact ⟨rfl, HB2.out.trans ((hb3.trans (hb4.mono hb3.size)).mono HB2.out.size)⟩
  · have he := emp hp
    have hpb : (p == []) = false := by simpa using hp
    have hpt := parts p hp hOnce
    rw [← HMT.out] at hpt
    have hm14 : m ≤ 14 := by have := HMT.out; omega
    have h1 : (t.filter fun s => belowL s.path p).length ≤ 14 := by omega
    have h2 : (t.filter fun s => !(s.path == p || belowL s.path p)).length ≤ 14 := by omega
    generalize (t.filter fun s => belowL s.path p).length = x1 at hpt h1 HBL
    generalize (t.filter fun s => !(s.path == p || belowL s.path p)).length = x2 at hpt h2 HRM
    clear hOnce hpb
    unfold Nd.cells at HFD
    cases hf : (findL t p).2 with
    | true =>
      rw [hf] at hpt HFD
      rw [if_pos rfl] at hpt
      have hq : ((x1 : Int) + 1 + (x2 : Int) == (m : Int)) = true := by simp; omega
      have HPT := Lib.hid hpt; clear hpt hf
      go_wp2_with (first
        | (go_at_call 35; refine (HFD _ (Below.refl _ _)).mono ?_; rintro e w3 ⟨y, rfl, hb3⟩)
        | (go_at_call 17; refine (known_any _).mono ?_; rintro e w4 ⟨rfl, hb4⟩; have hB4 := (hb3.alloc hb3.size _).trans (hb4.mono (by have := hb3.size; simp; omega)))
        | (go_at_call 34; refine (HBL _ hB4).mono ?_; rintro e w5 ⟨A5, c5, rfl, hb5⟩; have hB5 := hB4.trans (hb5.mono hB4.size))
        | (go_at_call 28; refine (HRM _ hB5).mono ?_; rintro e w6 ⟨A6, c6, rfl, hb6⟩; have hB6 := hB5.trans (hb6.mono hB5.size)))
      go_ret
      exact ⟨rfl, HB2.out.trans (hB6.mono HB2.out.size)⟩
    | false =>
      rw [hf] at hpt HFD
      rw [if_neg (by decide)] at hpt
      have hq : ((x1 : Int) + (x2 : Int) == (m : Int)) = true := by simp; omega
      have HPT := Lib.hid hpt; clear hpt hf
      go_wp2_with (first
        | (go_at_call 35; refine (HFD _ (Below.refl _ _)).mono ?_; rintro e w3 ⟨y, rfl, hb3⟩)
        | (go_at_call 17; refine (known_any _).mono ?_; rintro e w4 ⟨rfl, hb4⟩; have hB4 := (hb3.alloc hb3.size _).trans (hb4.mono (by have := hb3.size; simp; omega)))
        | (go_at_call 34; refine (HBL _ hB4).mono ?_; rintro e w5 ⟨A5, c5, rfl, hb5⟩; have hB5 := hB4.trans (hb5.mono hB4.size))
        | (go_at_call 28; refine (HRM _ hB5).mono ?_; rintro e w6 ⟨A6, c6, rfl, hb6⟩; have hB6 := hB5.trans (hb6.mono hB5.size)))
      go_ret
      exact ⟨rfl, HB2.out.trans (hB6.mono HB2.out.size)⟩

end Go.Proofs.Ytlbipmlbkcdmnaa
