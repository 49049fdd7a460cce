/-
  What is asked of a tree, in both words; a path of choices.
-/
import Derived.Test.YtlbipmlbkcdmnaaAr
namespace Go.Proofs.Ytlbipmlbkcdmnaa
open Go.RowKit Go.Shelf

set_option maxRecDepth 100000 in
set_option maxHeartbeats 4000000 in
theorem path02_any {w : World} {A : Option Addr} {n c : Nat} {bs : List Int} (h : Rd w .u8 A n bs) (hr : ∀ x ∈ bs, 0 ≤ x ∧ x < 256) (hn : n ≤ 9223372036854775807) :
    Calls Try.prog 20 #[.slice A n c] w fun e w' => ∃ p : List UInt8, e = .returned (.string ⟨p.toArray⟩) ∧ p.length ≤ 100 ∧ Below w.heap.size w w' := by
  go_enter Try.func20, Try.ntmps20
  go_wp2_with fail
  go_loopw [3, 4, 5, 6, 7, 8, 9, 10, 11, 12, 13, 14, 15, 16, 17, 18, 19, 20, 21, 22, 23, 24] (fun v3 v4 _ _ _ _ _ _ _ _ _ _ _ _ _ _ _ _ _ _ _ _ wr => ∃ (k : Nat) (p : List UInt8), k ≤ n ∧ k ≤ 12 ∧ v4 = .int .i64 k ∧ v3 = .string ⟨p.toArray⟩ ∧ p.length ≤ 3 * k ∧ Below w.heap.size w wr) (fun _ v4 _ _ _ _ _ _ _ _ _ _ _ _ _ _ _ _ _ _ _ _ _ => n - (intOf v4).toNat)
  case atStart => exact ⟨0, [], Nat.zero_le _, by omega, rfl, rfl, by simp, Below.refl _ _⟩
  case round =>
    obtain ⟨k, p, hk, hk12, rfl, rfl, hpl, hb⟩ := hrel
    by_cases hlt : k < n
    · have hkz : (k : Int) < (n : Int) := by omega
      by_cases h12 : k < 12
      · have h12z : (k : Int) < 12 := by omega
        obtain ⟨ad, rfl, hck⟩ := h.2 k hlt
        obtain ⟨x, hx⟩ : ∃ x, bs[k]? = some x := ⟨_, List.getElem?_eq_getElem (by have := h.1; omega)⟩
        have hgd : bs.getD k 0 = x := by simp [hx]
        rw [hgd] at hck
        obtain ⟨hx0, hx1⟩ := hr x (List.mem_of_getElem? hx)
        have hc1 := (hb.cell (World.block_lt_of_cell? w _ hck)).trans hck
        have hc2 := (((Below.refl _ wr).alloc (Nat.le_refl _) (.cells #[.string ⟨#[97]⟩, .string ⟨#[98]⟩, .string ⟨#[47]⟩, .string ⟨#[47]⟩, .string ⟨#[46]⟩, .string ⟨#[46, 46]⟩, .string ⟨#[100, 105, 114]⟩, .string ⟨#[47, 120]⟩, .string ⟨#[195, 169]⟩, .string ⟨#[10]⟩] 9)).cell (World.block_lt_of_cell? wr _ hc1)).trans hc1
        have ht : x.tmod 10 = x % 10 := Int.tmod_eq_emod_of_nonneg hx0
        have h10 : x % 10 = 0 ∨ x % 10 = 1 ∨ x % 10 = 2 ∨ x % 10 = 3 ∨ x % 10 = 4 ∨ x % 10 = 5 ∨ x % 10 = 6 ∨ x % 10 = 7 ∨ x % 10 = 8 ∨ x % 10 = 9 := by omega
        have e1 := fun (y : List UInt8) => cat_mk p y
        clear h hr hck hx hgd hx1
        rcases h10 with hq | hq | hq | hq | hq | hq | hq | hq | hq | hq
        all_goals
          rw [hq] at ht
          go_wp2_with fail
          go_roundw
          case rel => exact ⟨k + 1, _, by omega, by omega, by go_num, congrArg Value.string (e1 _), by simp; omega, hb.alloc hb.size _⟩
          case measure => simp [intOf]; omega
      · obtain rfl : k = 12 := by omega
        clear h hr
        go_wp2_with fail
        go_ret
        first | exact ⟨_, rfl, by omega, hb⟩ | exact ⟨p, rfl, by omega, hb⟩
    · obtain rfl : k = n := by omega
      clear h hr
      go_wp2_with fail
      go_ret
      first | exact ⟨_, rfl, by omega, hb⟩ | exact ⟨p, rfl, by omega, hb⟩

set_option maxRecDepth 100000 in
set_option maxHeartbeats 4000000 in
theorem asks_any {w : World} {v : Value} {ss : List Sn} (h : RowOf w v ss) (p : List UInt8) (hp : p.length ≤ 4000000000000) (hs : ss.length ≤ 1000000000 ∧ ∀ t ∈ ss, t.path.length ≤ 1000000000) :
    Calls Try.prog 23 #[v, .string ⟨p.toArray⟩] w fun e w' => e = .returned (.bool true) ∧ Below w.heap.size w w' := by
  have hSh : Short ss := ⟨by have := hs.1; omega, fun t ht => by have := hs.2 t ht; omega⟩
  have HR := Lib.hid h
  obtain ⟨A, c, ms, hv, _⟩ := h
  subst hv
  generalize ss.length = n at HR ⊢
  have hF1 := fun W (hW : Below w.heap.size w W) => find_row (HR.out.below hW) p hSh
  have hF2 := fun W (hW : Below w.heap.size w W) => refFind_row (HR.out.below hW) p hSh
  unfold Nd.cells at hF1 hF2
  generalize findL ss p = fd at hF1 hF2
  go_enter Try.func23, Try.ntmps23
  go_wp2_with fail
  refine (hF1 _ (Below.refl _ _)).mono ?_
  rintro e w1 ⟨y, rfl, hy, hb1⟩
  obtain ⟨w2, hw2⟩ : ∃ W, W = w1.alloc (.cells #[.string ⟨y.path.toArray⟩, .int .u8 y.kind, .slice y.adr y.len y.cap, .string ⟨y.link.toArray⟩] 31) := ⟨_, rfl⟩
  have hb12 : Below w1.heap.size w1 w2 := by rw [hw2]; exact (Below.refl _ _).alloc (Nat.le_refl _) _
  have hk2 : w2.heap[w1.heap.size]? = some (.cells #[.string ⟨y.path.toArray⟩, .int .u8 y.kind, .slice y.adr y.len y.cap, .string ⟨y.link.toArray⟩] 31 (0, 0)) := by rw [hw2]; exact heap_alloc_new _ _
  have hb2 := hb1.trans (hb12.mono hb1.size)
  have hy2 := hy.below hb12
  clear hb12 hy hb1
  go_wp2_with fail
  rw [← hw2]
  clear hw2
  refine (hF2 _ hb2).mono ?_
  rintro e w3 ⟨z, rfl, hz, hb3⟩
  obtain ⟨w4, hw4⟩ : ∃ W, W = w3.alloc (.cells #[.string ⟨z.path.toArray⟩, .int .u8 z.kind, .slice z.adr z.len z.cap, .string ⟨z.link.toArray⟩] 31) := ⟨_, rfl⟩
  have hb34 : Below w3.heap.size w3 w4 := by rw [hw4]; exact (Below.refl _ _).alloc (Nat.le_refl _) _
  have hk4 : w4.heap[w3.heap.size]? = some (.cells #[.string ⟨z.path.toArray⟩, .int .u8 z.kind, .slice z.adr z.len z.cap, .string ⟨z.link.toArray⟩] 31 (0, 0)) := by rw [hw4]; exact heap_alloc_new _ _
  have hb24 := hb3.trans (hb34.mono hb3.size)
  have hk2' := (hb24.block _ (Array.getElem?_eq_some_iff.1 hk2).1).trans hk2
  obtain ⟨a0, a1, a2, a3⟩ := node_cells hk2'
  obtain ⟨c0, c1, c2, c3⟩ := node_cells hk4
  have HSM := same_any y z fd.1 w4 (hy2.below hb24) (hz.below hb34)
  unfold Nd.cells at HSM
  have HB4 := Lib.hid (hb2.trans (hb24.mono hb2.size))
  have HR4 := Lib.hid (HR.out.below HB4.out)
  have hBL := fun W (hW : Below w4.heap.size w4 W) => below_row (HR4.out.below hW) p hp hSh
  have hRB := fun W (hW : Below w4.heap.size w4 W) => refBelow_row (HR4.out.below hW) p hp hSh
  have hRT := fun W (hW : Below w4.heap.size w4 W) => right_row (HR4.out.below hW) hSh
  have hRR := fun W (hW : Below w4.heap.size w4 W) => refRight_row (HR4.out.below hW) hs
  have hlen : (belowS p ss).length ≤ 1000000000000 := by have := (hSh.belows p).1; omega
  clear hk2 hk2' hk4 hy2 hz hb2 hb3 hb34 hb24 hF1 hF2 HR
  generalize belowS p ss = bp at hBL hRB hlen
  generalize rightS ss = RT at hRT hRR
  go_upto_region 3 with fail
  rw [← hw4]
  clear hw4
  go_wp2_with (first
    | (go_at_call 36; refine HSM.mono ?_; rintro e w5 ⟨rfl, hb5⟩)
    | (go_at_call 34; refine (hBL _ hb5).mono ?_; rintro e w6 ⟨v6, rfl, hr6, hb6⟩; have hb6' := hb5.trans (hb6.mono hb5.size))
    | (go_at_call 45; refine (hRB _ hb6').mono ?_; rintro e w7 ⟨v7, rfl, hr7, hb7⟩; have hb7' := hb6'.trans (hb7.mono hb6'.size))
    | (go_at_call 25; refine (same_row (hr6.below hb7) hr7 hlen).mono ?_; rintro e w8 ⟨rfl, hb8⟩; have hb8' := hb7'.trans (hb8.mono hb7'.size))
    | (go_at_call 31; refine (hRT _ hb8').mono ?_; rintro e w9 ⟨rfl, hb9⟩; have hb9' := hb8'.trans (hb9.mono hb8'.size))
    | (go_at_call 30; refine (hRR _ hb9').mono ?_; rintro e w10 ⟨rfl, hb10⟩))
  go_ret
  exact ⟨by simp, HB4.out.trans ((hb9'.trans (hb10.mono hb9'.size)).mono HB4.out.size)⟩

end Go.Proofs.Ytlbipmlbkcdmnaa
