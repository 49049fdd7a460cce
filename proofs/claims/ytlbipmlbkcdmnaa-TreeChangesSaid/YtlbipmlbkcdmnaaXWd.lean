/-
  Whether two trees are one: true where both read alike.
-/
import Derived.Test.YtlbipmlbkcdmnaaWWd
import Derived.Test.YtlbipmlbkcdmnaaOWd
namespace Go.Proofs.Ytlbipmlbkcdmnaa
open Go.RowKit Go.Shelf

set_option maxRecDepth 100000 in
set_option maxHeartbeats 4000000 in
theorem sameAll_any {w : World} {A A' : Option Addr} {n c c' : Nat} {ns ms : List Nd} {ss : List Sn} (h : Nodes w A ns) (hL : Like w ns ss) (hl : n = ns.length) (h' : Nodes w A' ms) (hL' : Like w ms ss) (hn : n ≤ 2199023255500) :
    Calls Try.prog 25 #[.slice A n c, .slice A' n c'] w fun e w' => e = .returned (.bool true) ∧ Below w.heap.size w w' := by
  have HL := Lib.hid hl; clear hl
  go_enter Try.func25, Try.ntmps25
  go_wp2_with fail
  go_loopw [5, 11, 12, 13, 14, 15, 16, 17, 18, 19, 20, 21, 22, 23, 24, 25, 26] (fun i _ _ _ _ _ _ _ _ _ _ _ _ _ _ _ _ wr => ∃ k : Nat, k ≤ n ∧ i = .int .i64 k ∧ Below w.heap.size w wr)
    (fun i _ _ _ _ _ _ _ _ _ _ _ _ _ _ _ _ _ => n - (intOf i).toNat)
  case atStart => exact ⟨0, Nat.zero_le _, rfl, Below.refl _ _⟩
  case round =>
    obtain ⟨k, hk, rfl, hb⟩ := hrel
    by_cases hlt : k < n
    · have hkz : (k : Int) < (n : Int) := by omega
      obtain ⟨x, hx⟩ : ∃ x, ns[k]? = some x := ⟨_, List.getElem?_eq_getElem (by have := HL.out; omega)⟩
      obtain ⟨y, hy⟩ : ∃ y, ms[k]? = some y := ⟨_, List.getElem?_eq_getElem (by have := HL.out; have := hL.1; have := hL'.1; omega)⟩
      obtain ⟨t, ht⟩ : ∃ t, ss[k]? = some t := ⟨_, List.getElem?_eq_getElem (by have := HL.out; have := hL.1; omega)⟩
      have hxt := (hL.2 k x t hx ht).below hb
      have hyt := (hL'.2 k y t hy ht).below hb
      rcases h.below hb with rfl | ⟨b, off, rfl, hbl, hc⟩
      · simp at hx
      rcases h'.below hb with rfl | ⟨b', off', rfl, hbl', hc'⟩
      · simp at hy
      obtain ⟨x0, x1, x2, x3⟩ := hc k x hx
      obtain ⟨y0, y1, y2, y3⟩ := hc' k y hy
      clear hc hc' h h' hL hL' hx hy ht
      have HB := Lib.hid hb; clear hb
      go_wp2_with fail
      refine wp_region_ordV [0, 1, 2, 3, 4, 5, 6, 7, 8, 9] [8] (by kernel_rfl) (by kernel_rfl) (by kernel_rfl) (fun d _ _ _ _ h => by cases d <;> exact h) (by kernel_rfl) ?_
      intro WG hWG hBG
      have gl : ∀ {a : Addr} {v : Value}, a.block < wr.heap.size → wr.cell? a = some v → ∀ W, Below WG.heap.size WG W → W.cell? a = some v := fun {a v} hl hc W hW => (hW.cell (by rw [hWG]; exact hl)).trans ((hBG.cell hl).trans hc)
      have u0 := gl (a := ⟨b, off + k * 4, none⟩) hbl x0
      have u1 := gl (a := ⟨b, off + k * 4 + 1, none⟩) hbl x1
      have u2 := gl (a := ⟨b, off + k * 4 + 2, none⟩) hbl x2
      have u3 := gl (a := ⟨b, off + k * 4 + 3, none⟩) hbl x3
      have v0 := gl (a := ⟨b', off' + k * 4, none⟩) hbl' y0
      have v1 := gl (a := ⟨b', off' + k * 4 + 1, none⟩) hbl' y1
      have v2 := gl (a := ⟨b', off' + k * 4 + 2, none⟩) hbl' y2
      have v3 := gl (a := ⟨b', off' + k * 4 + 3, none⟩) hbl' y3
      have HG := Lib.hid (HB.out.trans (hBG.mono HB.out.size))
      have HS := same_any x y t WG (hxt.below hBG) (hyt.below hBG)
      clear gl hBG hWG hxt hyt x0 x1 x2 x3 y0 y1 y2 y3
      unfold Nd.cells at HS
      repeat (first | (refine wpOrd_take (v := ?_) rfl rfl rfl (fun W hW => ?_) ?_; rotate_left; (focus (go_simp; with_reducible rfl)); simp only [Act.put, List.setIfInBounds_toArray, List.set_cons_succ, List.set_cons_zero]) | (refine wpOrd_skip rfl rfl ?_; simp only [Act.put, List.setIfInBounds_toArray, List.set_cons_succ, List.set_cons_zero]))
      refine wpOrd_call rfl rfl rfl ?_
      go_simp
      refine HS.mono ?_
      rintro e w5 ⟨rfl, hb5⟩
      refine ⟨hb5, ?_⟩
      repeat (first | (refine wpOrd_take (v := ?_) rfl rfl rfl (fun W hW => ?_) ?_; rotate_left; (focus (go_simp; with_reducible rfl)); simp only [Act.put, List.setIfInBounds_toArray, List.set_cons_succ, List.set_cons_zero]) | (refine wpOrd_skip rfl rfl ?_; simp only [Act.put, List.setIfInBounds_toArray, List.set_cons_succ, List.set_cons_zero]))
      refine wpOrd_nil ?_
      go_wp2_with fail
      go_roundw
      case rel => exact ⟨k + 1, by omega, by go_num, HG.out.trans (hb5.mono HG.out.size)⟩
      case measure => simp [intOf]; omega
    · obtain rfl : k = n := by omega
      go_wp2_with fail
      go_ret
      exact ⟨rfl, hb⟩

end Go.Proofs.Ytlbipmlbkcdmnaa
