/-
  The first node of which something is true.
-/
import Derived.Test.YtlbipmlbkcdmnaaMerA
import Derived.Shelf.GgClosure.Gives
namespace Go.Proofs.Ytlbipmlbkcdmnaa
open Go.RowKit Go.Shelf

/-- The first place at which p holds; below 0: there is none. -/
def Idx (p : Nd → Bool) (ns : List Nd) (i : Int) : Prop :=
  (i = -1 ∧ ∀ (j : Nat) (x : Nd), ns[j]? = some x → p x = false) ∨
  ∃ k : Nat, i = k ∧ (∃ x, ns[k]? = some x ∧ p x = true) ∧ ∀ (j : Nat) (x : Nd), j < k → ns[j]? = some x → p x = false

set_option maxRecDepth 100000 in
set_option maxHeartbeats 4000000 in
theorem index_any (g : Nat) (lb : Array Value) (eg : ∀ args w, (callFunc g args).run Try.prog w = .ok (.enter g args) w) (p : Nd → Bool) {w : World} {A : Option Addr} {n c : Nat} {ns : List Nd} (h : Nodes w A ns) (hl : n = ns.length) (hn : n ≤ 1000000000000)
    (hp : ∀ (W : World) (x : Nd), x ∈ ns → Below w.heap.size w W → Calls Try.prog g (#[.agg x.cells.toArray] ++ lb) W fun e w' => e = .returned (.bool (p x)) ∧ Below W.heap.size W w') :
    Calls Try.prog 50 #[.slice A n c, .func (.func g) #[] lb] w fun e w' => ∃ i, e = .returned (.int .i64 i) ∧ Idx p ns i ∧ Below w.heap.size w w' := by
  have HL := Lib.hid hl; clear hl
  go_enter Try.func50, Try.ntmps50
  go_wp2_with fail
  go_loopw [5, 8, 9, 10, 11, 12, 13, 14, 15, 16, 17, 18] (fun _ i _ _ _ _ _ _ _ _ _ _ wr => ∃ k : Nat, k ≤ n ∧ i = .int .i64 k ∧ Below w.heap.size w wr ∧ ∀ (j : Nat) (x : Nd), j < k → ns[j]? = some x → p x = false)
    (fun _ i _ _ _ _ _ _ _ _ _ _ _ => n - (intOf i).toNat)
  case atStart => exact ⟨0, Nat.zero_le _, rfl, Below.refl _ _, fun j x hj => absurd hj (Nat.not_lt_zero _)⟩
  case round =>
    obtain ⟨k, hk, rfl, hb, hf⟩ := hrel
    by_cases hlt : k < n
    · have hkz : (k : Int) < (n : Int) := by omega
      obtain ⟨x, hx⟩ : ∃ x, ns[k]? = some x := ⟨_, List.getElem?_eq_getElem (by have := HL.out; omega)⟩
      rcases h with rfl | ⟨b, off, rfl, hbl, hc⟩
      · simp at hx
      obtain ⟨x0, x1, x2, x3⟩ := hc k x hx
      have y0 := (hb.cell (p := ⟨b, off + k * 4, none⟩) hbl).trans x0
      have y1 := (hb.cell (p := ⟨b, off + k * 4 + 1, none⟩) hbl).trans x1
      have y2 := (hb.cell (p := ⟨b, off + k * 4 + 2, none⟩) hbl).trans x2
      have y3 := (hb.cell (p := ⟨b, off + k * 4 + 3, none⟩) hbl).trans x3
      have hcall := hp wr x (List.mem_of_getElem? hx) hb
      clear hp hc x0 x1 x2 x3
      have HF := Lib.hid hf; clear hf
      have HX := Lib.hid hx; clear hx
      have HB := Lib.hid hb; clear hb
      unfold Nd.cells at hcall
      cases hq : p x with
      | true =>
        rw [hq] at hcall
        have HQ := Lib.hid hq; clear hq
        go_wp2_with (go_at_fn g; refine hcall.mono ?_; rintro e w' ⟨rfl, hb'⟩)
        go_ret
        exact ⟨_, rfl, .inr ⟨k, rfl, ⟨x, HX.out, HQ.out⟩, HF.out⟩, HB.out.trans (hb'.mono HB.out.size)⟩
      | false =>
        rw [hq] at hcall
        have HQ := Lib.hid hq; clear hq
        go_wp2_with (go_at_fn g; refine hcall.mono ?_; rintro e w' ⟨rfl, hb'⟩)
        go_roundw
        case rel =>
          refine ⟨k + 1, by omega, by go_num, HB.out.trans (hb'.mono HB.out.size), fun j y hj hy => ?_⟩
          by_cases hjk : j = k
          · subst hjk
            have := HX.out.symm.trans hy
            cases this
            exact HQ.out
          · exact HF.out j y (by omega) hy
        case measure => simp [intOf]; omega
    · obtain rfl : k = n := by omega
      go_wp2_with fail
      go_ret
      refine ⟨_, rfl, .inl ⟨rfl, fun j x hx => hf j x ?_ hx⟩, hb⟩
      have := (List.getElem?_eq_some_iff.1 hx).1
      rw [HL.out]; exact this

end Go.Proofs.Ytlbipmlbkcdmnaa
