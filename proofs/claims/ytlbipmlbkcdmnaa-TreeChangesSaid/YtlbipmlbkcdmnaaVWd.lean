/-
  The document's Find.
-/
import Derived.Test.YtlbipmlbkcdmnaaUWd
namespace Go.Proofs.Ytlbipmlbkcdmnaa
open Go.RowKit Go.Shelf

set_option maxRecDepth 100000 in
set_option maxHeartbeats 4000000 in
theorem refFind_any {w : World} {A : Option Addr} {n c : Nat} {ns : List Nd} {ss : List Sn} (s : List UInt8) (h : Nodes w A ns) (hL : Like w ns ss) (hl : n = ns.length) (hn : n ≤ 2199023255500) :
    Calls Try.prog 32 #[.slice A n c, .string ⟨s.toArray⟩] w fun e w' => ∃ y : Nd, e = .returned (.tuple #[.agg y.cells.toArray, .bool (findL ss s).2]) ∧ NdAt w' y (findL ss s).1 ∧ Below w.heap.size w w' := by
  have hk := heap_alloc_new w (.cells #[.string ⟨#[]⟩, .int .u8 0, .slice none 0 0, .string ⟨#[]⟩] 31)
  have hA : Below w.heap.size w (w.alloc (.cells #[.string ⟨#[]⟩, .int .u8 0, .slice none 0 0, .string ⟨#[]⟩] 31)) := (Below.refl _ w).alloc (Nat.le_refl _) _
  have hZ : ∀ W t, NdAt W ⟨[], t, none, 0, 0, []⟩ ⟨[], t, [], []⟩ := fun W t => ⟨rfl, rfl, rfl, ⟨rfl, fun j hj => absurd hj (Nat.not_lt_zero _)⟩, Nat.le_refl _, by simp⟩
  by_cases hs : s = []
  · subst hs
    have hk5 := heap_alloc_new w (.cells #[.string ⟨#[]⟩, .int .u8 53, .slice none 0 0, .string ⟨#[]⟩] 31)
    obtain ⟨d0, d1, d2, d3⟩ := node_cells hk5
    clear h hL hl
    go_enter Try.func32, Try.ntmps32
    go_wp2_with fail
    refine bodyPost_ret (v := .tuple #[.agg #[.string ⟨#[]⟩, .int .u8 53, .slice none 0 0, .string ⟨#[]⟩], .bool true]) ?_ rfl ⟨⟨[], 53, none, 0, 0, []⟩, rfl, hZ _ 53, (Below.refl _ w).alloc (Nat.le_refl _) _⟩
    simp [results, Try.f32, go_sem, d0, d1, d2, d3]
  · have hes : s.isEmpty = false := emp hs
    have HL := Lib.hid hl
    have HLK := Lib.hid hL
    have HN := h.below hA
    clear h hL hl
    go_enter Try.func32, Try.ntmps32
    go_wp2_with fail
    go_loopw [6, 10, 11, 12, 13, 14, 15, 16, 17, 18, 19, 20, 21, 22] (fun i _ _ _ _ _ _ _ _ _ _ _ _ _ wr => ∃ k : Nat, k ≤ n ∧ i = .int .i64 k ∧ wr = w.alloc (.cells #[.string ⟨#[]⟩, .int .u8 0, .slice none 0 0, .string ⟨#[]⟩] 31) ∧ ∀ (j : Nat) (x : Nd), j < k → ns[j]? = some x → (x.path == s) = false)
      (fun i _ _ _ _ _ _ _ _ _ _ _ _ _ _ => n - (intOf i).toNat)
    case atStart => exact ⟨0, Nat.zero_le _, rfl, rfl, fun j x hj => absurd hj (Nat.not_lt_zero _)⟩
    case round =>
      obtain ⟨k, hkn, rfl, rfl, hf⟩ := hrel
      by_cases hlt : k < n
      · have hkz : (k : Int) < (n : Int) := by omega
        obtain ⟨x, hx⟩ : ∃ x, ns[k]? = some x := ⟨_, List.getElem?_eq_getElem (by have := HL.out; omega)⟩
        rcases HN with rfl | ⟨b, off, rfl, hbl, hc⟩
        · simp at hx
        obtain ⟨y0, y1, y2, y3⟩ := hc k x hx
        clear hc
        have HF := Lib.hid hf; clear hf
        have HX := Lib.hid hx; clear hx
        cases hq : (x.path == s) with
        | true =>
          have hfi : Idx (fun x => x.path == s) ns (k : Int) := .inr ⟨k, rfl, ⟨x, HX.out, hq⟩, HF.out⟩
          obtain ⟨t, hxt, hfd⟩ : ∃ t, NdAt w x t ∧ findL ss s = (t, true) := by
            rcases idx_find HLK.out hfi with ⟨h1, _⟩ | ⟨k', x', t, h1, h2, h3, h4⟩
            · omega
            · obtain rfl : k' = k := by omega
              cases HX.out.symm.trans h2
              exact ⟨t, h3, by unfold findL; rw [if_neg hs, h4]⟩
          clear hfi
          have hq2 : s = x.path := (show x.path = s by simpa using hq).symm
          clear hq HF
          subst hq2
          have hk5 := heap_alloc_new w (.cells #[.string ⟨x.path.toArray⟩, .int .u8 x.kind, .slice x.adr x.len x.cap, .string ⟨x.link.toArray⟩] 31)
          obtain ⟨d0, d1, d2, d3⟩ := node_cells hk5
          have hq3 : (x.path == x.path) = true := by simp
          go_wp2_with fail
          rw [hfd]
          have hB2 : Below w.heap.size w (w.alloc (.cells #[.string ⟨x.path.toArray⟩, .int .u8 x.kind, .slice x.adr x.len x.cap, .string ⟨x.link.toArray⟩] 31)) := (Below.refl _ w).alloc (Nat.le_refl _) _
          refine bodyPost_ret (v := .tuple #[.agg #[.string ⟨x.path.toArray⟩, .int .u8 x.kind, .slice x.adr x.len x.cap, .string ⟨x.link.toArray⟩], .bool true]) ?_ rfl ⟨x, rfl, hxt.below hB2, hB2⟩
          simp [results, Try.f32, go_sem, d0, d1, d2, d3]
        | false =>
          have hq2 : ¬ x.path = s := by simpa using hq
          have HQ := Lib.hid hq
          go_wp2_with fail
          go_roundw
          case rel =>
            refine ⟨k + 1, by omega, by go_num, by first | rfl | trivial, fun j y hj hy => ?_⟩
            by_cases hjk : j = k
            · subst hjk
              cases HX.out.symm.trans hy
              exact HQ.out
            · exact HF.out j y (by omega) hy
          case measure => simp [intOf]; omega
      · obtain rfl : k = n := by omega
        go_wp2_with fail
        have hfd : findL ss s = (⟨[], 0, [], []⟩, false) := by
          have hfi : Idx (fun x => x.path == s) ns (-1) := .inl ⟨rfl, fun j x hx => hf j x (by have := (List.getElem?_eq_some_iff.1 hx).1; rw [HL.out]; exact this) hx⟩
          rcases idx_find HLK.out hfi with ⟨_, h1⟩ | ⟨k', x', t, h1, _⟩
          · unfold findL; rw [if_neg hs, h1]
          · omega
        rw [hfd]
        obtain ⟨d0, d1, d2, d3⟩ := node_cells hk
        refine bodyPost_ret (v := .tuple #[.agg #[.string ⟨#[]⟩, .int .u8 0, .slice none 0 0, .string ⟨#[]⟩], .bool false]) ?_ rfl ⟨⟨[], 0, none, 0, 0, []⟩, rfl, hZ _ 0, hA⟩
        simp [results, Try.f32, go_sem, d0, d1, d2, d3]

end Go.Proofs.Ytlbipmlbkcdmnaa
