/-
  A path's names, one by one, and the path of them.
-/
import Derived.Test.YtlbipmlbkcdmnaaN
import Derived.Maps.AppendAt
namespace Go.Proofs.Ytlbipmlbkcdmnaa
open Go.RowKit Go.Shelf

attribute [local go_sem] Oper.semAt_some

theorem Try.info9 : (Try.prog.info? 9).map (fun i => (i.zero, i.size, i.bytes)) = some (some (.string ⟨#[]⟩), 1, 16) := by kernel_rfl

theorem split_length (s : List UInt8) : (splitL s).length ≤ s.length + 1 := by
  induction s with
  | nil => simp [splitL]
  | cons b r ih =>
    unfold splitL
    split
    · simp; omega
    · split
      · simp
      · rename_i h; rw [h] at ih; simp at ih ⊢; omega

theorem names_length (s : List UInt8) : (namesL s).length ≤ s.length + 1 :=
  Nat.le_trans (List.length_filter_le _ _) (split_length s)

def encS (x : List UInt8) : Value := .string ⟨x.toArray⟩

/-- A row of one's own stays where it is as long as no block from its base on is turned. -/
theorem own_stays {w w' : World} {base : Nat} {e : TypeId} {size n : Nat} {v : Value} {xs : List Value} (h : w.ownsRow base e size v n xs) (hk : ∀ k, base ≤ k → k < w.heap.size → w'.heap[k]? = w.heap[k]?) :
    w'.ownsRow base e size v n xs := by
  obtain ⟨h1, h2⟩ := h
  refine ⟨h1, ?_⟩
  rcases h2 with h2 | ⟨g, cap, cur, rfl, hb, hg, rest⟩
  · exact .inl h2
  · exact .inr ⟨g, cap, cur, rfl, hb, (hk g hb (Array.getElem?_eq_some_iff.1 hg).1).trans hg, rest⟩

theorem own_from {w : World} {base : Nat} {e : TypeId} {size n : Nat} {v : Value} {xs : List Value} (h : w.ownsRow base e size v n xs) : ∀ k, v.ownBlock = some k → base ≤ k := by
  intro k hk
  rcases h.2 with ⟨rfl, _⟩ | ⟨g, cap, cur, rfl, hb, _⟩
  · simp [Value.ownBlock] at hk
  · simp [Value.ownBlock] at hk; omega

theorem own_wider {w : World} {base base' : Nat} {e : TypeId} {size n : Nat} {v : Value} {xs : List Value} (h : w.ownsRow base e size v n xs) (hb : base' ≤ base) : w.ownsRow base' e size v n xs := by
  refine ⟨h.1, ?_⟩
  rcases h.2 with h2 | ⟨g, cap, cur, rfl, hg, rest⟩
  · exact .inl h2
  · exact .inr ⟨g, cap, cur, rfl, by omega, rest⟩

theorem own_form {w : World} {base : Nat} {e : TypeId} {size : Nat} {v : Value} {n : Nat} {xs : List Value} (h : w.ownsRow base e size v n xs) : ∃ A c, v = .slice A n c := by
  rcases h.2 with ⟨rfl, rfl⟩ | ⟨g, cap, cur, rfl, _⟩
  · exact ⟨none, 0, rfl⟩
  · exact ⟨_, cap, rfl⟩

set_option maxHeartbeats 400000 in
theorem names_any (s : List UInt8) (w : World) : Calls Try.prog 79 #[.string ⟨s.toArray⟩] w fun e w' =>
    e = .returned (.func (.func 90) #[] #[.pointer (some ⟨w.heap.size, 0, none⟩)]) ∧ w' = w.alloc (.cells #[.string ⟨s.toArray⟩] 9) := by
  go_enter Try.func79, Try.ntmps79
  go_wp2_with fail
  go_ret
  exact ⟨rfl, rfl⟩

set_option maxRecDepth 100000 in
set_option maxHeartbeats 4000000 in
theorem split_any (s : List UInt8) (hs : s.length ≤ 4000000000000) (w : World) : Calls Try.prog 78 #[.string ⟨s.toArray⟩] w fun e w' =>
    ∃ v, e = .returned v ∧ w'.ownsRow w.heap.size 9 1 v (namesL s).length ((namesL s).map encS) ∧ Below w.heap.size w w' := by
  refine (callsIn_wide (n := 3)).1 ?_
  refine callsIn_of_wp_marks Try.func78 rfl trivial ?_ rfl
  simp only [Try.ntmps78, List.size_toArray, List.length_cons, List.length_nil, Nat.reduceAdd, Nat.reduceSub, Array.replicate_succ, Array.replicate_zero, List.push_toArray, List.append_toArray, List.nil_append, List.cons_append]
  gi_wp2_with (refine ⟨trivial, ?_⟩; gi_at_call 79; refine (callsIn_wide.2 (names_any _ _)).mono ?_; rintro e w' ⟨rfl, rfl⟩)
  obtain ⟨w2, hw2⟩ : ∃ w2, (w.alloc (.cells #[.slice none 0 0] 71)).alloc (.cells #[.string ⟨s.toArray⟩] 9) = w2 := ⟨_, rfl⟩
  have z2 : w2.heap.size = w.heap.size + 2 := by rw [← hw2]; simp
  have k1 : w2.heap[w.heap.size]? = some (.cells #[.slice none 0 0] 71 (0, 0)) := by
    rw [← hw2, Below.heap_alloc _ _ _ (by simp)]; exact World.alloc_heap_new w _
  have k2 : w2.heap[w.heap.size + 1]? = some (.cells #[.string ⟨s.toArray⟩] 9 (0, 0)) := by
    have := World.alloc_heap_new (w.alloc (.cells #[.slice none 0 0] 71)) (.cells #[.string ⟨s.toArray⟩] 9)
    rwa [World.size_alloc, hw2] at this
  have hB0 : Below w.heap.size w w2 := by
    rw [← hw2]; exact ((Below.refl _ w).alloc (Nat.le_refl _) _).alloc (by simp) _
  rw [hw2]
  have hG := names_gives (w.heap.size + 1) s hs
  rw [← k2] at hG
  refine range_cell (F := Fence.wide) (n := 3) rfl (by omega) (gf := 90) (lb := #[.pointer (some ⟨w.heap.size + 1, 0, none⟩)]) rfl trivial (enters_of Try.func90 (by kernel_rfl) rfl) (fun _ => rfl) (by omega) hG
    (fun pre W => (∃ v, W.heap[w.heap.size]? = some (.cells #[v] 71 (0, 0)) ∧ W.ownsRow (w.heap.size + 4) 9 1 v pre.length (pre.map encS)) ∧ Below w.heap.size w W)
    (fun _ _ _ => False) ?_ (fun _ _ _ _ h _ => h) ⟨⟨_, k1, World.ownsRow_nil _ _ _ _⟩, hB0⟩
    (fun x => { tmps := #[.string ⟨s.toArray⟩, undef, .slice none 0 0, .pointer (some ⟨w.heap.size, 0, none⟩), .string ⟨x.toArray⟩, .string ⟨s.toArray⟩, .func (.func 90) #[] #[.pointer (some ⟨w.heap.size + 1, 0, none⟩)], .string ⟨x.toArray⟩, undef, undef, undef, undef, undef], defers := [] }) ?assign ?body ?done ?stop
  · rintro pre A B ⟨⟨v, e1, e2⟩, hb⟩ ho
    have hlt := (Array.getElem?_eq_some_iff.1 e1).1
    exact ⟨⟨v, (ho.block _ hlt (by omega)).trans e1, own_stays e2 fun k h1 h2 => ho.block k h2 (by omega)⟩, hb.trans (ho.below (by omega) (by omega))⟩
  case assign =>
    intro l x W K hK
    gi_wp2
    exact hK
  case body =>
    rintro l pre x W hsp hsz ⟨⟨v, e1, e2⟩, hb⟩
    obtain ⟨c1, f1⟩ := cell_of e1
    have hlen := hsp.length_le
    have hnl := names_length s
    simp at hlen
    obtain ⟨i0, hi, hz0, hz1, hz2⟩ := info_parts Try.info9
    have hlt := (Array.getElem?_eq_some_iff.1 e1).1
    have e3 : (W.alloc (.cells #[.string ⟨x.toArray⟩] 9)).heap[w.heap.size]? = some (.cells #[v] 71 (0, 0)) := (Below.heap_alloc W _ _ hlt).trans e1
    have hof := own_from e2
    gi_wp2_with (gi_at_builtin; refine wpListIn_append_own _ rfl _ _ 71 rfl (w.heap.size + 4) 9 i0 (.string ⟨#[]⟩) 1 16 Try.underlying71 hi hz0 hz1 hz2 rfl (by decide) _ _ _ rfl (e2.alloc _) ⟨W.heap.size, 0, none⟩ 1 1 [encS x] rfl rfl (cell_one_new _ _ _) (by simp [Value.oneCell', encS]) (by unfold maxLen; omega) (by omega) (by simp; omega) ?_; intro v' w1 hown' hgrow _; obtain ⟨A', c', rfl⟩ := own_form hown'; have e4 : w1.heap[w.heap.size]? = some (.cells #[v] 71 (0, 0)) := (hgrow.block _ (by simp; omega) (fun e => by have := hof _ e.symm; omega)).trans e3; obtain ⟨c4, f4⟩ := cell_of e4)
    have hO : Out (fun k => k = w.heap.size ∨ w.heap.size + 4 ≤ k) W (w1.setCell ⟨w.heap.size, 0, none⟩ (.slice A' (pre.length + 1) c')) := by
      refine ⟨hgrow.os, hgrow.tape, hgrow.output, ?_, fun k hk hn => ?_⟩
      · have := hgrow.size
        simp [World.setCell] at this ⊢
        omega
      · rw [Below.heap_setCell _ _ _ _ (fun e => hn (.inl e)), hgrow.block k (by simp; omega) (fun e => hn (.inr (hof _ e.symm))), Below.heap_alloc _ _ _ hk]
    have hO2 : ∀ k, k < W.heap.size → k ≠ w.heap.size → k < w.heap.size + 4 → (w1.setCell ⟨w.heap.size, 0, none⟩ (.slice A' (pre.length + 1) c')).heap[k]? = W.heap[k]? := fun k h1 h2 h3 => hO.block k h1 (by omega)
    refine ⟨⟨hO2 _ (by omega) (by omega) (by omega), hO2 _ (by omega) (by omega) (by omega), hO2 _ (by omega) (by omega) (by omega)⟩, ⟨_, set_one e4, ?_⟩, hb.trans (hO.below (by omega) hb.size)⟩
    rw [List.map_append, List.length_append]
    exact own_stays hown' fun k h1 _ => Below.heap_setCell _ _ _ _ (by simp; omega)
  case done =>
    rintro xs W rfl ⟨⟨v, e1, e2⟩, hb⟩ hK
    obtain ⟨c1, f1⟩ := cell_of e1
    gi_wp2
    refine ⟨by simp, .inl ⟨_, _, rfl, run_takeDeferred hK, ?_⟩⟩
    have ho := Out.put W w2.heap.size (.deferred none)
    exact ⟨_, results_tmp rfl _ _ _, v, rfl, own_wider (own_stays e2 fun k h1 h2 => ho.block k h2 (by omega)) (by omega), hb.trans (ho.below (by omega) hb.size)⟩
  case stop =>
    rintro j pre W _ h _
    exact h.elim

end Go.Proofs.Ytlbipmlbkcdmnaa
