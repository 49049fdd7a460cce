/-
  The path of a path's names.
-/
import Derived.Test.YtlbipmlbkcdmnaaS
namespace Go.Proofs.Ytlbipmlbkcdmnaa
open Go.RowKit Go.Shelf

attribute [local go_sem] Oper.semAt_some

def tot : List (List UInt8) → Nat
  | [] => 0
  | x :: r => x.length + 1 + tot r

theorem tail_len (r : List (List UInt8)) : (Lib.joinTail [47] r).length = tot r := by
  induction r with
  | nil => rfl
  | cons x r ih =>
    unfold Lib.joinTail at ih ⊢
    simp only [List.map_cons, List.flatten_cons, List.length_append, ih, tot, List.length_cons, List.length_nil]
    omega

theorem join_len (xs : List (List UInt8)) : (Lib.join xs [47]).length ≤ tot xs := by
  cases xs with
  | nil => rw [Lib.join_nil]; simp
  | cons x r => rw [Lib.join_cons, List.length_append, tail_len, tot]; omega

theorem tot_split (s : List UInt8) : tot (splitL s) = s.length + 1 := by
  induction s with
  | nil => rfl
  | cons b r ih =>
    unfold splitL
    split
    · simp [tot, ih]; omega
    · split
      · rename_i h; rw [h] at ih; simp [tot] at ih
      · rename_i h; rw [h] at ih; simp [tot] at ih ⊢; omega

theorem tot_filter (p : List UInt8 → Bool) (xs : List (List UInt8)) : tot (xs.filter p) ≤ tot xs := by
  induction xs with
  | nil => exact Nat.le_refl _
  | cons x r ih =>
    rw [List.filter_cons]
    split
    · simp [tot]; omega
    · simp [tot]; omega

theorem joined_len (s : List UInt8) : (Lib.join (namesL s) [47]).length ≤ s.length + 1 := by
  rw [← tot_split]
  exact Nat.le_trans (join_len _) (tot_filter _ _)

theorem joined_any {w : World} {B : Nat} {v : Value} {xs : List (List UInt8)} (h : w.ownsRow B 9 1 v xs.length (xs.map encS)) (hlen : (Lib.join xs [47]).length ≤ 140737488355328) (hn : xs.length ≤ 140737488355328) :
    Calls Try.prog 80 #[v, .string ⟨#[47]⟩] w fun e w' => e = .returned (.string ⟨(Lib.join xs [47]).toArray⟩) ∧ Below w.heap.size w w' := by
  have hc := fun g (e : v.ownBlock = some g) => h.cells (g := g) e
  rcases h.2 with ⟨rfl, h0⟩ | ⟨g, cap, cur, rfl, hb, hg, hcap, hm, hcs, htake⟩
  · obtain rfl : xs = [] := List.eq_nil_of_length_eq_zero h0
    refine (Try.strings_Join_none none 0 ⟨#[47]⟩ w).mono ?_
    rintro e w' ⟨rfl, rfl⟩
    exact ⟨rfl, Below.refl _ _⟩
  · have hmap : (xs.map fun x => ByteArray.mk x.toArray).map (·.data.toList) = xs := by
      rw [List.map_map]
      exact (List.map_congr_left fun x _ => rfl).trans (List.map_id xs)
    have hJ := Try.strings_Join g 0 cap (xs.map fun x => ⟨x.toArray⟩) ⟨#[47]⟩ w ?_ (Array.getElem?_eq_some_iff.1 hg).1 (by simpa using hn) (by simpa using hcap) (by rw [hmap]; exact hlen)
    · rw [hmap, List.length_map] at hJ
      exact hJ
    · intro j x hj
      have := hc g rfl j (.string x) (by
        rw [List.getElem?_map] at hj ⊢
        cases hx : xs[j]? with
        | none => rw [hx] at hj; simp at hj
        | some y => rw [hx] at hj; simp at hj; subst hj; rfl)
      rw [Addr.add_lit] at this
      simpa using this

def cleanV (s : List UInt8) : List UInt8 × Bool :=
  if Lib.hasPrefix s [47] then ([], false) else if [46, 46] ∈ namesL s then ([], false) else (Lib.join (namesL s) [47], true)

set_option maxRecDepth 100000 in
set_option maxHeartbeats 4000000 in
theorem clean_any (s : List UInt8) (hs : s.length ≤ 4000000000000) (w : World) : Calls Try.prog 66 #[.string ⟨s.toArray⟩] w fun e w' =>
    e = .returned (.tuple #[.string ⟨(cleanV s).1.toArray⟩, .bool (cleanV s).2]) ∧ Below w.heap.size w w' := by
  have HP : ∀ w, Calls Try.prog 73 #[.string ⟨s.toArray⟩, .string ⟨#[47]⟩] w fun e w' => e = .returned (.bool (Lib.hasPrefix s [47])) ∧ w' = w := fun w => Try.strings_HasPrefix ⟨s.toArray⟩ ⟨#[47]⟩ w
  have hv : cleanV s = if Lib.hasPrefix s [47] then ([], false) else if [46, 46] ∈ namesL s then ([], false) else (Lib.join (namesL s) [47], true) := rfl
  refine (callsIn_wide (n := 3)).1 ?_
  refine callsIn_of_wp_marks Try.func66 rfl trivial ?_ rfl
  simp only [Try.ntmps66, List.size_toArray, List.length_cons, List.length_nil, Nat.reduceAdd, Nat.reduceSub, Array.replicate_succ, Array.replicate_zero, List.push_toArray, List.append_toArray, List.nil_append, List.cons_append]
  cases hp : Lib.hasPrefix s [47] with
  | true =>
    rw [hp] at HP hv
    have hv' : cleanV s = ([], false) := by rw [hv]; rfl
    rw [hv']
    clear hv hp
    gi_wp2_with (refine ⟨trivial, ?_⟩; gi_at_call 73; refine (callsIn_wide.2 (HP _)).mono ?_; rintro e w' ⟨rfl, rfl⟩)
    have k1 : ((w.alloc (.cells #[.string ⟨#[]⟩] 9)).alloc (.cells #[.bool false] 4)).heap[w.heap.size]? = some (.cells #[.string ⟨#[]⟩] 9 (0, 0)) := by
      rw [Below.heap_alloc _ _ _ (by simp)]; exact World.alloc_heap_new w _
    have k2 : ((w.alloc (.cells #[.string ⟨#[]⟩] 9)).alloc (.cells #[.bool false] 4)).heap[w.heap.size + 1]? = some (.cells #[.bool false] 4 (0, 0)) := by
      have := World.alloc_heap_new (w.alloc (.cells #[.string ⟨#[]⟩] 9)) (.cells #[.bool false] 4)
      rwa [World.size_alloc] at this
    refine ⟨.tuple #[.string ⟨#[]⟩, .bool false], ?_, rfl, ((Below.refl _ w).alloc (Nat.le_refl _) _).alloc (by simp) _⟩
    simp [results, Try.f66, go_sem, (cell_of k1).1, (cell_of k2).1]
  | false =>
    rw [hp] at HP hv
    have HV := Lib.hid hv
    clear hv hp
    gi_wp2_with (first | (refine ⟨trivial, ?_⟩; gi_at_call 73; refine (callsIn_wide.2 (HP _)).mono ?_; rintro e w' ⟨rfl, rfl⟩) | (refine ⟨trivial, ?_⟩; gi_at_call 79; refine (callsIn_wide.2 (names_any _ _)).mono ?_; rintro e w' ⟨rfl, rfl⟩))
    clear HP
    obtain ⟨w2, hw2⟩ : ∃ w2, ((w.alloc (.cells #[.string ⟨#[]⟩] 9)).alloc (.cells #[.bool false] 4)).alloc (.cells #[.string ⟨s.toArray⟩] 9) = w2 := ⟨_, rfl⟩
    have z2 : w2.heap.size = w.heap.size + 3 := by rw [← hw2]; simp
    have k1 : w2.heap[w.heap.size]? = some (.cells #[.string ⟨#[]⟩] 9 (0, 0)) := by
      rw [← hw2, Below.heap_alloc _ _ _ (by simp; omega), Below.heap_alloc _ _ _ (by simp)]; exact World.alloc_heap_new w _
    have k2 : w2.heap[w.heap.size + 1]? = some (.cells #[.bool false] 4 (0, 0)) := by
      have := World.alloc_heap_new (w.alloc (.cells #[.string ⟨#[]⟩] 9)) (.cells #[.bool false] 4)
      rw [World.size_alloc] at this
      rw [← hw2, Below.heap_alloc _ _ _ (by simp), this]
    have k3 : w2.heap[w.heap.size + 1 + 1]? = some (.cells #[.string ⟨s.toArray⟩] 9 (0, 0)) := by
      have := World.alloc_heap_new ((w.alloc (.cells #[.string ⟨#[]⟩] 9)).alloc (.cells #[.bool false] 4)) (.cells #[.string ⟨s.toArray⟩] 9)
      rwa [World.size_alloc, World.size_alloc, hw2] at this
    have hB0 : Below w.heap.size w w2 := by
      rw [← hw2]; exact (((Below.refl _ w).alloc (Nat.le_refl _) _).alloc (by simp) _).alloc (by simp; omega) _
    rw [hw2]
    have hG := names_gives (w.heap.size + 1 + 1) s hs
    rw [← k3] at hG
    refine range_cell (F := Fence.wide) (n := 3) rfl (by omega) (gf := 90) (lb := #[.pointer (some ⟨w.heap.size + 1 + 1, 0, none⟩)]) rfl trivial (enters_of Try.func90 (by kernel_rfl) rfl) (fun _ => rfl) (by omega) hG
      (fun pre W => ([46, 46] ∉ pre ∧ W.heap[w.heap.size]? = some (.cells #[.string ⟨#[]⟩] 9 (0, 0)) ∧ W.heap[w.heap.size + 1]? = some (.cells #[.bool false] 4 (0, 0))) ∧ Below w.heap.size w W)
      (fun j pre W => (j = .ret ∧ [46, 46] ∈ pre ∧ W.heap[w.heap.size]? = some (.cells #[.string ⟨#[]⟩] 9 (0, 0)) ∧ W.heap[w.heap.size + 1]? = some (.cells #[.bool false] 4 (0, 0))) ∧ Below w.heap.size w W) ?_ ?_ ⟨⟨by simp, k1, k2⟩, hB0⟩
      (fun x => { tmps := #[.string ⟨s.toArray⟩, undef, .pointer (some ⟨w.heap.size, 0, none⟩), .pointer (some ⟨w.heap.size + 1, 0, none⟩), .string ⟨x.toArray⟩, .string ⟨s.toArray⟩, .bool false, .string ⟨s.toArray⟩, .func (.func 90) #[] #[.pointer (some ⟨w.heap.size + 1 + 1, 0, none⟩)], .string ⟨x.toArray⟩, undef, undef, undef, undef, undef], defers := [] }) ?assign ?body ?done ?stop
    · rintro pre A B ⟨⟨e0, e1, e2⟩, hb⟩ ho
      exact ⟨⟨e0, (ho.block _ (Array.getElem?_eq_some_iff.1 e1).1 (by omega)).trans e1, (ho.block _ (Array.getElem?_eq_some_iff.1 e2).1 (by omega)).trans e2⟩, hb.trans (ho.below (by omega) hb.size)⟩
    · rintro j pre A B ⟨⟨ej, e0, e1, e2⟩, hb⟩ ho
      exact ⟨⟨ej, e0, (ho.block _ (Array.getElem?_eq_some_iff.1 e1).1 (by omega)).trans e1, (ho.block _ (Array.getElem?_eq_some_iff.1 e2).1 (by omega)).trans e2⟩, hb.trans (ho.below (by omega) hb.size)⟩
    case assign =>
      intro l x W K hK
      gi_wp2
      exact hK
    case body =>
      rintro l pre x W hsp hsz ⟨⟨e0, e1, e2⟩, hb⟩
      by_cases hx : x = [46, 46]
      · subst hx
        obtain ⟨c1, f1⟩ := cell_of e1
        obtain ⟨c2, f2⟩ := cell_of e2
        gi_wp2
        have hO : ∀ k, k ≠ w.heap.size → k ≠ w.heap.size + 1 → ((W.setCell ⟨w.heap.size, 0, none⟩ (.string ⟨#[]⟩)).setCell ⟨w.heap.size + 1, 0, none⟩ (.bool false)).heap[k]? = W.heap[k]? := fun k h1 h2 => by rw [Below.heap_setCell _ _ _ _ h2, Below.heap_setCell _ _ _ _ h1]
        refine ⟨⟨hO _ (by omega) (by omega), hO _ (by omega) (by omega)⟩, ⟨rfl, by simp, ?_, ?_⟩, (hb.setCell (p := ⟨w.heap.size, 0, none⟩) (Nat.le_refl _) _).setCell (p := ⟨w.heap.size + 1, 0, none⟩) (by simp) _⟩
        · rw [Below.heap_setCell _ _ _ _ (by simp)]; exact set_one e1
        · exact set_one ((Below.heap_setCell _ _ _ _ (by simp)).trans e2)
      · have hx' : (x == [46, 46]) = false := by simpa using hx
        gi_wp2
        exact ⟨⟨rfl, rfl, rfl⟩, ⟨by simp [e0]; exact fun e => hx e.symm, e1, e2⟩, hb⟩
    case done =>
      rintro xs W rfl ⟨⟨e0, e1, e2⟩, hb⟩ hK
      have hcv : cleanV s = (Lib.join (namesL s) [47], true) := by rw [HV.out]; simp [e0]
      have hjl := joined_len s
      have hnl := names_length s
      obtain ⟨c1, f1⟩ := cell_of e1
      obtain ⟨c2, f2⟩ := cell_of e2
      have l1 := (Array.getElem?_eq_some_iff.1 e1).1
      have l2 := (Array.getElem?_eq_some_iff.1 e2).1
      have l3 := (Array.getElem?_eq_some_iff.1 hK).1
      gi_wp2_with (first | (refine ⟨trivial, ?_⟩; gi_at_call 78; refine (callsIn_wide.2 (split_any s hs _)).mono ?_; rintro e w3 ⟨v, rfl, ho, hb3⟩) | (refine ⟨trivial, ?_⟩; gi_at_call 80; refine (callsIn_wide.2 (joined_any ho (by omega) (by omega))).mono ?_; rintro e w4 ⟨rfl, hb4⟩; have hb5 := hb3.trans (hb4.mono hb3.size); obtain ⟨d1, g1⟩ := cell_of ((hb5.block _ l1).trans e1); have r2 := (hb5.block _ l2).trans e2; have d2 := (cell_of r2).1; have g2 := (cell_of r2).2))
      have r1 := (hb5.block _ l1).trans e1
      have hK5 : ((w4.setCell ⟨w.heap.size, 0, none⟩ (.string ⟨(Lib.join (namesL s) [47]).toArray⟩)).setCell ⟨w.heap.size + 1, 0, none⟩ (.bool true)).heap[w.heap.size + 3]? = some (.deferred (some [])) := by
        rw [Below.heap_setCell _ _ _ _ (by simp), Below.heap_setCell _ _ _ _ (by simp), hb5.block _ (by omega)]
        rw [z2] at hK
        exact hK
      have q1 : ((w4.setCell ⟨w.heap.size, 0, none⟩ (.string ⟨(Lib.join (namesL s) [47]).toArray⟩)).setCell ⟨w.heap.size + 1, 0, none⟩ (.bool true)).heap[w.heap.size]? = some (.cells #[.string ⟨(Lib.join (namesL s) [47]).toArray⟩] 9 (0, 0)) := by
        rw [Below.heap_setCell _ _ _ _ (by simp)]; exact set_one r1
      have q2 : ((w4.setCell ⟨w.heap.size, 0, none⟩ (.string ⟨(Lib.join (namesL s) [47]).toArray⟩)).setCell ⟨w.heap.size + 1, 0, none⟩ (.bool true)).heap[w.heap.size + 1]? = some (.cells #[.bool true] 4 (0, 0)) :=
        set_one ((Below.heap_setCell _ _ _ _ (by simp)).trans r2)
      have hb6 : Below w.heap.size w ((w4.setCell ⟨w.heap.size, 0, none⟩ (.string ⟨(Lib.join (namesL s) [47]).toArray⟩)).setCell ⟨w.heap.size + 1, 0, none⟩ (.bool true)) :=
        ((hb.trans (hb5.mono hb.size)).setCell (p := ⟨w.heap.size, 0, none⟩) (Nat.le_refl _) _).setCell (p := ⟨w.heap.size + 1, 0, none⟩) (by simp) _
      generalize (w4.setCell ⟨w.heap.size, 0, none⟩ (.string ⟨(Lib.join (namesL s) [47]).toArray⟩)).setCell ⟨w.heap.size + 1, 0, none⟩ (.bool true) = w5 at hK5 q1 q2 hb6 ⊢
      refine ⟨by simp, .inl ⟨_, _, rfl, run_takeDeferred hK5, ?_⟩⟩
      have ho6 := Out.put w5 (w.heap.size + 3) (.deferred none)
      have m1 := (ho6.block _ (Array.getElem?_eq_some_iff.1 q1).1 (by omega)).trans q1
      have m2 := (ho6.block _ (Array.getElem?_eq_some_iff.1 q2).1 (by omega)).trans q2
      refine ⟨.tuple #[.string ⟨(Lib.join (namesL s) [47]).toArray⟩, .bool true], ?_, by rw [hcv], hb6.trans (ho6.below (by omega) hb6.size)⟩
      simp [results, Try.f66, go_sem, (cell_of m1).1, (cell_of m2).1]
    case stop =>
      rintro j pre W hpre ⟨⟨rfl, e0, e1, e2⟩, hb⟩ hK
      have hcv : cleanV s = ([], false) := by rw [HV.out]; simp [hpre.subset e0]
      gi_wp2
      refine ⟨by simp, .inl ⟨_, _, rfl, run_takeDeferred hK, ?_⟩⟩
      have ho := Out.put W w2.heap.size (.deferred none)
      have m1 := (ho.block _ (Array.getElem?_eq_some_iff.1 e1).1 (by omega)).trans e1
      have m2 := (ho.block _ (Array.getElem?_eq_some_iff.1 e2).1 (by omega)).trans e2
      refine ⟨.tuple #[.string ⟨#[]⟩, .bool false], ?_, by rw [hcv], hb.trans (ho.below (by omega) hb.size)⟩
      simp [results, Try.f66, go_sem, (cell_of m1).1, (cell_of m2).1]

end Go.Proofs.Ytlbipmlbkcdmnaa
