/-
  Trees of choices: no path twice; how many are below, are it, and are else.
-/
import Derived.Test.YtlbipmlbkcdmnaaAdWd
namespace Go.Proofs.Ytlbipmlbkcdmnaa
open Go.RowKit Go.Shelf

/-- No path twice. -/
def Once (ss : List Sn) : Prop := (ss.map Sn.path).Nodup

theorem putG_mem {x : Sn} {p : List UInt8} : ∀ {ss : List Sn}, p ∈ (putG Sn.path x ss).map Sn.path → p = x.path ∨ p ∈ ss.map Sn.path
  | [], h => by simp [putG] at h; exact .inl h
  | y :: r, h => by
    rw [putG] at h
    split at h
    · rcases putG_mem h with h | h
      · exact .inl h
      · exact .inr (by simp only [List.map_cons, List.mem_cons]; exact .inr h)
    · split at h
      · simp only [List.map_cons, List.mem_cons] at h
        rcases h with h | h | h
        · exact .inl h
        · exact .inr (by simp [h])
        · right
          obtain ⟨z, hz, rfl⟩ := List.mem_map.1 h
          exact List.mem_map.2 ⟨z, List.mem_cons_of_mem _ ((List.mem_filter.1 hz).1), rfl⟩
      · simp only [List.map_cons, List.mem_cons] at h
        rcases h with h | h
        · exact .inr (by simp [h])
        · rcases putG_mem h with h | h
          · exact .inl h
          · exact .inr (by simp only [List.map_cons, List.mem_cons]; exact .inr h)

theorem Once.put (x : Sn) : ∀ {ss : List Sn}, Once ss → Once (putG Sn.path x ss)
  | [], _ => by simp [Once, putG]
  | y :: r, h => by
    unfold Once at h
    rw [List.map_cons, List.nodup_cons] at h
    have ih := Once.put x (ss := r) h.2
    rw [putG]
    split
    · exact ih
    · rename_i hne
      have hyx : ¬ y.path = x.path := by simpa using hne
      split
      · unfold Once
        rw [List.map_cons, List.map_cons, List.nodup_cons, List.nodup_cons]
        refine ⟨?_, ?_, ?_⟩
        · intro hm
          rcases List.mem_cons.1 hm with hm | hm
          · exact hyx hm.symm
          · obtain ⟨z, hz, e⟩ := List.mem_map.1 hm
            have := (List.mem_filter.1 hz).2
            simp [e] at this
        · intro hm
          obtain ⟨z, hz, e⟩ := List.mem_map.1 hm
          exact h.1 (List.mem_map.2 ⟨z, (List.mem_filter.1 hz).1, e⟩)
        · exact List.Nodup.sublist (List.Sublist.map _ List.filter_sublist) h.2
      · unfold Once
        rw [List.map_cons, List.nodup_cons]
        refine ⟨fun hm => ?_, ih⟩
        rcases putG_mem hm with hm | hm
        · exact hyx hm
        · exact h.1 hm

theorem Once.step {ss : List Sn} (h : Once ss) (b : Int) : Once (treeStep ss b) := by
  unfold treeStep
  split
  · exact h
  · exact h.put _
theorem Once.tree (bs : List Int) : Once (treeL bs) := by
  unfold treeL
  have : ∀ (l : List Int) (t : List Sn), Once t → Once (l.foldl treeStep t) := by
    intro l
    induction l with
    | nil => intro t h; exact h
    | cons b r ih => intro t h; exact ih _ (h.step b)
  exact this _ _ (by simp [Once])

theorem putG_bound {x : Sn} {m : Nat} (hx : x.path.length ≤ m) {ss : List Sn} (h : ∀ s ∈ ss, s.path.length ≤ m) : ∀ s ∈ putG Sn.path x ss, s.path.length ≤ m := by
  intro s hs
  rcases putG_mem (List.mem_map.2 ⟨s, hs, rfl⟩) with e | e
  · rw [e]; exact hx
  · obtain ⟨z, hz, e⟩ := List.mem_map.1 e
    rw [← e]; exact h z hz

theorem path_short (k : Int) : (pathOf k).length ≤ 1000 := by
  have h1 := paths_hold
  rw [List.all_eq_true] at h1
  have h2 := h1 _ (path_mem k)
  simp only [Bool.and_eq_true, decide_eq_true_eq] at h2
  exact h2.1

theorem tree_short (bs : List Int) : ∀ s ∈ treeL bs, s.path.length ≤ 1000 := by
  unfold treeL
  have : ∀ (l : List Int) (t : List Sn), (∀ s ∈ t, s.path.length ≤ 1000) → ∀ s ∈ l.foldl treeStep t, s.path.length ≤ 1000 := by
    intro l
    induction l with
    | nil => intro t h; exact h
    | cons b r ih =>
      intro t h
      refine ih _ ?_
      unfold treeStep
      split
      · exact h
      · exact putG_bound (path_short b) h
  exact this _ _ (by simp)

theorem tree_len (bs : List Int) : (treeL bs).length ≤ 14 := by
  unfold treeL
  have : ∀ (l : List Int) (t : List Sn), (l.foldl treeStep t).length ≤ t.length + l.length := by
    intro l
    induction l with
    | nil => intro t; simp
    | cons b r ih =>
      intro t
      have h1 := ih (treeStep t b)
      have h2 : (treeStep t b).length ≤ t.length + 1 := by
        unfold treeStep
        split
        · omega
        · exact putG_len _ _ _
      simp only [List.foldl_cons, List.length_cons]
      omega
  have h := this (bs.take 14) []
  simp at h
  omega

theorem under_self (p : List UInt8) (hp : p ≠ []) : underL p p = false := by
  unfold underL
  simp [hp]

theorem find_isSome {ss : List Sn} {p : List UInt8} (hp : p ≠ []) : (findL ss p).2 = (ss.any fun s => s.path == p) := by
  unfold findL
  rw [if_neg hp]
  cases hf : ss.find? (fun t => t.path == p) with
  | none =>
    rw [List.find?_eq_none] at hf
    simp only [Bool.false_eq, List.any_eq_false]
    exact hf
  | some t =>
    have h1 := List.find?_some hf
    have h2 := List.mem_of_find?_eq_some hf
    simp only [Bool.true_eq, List.any_eq_true]
    exact ⟨t, h2, h1⟩

theorem none_of_notin {p : List UInt8} : ∀ {r : List Sn}, p ∉ r.map Sn.path → (r.any fun s => s.path == p) = false := by
  intro r h
  rw [List.any_eq_false]
  intro z hz e
  exact h (List.mem_map.2 ⟨z, hz, by simpa using e⟩)

/-- What is below, what is it, what is else. -/
theorem parts (p : List UInt8) (hp : p ≠ []) : ∀ {ss : List Sn}, Once ss →
    (ss.filter fun s => belowL s.path p).length + (if (findL ss p).2 = true then 1 else 0) + (ss.filter fun s => !(s.path == p || belowL s.path p)).length = ss.length := by
  intro ss
  rw [find_isSome hp]
  induction ss with
  | nil => intro _; rfl
  | cons y r ih =>
    intro h
    unfold Once at h
    rw [List.map_cons, List.nodup_cons] at h
    have hr := ih h.2
    rw [List.filter_cons, List.filter_cons, List.any_cons]
    by_cases he : y.path = p
    · have h1 : (y.path == p) = true := by simpa using he
      have h2 : belowL y.path p = false := by rw [below_under, he]; exact under_self p hp
      have h3 : (r.any fun s => s.path == p) = false := none_of_notin (by rw [← he]; exact h.1)
      rw [h3] at hr
      rw [h1, h2, h3]
      simp at hr ⊢
      omega
    · have h1 : (y.path == p) = false := by simpa using he
      rw [h1]
      cases h2 : belowL y.path p with
      | true =>
        simp at hr ⊢
        omega
      | false =>
        simp at hr ⊢
        omega

theorem all_below (ss : List Sn) : (ss.filter fun s => belowL s.path []) = ss := by
  rw [List.filter_eq_self]
  intro s _
  rfl

theorem own_none {w : World} {B : Nat} {e : TypeId} {size : Nat} {A : Option Addr} {n c : Nat} {xs : List Value} (h : w.ownsRow B e size (.slice A n c) n xs) (hA : A = none) : n = 0 := by
  rcases h.2 with ⟨_, h0⟩ | ⟨g, cap, cur, hv, _⟩
  · exact h0
  · rw [hA] at hv
    injection hv with h1 _ _
    cases h1

end Go.Proofs.Ytlbipmlbkcdmnaa
