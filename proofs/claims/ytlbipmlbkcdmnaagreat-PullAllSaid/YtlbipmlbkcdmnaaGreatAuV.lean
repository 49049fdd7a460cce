
/-
  A tree that may be, without what is below a path; and with a directory more: plain laws.
-/
import Derived.Test.YtlbipmlbkcdmnaaGreatMerI
namespace Go.Proofs.YtlbipmlbkcdmnaaGreat
open Go.RowKit Go.Shelf

theorem below_iff (q p : List UInt8) : belowL q p = true ↔ (p = [] ∨ (p ++ [47]) <+: q) := by
  unfold belowL Lib.hasPrefix
  simp only [Bool.or_eq_true, List.isEmpty_iff, List.isPrefixOf_iff_prefix]

theorem up_prefix {q : List UInt8} (h : upL q ≠ []) : (upL q ++ [47]) <+: q := by
  obtain ⟨r, hr⟩ := up_parts q h
  refine ⟨r, ?_⟩
  rw [List.append_assoc, List.singleton_append]
  exact hr.symm

theorem below_up {q p : List UInt8} (hu : upL q ≠ []) (h : upL q = p ∨ belowL (upL q) p = true) : belowL q p = true := by
  rw [below_iff]
  rcases h with rfl | h
  · exact .inr (up_prefix hu)
  · rcases (below_iff _ _).1 h with h | h
    · exact .inl h
    · exact .inr (h.trans ((List.prefix_append _ _).trans (up_prefix hu)))

theorem mem_gone {p : List UInt8} {ss : List Sn} {s : Sn} : s ∈ goneL p ss ↔ (s ∈ ss ∧ s.path ≠ p ∧ belowL s.path p = false) := by
  unfold goneL
  rw [List.mem_filter]
  simp

theorem OkTree.gone {t : List Sn} (h : OkTree t) (p : List UInt8) : OkTree (goneL p t) := by
  refine ⟨List.Pairwise.sublist List.filter_sublist h.1, fun s hs => ?_⟩
  obtain ⟨h1, h2, h3⟩ := mem_gone.1 hs
  obtain ⟨hg, hu⟩ := h.2 s h1
  refine ⟨hg, ?_⟩
  rcases hu with hu | ⟨m, hm, h4, h5⟩
  · exact .inl hu
  · by_cases hu : upL s.path = []
    · exact .inl hu
    · refine .inr ⟨m, mem_gone.2 ⟨hm, fun e => ?_, ?_⟩, h4, h5⟩
      · have := below_up hu (.inl (h4.symm.trans e))
        rw [h3] at this
        cases this
      · cases hb : belowL m.path p with
        | false => rfl
        | true =>
          rw [h4] at hb
          have := below_up hu (.inr hb)
          rw [h3] at this
          cases this

theorem gt_iff (a b : List UInt8) : gtL a b = true ↔ lt b a := by
  unfold gtL
  simp only [Bool.not_eq_true', Bool.or_eq_false_iff, beq_eq_false_iff_ne, ne_eq]
  constructor
  · rintro ⟨h1, h2⟩
    rcases lt_total b a with h | h | h
    · exact h
    · exact absurd h.symm h2
    · have h' : Op.bytesLess a b = true := h
      rw [h'] at h1; cases h1
  · intro h
    refine ⟨?_, fun e => ?_⟩
    · cases hb : Op.bytesLess a b with
      | false => rfl
      | true => exact absurd (lt_trans h hb) (lt_irrefl _)
    · rw [e] at h; exact lt_irrefl _ h

theorem mem_putG {x s : Sn} : ∀ {l : List Sn}, s ∈ putG Sn.path x l → s = x ∨ s ∈ l
  | [], h => by simp [putG] at h; exact .inl h
  | y :: r, h => by
    rw [putG] at h
    split at h
    · rcases mem_putG h with h | h
      · exact .inl h
      · exact .inr (List.mem_cons_of_mem _ h)
    · split at h
      · rcases List.mem_cons.1 h with h | h
        · exact .inl h
        · rcases List.mem_cons.1 h with h | h
          · exact .inr (by rw [h]; simp)
          · exact .inr (List.mem_cons_of_mem _ (List.mem_filter.1 h).1)
      · rcases List.mem_cons.1 h with h | h
        · exact .inr (by rw [h]; simp)
        · rcases mem_putG h with h | h
          · exact .inl h
          · exact .inr (List.mem_cons_of_mem _ h)

theorem putG_has {x m : Sn} : ∀ {l : List Sn}, m ∈ l → m.path ≠ x.path → m ∈ putG Sn.path x l
  | [], h, _ => by cases h
  | y :: r, h, hne => by
    rw [putG]
    split
    · rename_i he
      rcases List.mem_cons.1 h with h | h
      · exact absurd (by rw [h]; simpa using he) hne
      · exact putG_has h hne
    · split
      · rcases List.mem_cons.1 h with h | h
        · simp [h]
        · exact List.mem_cons_of_mem _ (List.mem_cons_of_mem _ (List.mem_filter.2 ⟨h, by simpa using hne⟩))
      · rcases List.mem_cons.1 h with h | h
        · simp [h]
        · exact List.mem_cons_of_mem _ (putG_has h hne)

theorem putG_sorted (x : Sn) : ∀ {l : List Sn}, l.Pairwise (fun a b => lt a.path b.path) → (putG Sn.path x l).Pairwise (fun a b => lt a.path b.path)
  | [], _ => by simp [putG]
  | y :: r, h => by
    obtain ⟨h1, h2⟩ := List.pairwise_cons.1 h
    have ih := putG_sorted x h2
    rw [putG]
    split
    · exact ih
    · rename_i hne
      have hyx : ¬ y.path = x.path := by simpa using hne
      split
      · rename_i hg
        have hxy := (gt_iff _ _).1 hg
        rw [List.pairwise_cons, List.pairwise_cons]
        refine ⟨fun z hz => ?_, fun z hz => h1 z (List.mem_filter.1 hz).1, List.Pairwise.sublist List.filter_sublist h2⟩
        rcases List.mem_cons.1 hz with hz | hz
        · rw [hz]; exact hxy
        · exact lt_trans hxy (h1 z (List.mem_filter.1 hz).1)
      · rename_i hg
        have hyx2 : lt y.path x.path := by
          rcases lt_total y.path x.path with h | h | h
          · exact h
          · exact absurd h hyx
          · exact absurd ((gt_iff _ _).2 h) hg
        rw [List.pairwise_cons]
        refine ⟨fun z hz => ?_, ih⟩
        rcases mem_putG hz with hz | hz
        · rw [hz]; exact hyx2
        · exact h1 z hz

theorem OkTree.dir {t : List Sn} (h : OkTree t) (p : List UInt8) (hg : goodS ⟨p, 53, [], []⟩ = true) (hu : upL p = [] ∨ ∃ m ∈ t, m.path = upL p ∧ m.kind = 53) : OkTree (putG Sn.path ⟨p, 53, [], []⟩ (goneL p t)) := by
  have hgo := h.gone p
  have hp : p ≠ [] := good_ne hg
  refine ⟨putG_sorted _ hgo.1, fun s hs => ?_⟩
  rcases mem_putG hs with rfl | hs
  · refine ⟨hg, ?_⟩
    by_cases hn : upL p = []
    · exact .inl hn
    · rcases hu with hu | ⟨m, hm, h1, h2⟩
      · exact absurd hu hn
      · have hlt := up_lt p hp
        have hmp : m.path ≠ p := fun e => by
          rw [← h1, e] at hlt
          exact lt_irrefl _ hlt
        refine .inr ⟨m, putG_has (mem_gone.2 ⟨hm, hmp, ?_⟩) hmp, h1, h2⟩
        cases hb : belowL m.path p with
        | false => rfl
        | true =>
          rw [h1] at hb
          have := below_up hn (.inr hb)
          rcases (below_iff _ _).1 this with h | h
          · exact absurd h hp
          · have := h.length_le
            simp at this
            omega
  · obtain ⟨h1, h2⟩ := hgo.2 s hs
    refine ⟨h1, ?_⟩
    rcases h2 with h2 | ⟨m, hm, h3, h4⟩
    · exact .inl h2
    · exact .inr ⟨m, putG_has hm (mem_gone.1 hm).2.1, h3, h4⟩

theorem paths_clean : (pathsL.all fun p => p.isEmpty || goodS ⟨p, 53, [], []⟩) = true := by kernel_rfl

/-- What the law asks, where a tree may be. -/
theorem right_gone {t : List Sn} (h : rightS t = true) (p : List UInt8) : rightS (goneL p t) = true := (rightS_ok _).2 (((rightS_ok _).1 h).gone p)
theorem right_dir {t : List Sn} (h : rightS t = true) (k : Int) (hp : pathOf k ≠ []) (h1 : (findL t (upL (pathOf k))).2 = true) (h2 : (findL t (upL (pathOf k))).1.kind = 53) :
    rightS (putG Sn.path ⟨pathOf k, 53, [], []⟩ (goneL (pathOf k) t)) = true ∧ (cleanV (pathOf k)).2 = true := by
  have hg : goodS ⟨pathOf k, 53, [], []⟩ = true := by
    have := List.all_eq_true.1 paths_clean _ (path_mem k)
    simpa [hp] using this
  have ho := (rightS_ok _).1 h
  refine ⟨(rightS_ok _).2 (ho.dir _ hg ((find_dir ho.1 _).1 ⟨h1, h2⟩)), ?_⟩
  unfold goodS at hg
  simp only [Bool.and_eq_true] at hg
  exact hg.1.1.1.1

end Go.Proofs.YtlbipmlbkcdmnaaGreat
