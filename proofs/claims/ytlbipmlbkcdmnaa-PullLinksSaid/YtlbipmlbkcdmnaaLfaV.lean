/-
  What links come to, in plain words, for the law on links.
-/
import Derived.Test.YtlbipmlbkcdmnaaLfV
namespace Go.Proofs.Ytlbipmlbkcdmnaa
open Go.RowKit Go.Shelf

theorem dirs_link : ∀ (al : List (List UInt8)) {ss : List Sn} {s : Sn}, s ∈ al.foldl layDir ss → s.link = [] ∨ s ∈ ss
  | [], _, _, h => .inr h
  | a :: r, ss, s, h => by
    rw [List.foldl_cons] at h
    rcases dirs_link r h with h | h
    · exact .inl h
    · unfold layDir at h
      split at h
      · exact .inr h
      · rcases mem_putG h with rfl | h
        · exact .inl rfl
        · exact .inr h

theorem lay_link {root : List UInt8} {s t : Sn} {ss : List Sn} (h : t ∈ layL root s ss) : t = s ∨ t.link = [] ∨ t ∈ ss := by
  unfold layL at h
  exact (mem_putG h).imp_right fun h => dirs_link _ (mem_gone.1 h).1

theorem one_link (o : Opt) (ss : List Sn) (m : Mem) : ∀ t ∈ (oneV o ss m).1, t ∈ ss ∨ t.link = [] ∨ t.link = m.link := by
  intro t ht
  have hlay : ∀ s : Sn, (s.link = [] ∨ s.link = m.link) → ∀ t ∈ (putE o ss s).1, t ∈ ss ∨ t.link = [] ∨ t.link = m.link := fun s hs t ht => by
    unfold putE at ht
    split at ht
    · exact .inl ht
    · rcases lay_link ht with rfl | h | h
      · exact .inr hs
      · exact .inr (.inl h)
      · exact .inl h
  unfold oneV at ht
  split at ht
  · split at ht
    · split at ht
      · unfold kindE at ht
        split at ht
        · unfold dirE at ht
          split at ht
          · exact .inl ht
          · split at ht
            · exact .inl ht
            · rcases lay_link ht with rfl | h | h
              · exact .inr (.inl rfl)
              · exact .inr (.inl h)
              · exact .inl h
        · split at ht
          · unfold fileE at ht
            split at ht
            · split at ht
              · exact .inl ht
              · exact hlay _ (.inl rfl) t ht
            · exact hlay _ (.inl rfl) t ht
          · split at ht
            · unfold softE at ht
              split at ht
              · split at ht
                · exact hlay _ (.inr rfl) t ht
                · exact .inl ht
              · exact .inl ht
            · split at ht
              · unfold hardE at ht
                split at ht
                · split at ht
                  · exact hlay _ (.inl rfl) t ht
                  · exact .inl ht
                · exact .inl ht
              · exact .inl ht
      · exact .inl ht
    · exact .inl ht
  · exact .inl ht

theorem tree_link (o : Opt) : ∀ (ms : List Mem) (ss : List Sn), ∀ t ∈ treeV o ss ms, t ∈ ss ∨ t.link = [] ∨ ∃ m ∈ ms, t.link = m.link
  | [], _, _, h => .inl h
  | m :: r, ss, t, h => by
    unfold treeV at h
    rw [List.foldl_cons] at h
    rcases tree_link o r _ t h with h | h | ⟨m', h1, h2⟩
    · rcases one_link o ss m t h with h | h | h
      · exact .inl h
      · exact .inr (.inl h)
      · exact .inr (.inr ⟨m, by simp, h⟩)
    · exact .inr (.inl h)
    · exact .inr (.inr ⟨m', by simp [h1], h2⟩)

/-- A link that was not there: laid, by leave, inside, and short. -/
theorem link_new {o : Opt} {ms : List Mem} {t0 : List Sn} (hn : Named t0) (hf : ∀ m ∈ ms, FitsE o m) {s : Sn} (hs : s ∈ treeV o t0 ms) (hk : s.kind = 50) (hne : findL t0 s.path ≠ (s, true)) :
    o.links = true ∧ (targetV o.root s.path s.link).2 = true ∧ s.link.length ≤ 10000000000 := by
  have hnot : s ∉ t0 := fun h => by
    obtain ⟨i, hi⟩ := List.mem_iff_getElem?.1 h
    exact hne (find_of (hn.2 s h) (find_once hn.1 hi))
  rcases tree_links o ms t0 s hs hk with h | ⟨h1, h2⟩
  · exact absurd h hnot
  · refine ⟨h1, h2, ?_⟩
    rcases tree_link o ms t0 s hs with h | h | ⟨m, h, h'⟩
    · exact absurd h hnot
    · rw [h]; simp
    · rw [h']; have := (hf m h).link; omega

/-- Ahead of what is in a tree that may be: directories. -/
def UpOk (ss : List Sn) (u : List UInt8) : Prop := u = [] ∨ ∃ m ∈ ss, m.path = u ∧ m.kind = 53

theorem upOk_find {ss : List Sn} (h : Named ss) {u : List UInt8} (hu : UpOk ss u) (hne : u ≠ []) : ∃ m ∈ ss, m.path = u ∧ m.kind = 53 ∧ findL ss u = (m, true) := by
  rcases hu with hu | ⟨m, hm, rfl, hk⟩
  · exact absurd hu hne
  · obtain ⟨i, hi⟩ := List.mem_iff_getElem?.1 hm
    exact ⟨m, hm, rfl, hk, find_of (h.2 m hm) (find_once h.1 hi)⟩

end Go.Proofs.Ytlbipmlbkcdmnaa
