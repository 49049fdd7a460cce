/-
  What is put is found; what is removed is gone: plain laws.
-/
import Derived.Test.YtlbipmlbkcdmnaaAgWd
import Derived.Test.YtlbipmlbkcdmnaaAiWd
namespace Go.Proofs.Ytlbipmlbkcdmnaa
open Go.RowKit Go.Shelf

theorem find_put_self (x : Sn) : ∀ (l : List Sn), (putG Sn.path x l).find? (fun t => t.path == x.path) = some x
  | [] => by simp [putG]
  | y :: r => by
    rw [putG]
    split
    · exact find_put_self x r
    · rename_i h
      split
      · simp
      · rw [List.find?_cons]
        have h1 : (y.path == x.path) = false := by simpa using h
        rw [h1]
        exact find_put_self x r

theorem find_filter_ne (p q : List UInt8) (hq : q ≠ p) : ∀ (l : List Sn), (l.filter fun z => !(z.path == p)).find? (fun t => t.path == q) = l.find? (fun t => t.path == q)
  | [] => rfl
  | y :: r => by
    have ih := find_filter_ne p q hq r
    by_cases h : y.path = p
    · have h1 : (y.path == p) = true := by simpa using h
      have h2 : (y.path == q) = false := by
        rw [h]
        simpa using fun e => hq e.symm
      rw [List.filter_cons, h1, List.find?_cons, h2]
      exact ih
    · have h1 : (y.path == p) = false := by simpa using h
      rw [List.filter_cons, h1]
      simp only [Bool.not_false, if_true, List.find?_cons]
      rw [ih]

theorem find_put_other (x : Sn) (q : List UInt8) (hq : q ≠ x.path) : ∀ (l : List Sn), (putG Sn.path x l).find? (fun t => t.path == q) = l.find? (fun t => t.path == q)
  | [] => by
    have : (x.path == q) = false := by simpa using fun e => hq e.symm
    simp [putG, this]
  | y :: r => by
    have ih := find_put_other x q hq r
    have hx : (x.path == q) = false := by simpa using fun e => hq e.symm
    rw [putG]
    split
    · rename_i h
      have h1 : y.path = x.path := by simpa using h
      have h2 : (y.path == q) = false := by rw [h1]; exact hx
      rw [ih, List.find?_cons, h2]
    · split
      · rw [List.find?_cons, hx]
        simp only [List.find?_cons]
        split
        · rfl
        · exact find_filter_ne x.path q hq r
      · simp only [List.find?_cons]
        rw [ih]

theorem find_once {ss : List Sn} : ∀ {i : Nat} {s : Sn}, Once ss → ss[i]? = some s → ss.find? (fun t => t.path == s.path) = some s := by
  induction ss with
  | nil => intro i s _ h; simp at h
  | cons y r ih =>
    intro i s h hs
    unfold Once at h
    rw [List.map_cons, List.nodup_cons] at h
    cases i with
    | zero =>
      obtain rfl : y = s := by simpa using hs
      simp
    | succ i =>
      have hs' : r[i]? = some s := by simpa using hs
      have hm : s ∈ r := List.mem_of_getElem? hs'
      have : (y.path == s.path) = false := by
        simpa using fun e => h.1 (List.mem_map.2 ⟨s, hm, e.symm⟩)
      rw [List.find?_cons, this]
      exact ih h.2 hs'

theorem find_filter_path (f : List UInt8 → Bool) (q : List UInt8) : ∀ (l : List Sn), (l.filter fun z => f z.path).find? (fun t => t.path == q) = if f q = true then l.find? (fun t => t.path == q) else none
  | [] => by simp
  | y :: r => by
    have ih := find_filter_path f q r
    by_cases h : y.path = q
    · have h1 : (y.path == q) = true := by simpa using h
      by_cases hf : f q = true
      · rw [if_pos hf, List.filter_cons, h, hf]
        simp [h]
      · rw [if_neg hf] at ih ⊢
        have hf' : f q = false := by simpa using hf
        rw [List.filter_cons, h, hf']
        exact ih
    · have h1 : (y.path == q) = false := by simpa using h
      rw [List.find?_cons, h1, List.filter_cons]
      split
      · rw [List.find?_cons, h1]
        exact ih
      · exact ih

/-- No path is the empty one. -/
theorem tree_named (bs : List Int) : ∀ s ∈ treeL bs, s.path ≠ [] := by
  unfold treeL
  have : ∀ (l : List Int) (t : List Sn), (∀ s ∈ t, s.path ≠ []) → ∀ s ∈ l.foldl treeStep t, s.path ≠ [] := by
    intro l
    induction l with
    | nil => intro t h; exact h
    | cons b r ih =>
      intro t h
      refine ih _ ?_
      unfold treeStep
      split
      · exact h
      · rename_i hn
        intro s hs
        rcases putG_mem (List.mem_map.2 ⟨s, hs, rfl⟩) with e | e
        · rw [e]
          exact fun e' => hn (.inl e')
        · obtain ⟨z, hz, e⟩ := List.mem_map.1 e
          rw [← e]
          exact h z hz
  exact this _ _ (by simp)

theorem find_of {ss : List Sn} {q : List UInt8} (hq : q ≠ []) {s : Sn} (h : ss.find? (fun t => t.path == q) = some s) : findL ss q = (s, true) := by
  unfold findL
  rw [if_neg hq, h]
theorem find_no {ss : List Sn} {q : List UInt8} (hq : q ≠ []) (h : ss.find? (fun t => t.path == q) = none) : (findL ss q).2 = false := by
  unfold findL
  rw [if_neg hq, h]

def goneL (p : List UInt8) (ss : List Sn) : List Sn := ss.filter fun t => !(t.path == p || belowL t.path p)

/-- All that TreeBack asks of a tree. -/
theorem back_facts (x : Sn) (hp : x.path ≠ []) {t : List Sn} (ht : Once t) (hn : ∀ s ∈ t, s.path ≠ []) :
    findL (putG Sn.path x t) x.path = (x, true) ∧ (findL (goneL x.path (putG Sn.path x t)) x.path).2 = false ∧
    ((goneL x.path (putG Sn.path x t)).filter fun s => belowL s.path x.path) = [] ∧
    ∀ (i : Nat) (s : Sn), t[i]? = some s → (s.path ≠ x.path → findL (putG Sn.path x t) s.path = (s, true)) ∧ (findL (goneL x.path (putG Sn.path x t)) s.path).2 = (!(s.path == x.path) && !underL s.path x.path) := by
  have hg : ∀ q, (goneL x.path (putG Sn.path x t)).find? (fun t => t.path == q) = if (!(q == x.path || belowL q x.path)) = true then (putG Sn.path x t).find? (fun t => t.path == q) else none := fun q =>
    find_filter_path (fun q => !(q == x.path || belowL q x.path)) q (putG Sn.path x t)
  refine ⟨find_of hp (find_put_self x t), ?_, ?_, fun i s hs => ?_⟩
  · refine find_no hp ?_
    rw [hg x.path]
    simp
  · rw [List.filter_eq_nil_iff]
    intro s hs
    unfold goneL at hs
    have := (List.mem_filter.1 hs).2
    simp at this
    simp [this.2]
  · have hsn := hn s (List.mem_of_getElem? hs)
    have hf := find_once ht hs
    refine ⟨fun hne => find_of hsn ((find_put_other x s.path hne t).trans hf), ?_⟩
    have h1 := hg s.path
    rw [below_under] at h1
    by_cases he : s.path = x.path
    · have hb : (s.path == x.path) = true := by simpa using he
      rw [hb] at h1 ⊢
      rw [find_no hsn (by rw [h1]; rfl)]
      rfl
    · have hb : (s.path == x.path) = false := by simpa using he
      rw [hb] at h1 ⊢
      cases hu : underL s.path x.path with
      | true =>
        rw [hu] at h1
        rw [find_no hsn (by rw [h1]; rfl)]
        rfl
      | false =>
        rw [hu] at h1
        have h2 : (goneL x.path (putG Sn.path x t)).find? (fun t => t.path == s.path) = some s := by
          rw [h1]
          exact (find_put_other x s.path he t).trans hf
        rw [find_of hsn h2]
        rfl

end Go.Proofs.Ytlbipmlbkcdmnaa
