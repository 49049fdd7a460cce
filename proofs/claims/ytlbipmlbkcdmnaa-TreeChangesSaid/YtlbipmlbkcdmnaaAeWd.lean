/-
  Nodes that read alike, through the changes of a tree: plain laws.
-/
import Derived.Test.YtlbipmlbkcdmnaaAcWd
namespace Go.Proofs.Ytlbipmlbkcdmnaa
open Go.RowKit Go.Shelf

theorem like_nil {w : World} {ss : List Sn} (h : Like w [] ss) : ss = [] := List.eq_nil_of_length_eq_zero h.1.symm
theorem like_nil2 (w : World) : Like w [] [] := ⟨rfl, fun j x s hx => by simp at hx⟩
theorem like_cons {w : World} {x : Nd} {r : List Nd} {ss : List Sn} (h : Like w (x :: r) ss) : ∃ s t, ss = s :: t ∧ NdAt w x s ∧ Like w r t := by
  obtain ⟨h1, h2⟩ := h
  cases ss with
  | nil => simp at h1
  | cons s t => exact ⟨s, t, rfl, h2 0 x s rfl rfl, by simpa using h1, fun j y u hy hu => h2 (j + 1) y u (by simpa using hy) (by simpa using hu)⟩
theorem like_mk {w : World} {x : Nd} {r : List Nd} {s : Sn} {t : List Sn} (h : NdAt w x s) (h2 : Like w r t) : Like w (x :: r) (s :: t) :=
  ⟨by simp [h2.1], fun j y u hy hu => by
    cases j with
    | zero => cases hy; cases hu; exact h
    | succ j => exact h2.2 j y u (by simpa using hy) (by simpa using hu)⟩

theorem like_filter {w : World} {p : Nd → Bool} {q : Sn → Bool} (hpq : ∀ x s, NdAt w x s → p x = q s) : ∀ {ns : List Nd} {ss : List Sn}, Like w ns ss → Like w (ns.filter p) (ss.filter q)
  | [], ss, h => by rw [like_nil h]; exact like_nil2 w
  | x :: r, ss, h => by
    obtain ⟨s, t, rfl, h1, h2⟩ := like_cons h
    have ih := like_filter hpq h2
    rw [List.filter_cons, List.filter_cons, hpq x s h1]
    split
    · exact like_mk h1 ih
    · exact ih

theorem like_put {w : World} {x : Nd} {s : Sn} (hx : NdAt w x s) : ∀ {ns : List Nd} {ss : List Sn}, Like w ns ss → Like w (putG Nd.path x ns) (putG Sn.path s ss)
  | [], ss, h => by rw [like_nil h]; exact like_mk hx (like_nil2 w)
  | y :: r, ss, h => by
    obtain ⟨u, t, rfl, h1, h2⟩ := like_cons h
    have ih := like_put hx h2
    rw [putG, putG, h1.1, hx.1]
    split
    · exact ih
    · split
      · exact like_mk hx (like_mk h1 (like_filter (fun a b hab => by rw [hab.1]) h2))
      · exact like_mk h1 ih

theorem like_below {w : World} {ns : List Nd} {ss : List Sn} (h : Like w ns ss) (s : List UInt8) : Like w (ns.filter fun x => underL x.path s) (ss.filter fun x => underL x.path s) :=
  like_filter (fun x t hxt => by rw [hxt.1]) h
theorem like_remove {w : World} {ns : List Nd} {ss : List Sn} (h : Like w ns ss) (s : List UInt8) : Like w (ns.filter fun x => !(x.path == s || underL x.path s)) (ss.filter fun x => !(x.path == s || underL x.path s)) :=
  like_filter (fun x t hxt => by rw [hxt.1]) h

/-- Bounds of all texts of a tree. -/
theorem like_paths {w : World} {ns : List Nd} {ss : List Sn} (h : Like w ns ss) {m : Nat} (hs : ∀ s ∈ ss, s.path.length ≤ m) : ∀ x ∈ ns, x.path.length ≤ m := by
  intro x hx
  obtain ⟨j, hj, rfl⟩ := List.getElem_of_mem hx
  have ht : ss[j]? = some (ss[j]'(by rw [← h.1]; exact hj)) := List.getElem?_eq_getElem _
  rw [(h.2 j _ _ (List.getElem?_eq_getElem hj) ht).1]
  exact hs _ (List.mem_of_getElem? ht)

end Go.Proofs.Ytlbipmlbkcdmnaa
