
/-
  Clean paths: names, one behind the other; what is up, and ahead, of them.
-/
import Derived.Test.YtlbipmlbkcdmnaaGreatAuV
import Derived.Test.YtlbipmlbkcdmnaaGreatMerK
import Derived.Test.YtlbipmlbkcdmnaaGreatMerN
namespace Go.Proofs.YtlbipmlbkcdmnaaGreat
open Go.RowKit Go.Shelf

/-- A name that leads nowhere else. -/
def Nm (x : List UInt8) : Prop := x ≠ [] ∧ x ≠ [46] ∧ x ≠ [46, 46] ∧ (47 : UInt8) ∉ x
def Nms (xs : List (List UInt8)) : Prop := ∀ x ∈ xs, Nm x
def jo (xs : List (List UInt8)) : List UInt8 := Lib.join xs [47]

theorem jo_nil : jo [] = [] := rfl
theorem jo_one (x : List UInt8) : jo [x] = x := Lib.join_one x _
theorem jo_cons (x y : List UInt8) (r : List (List UInt8)) : jo (x :: y :: r) = x ++ 47 :: jo (y :: r) := by
  unfold jo
  rw [Lib.join_cons, Lib.join_cons]
  simp [Lib.joinTail]

theorem jo_ne {xs : List (List UInt8)} (h : Nms xs) (hx : xs ≠ []) : jo xs ≠ [] := by
  cases xs with
  | nil => exact absurd rfl hx
  | cons x r =>
    intro e
    unfold jo at e
    rw [Lib.join_cons] at e
    exact (h x (by simp)).1 (List.append_eq_nil_iff.1 e).1

theorem jo_append : ∀ {xs ys : List (List UInt8)}, xs ≠ [] → ys ≠ [] → jo (xs ++ ys) = jo xs ++ 47 :: jo ys
  | [], _, h, _ => absurd rfl h
  | [x], [], _, h => absurd rfl h
  | [x], y :: r, _, _ => by rw [List.singleton_append, jo_cons, jo_one]
  | x :: y :: r, ys, _, h => by
    have ih := @jo_append (y :: r) ys (by simp) h
    rw [List.cons_append, List.cons_append, jo_cons, jo_cons, ← List.cons_append, ih]
    simp

theorem join_jo {xs ys : List (List UInt8)} (hx : Nms xs) (hy : Nms ys) : joinL (jo xs) (jo ys) = jo (xs ++ ys) := by
  unfold joinL
  by_cases h1 : xs = []
  · subst h1; rw [if_pos jo_nil]; rfl
  · rw [if_neg (jo_ne hx h1)]
    by_cases h2 : ys = []
    · subst h2; rw [if_pos jo_nil, List.append_nil]
    · rw [if_neg (jo_ne hy h2), jo_append h1 h2]

theorem split_nil : splitL [] = [[]] := rfl
theorem split_no : ∀ {x : List UInt8}, (47 : UInt8) ∉ x → splitL x = [x]
  | [], _ => rfl
  | b :: r, h => by
    have hb : b ≠ 47 := fun e => h (by simp [e])
    have ih := @split_no r (fun e => h (List.mem_cons_of_mem _ e))
    rw [splitL, if_neg hb, ih]
theorem split_slash : ∀ {x : List UInt8} (r : List UInt8), (47 : UInt8) ∉ x → splitL (x ++ 47 :: r) = x :: splitL r
  | [], r, _ => by rw [List.nil_append, splitL, if_pos rfl]
  | b :: t, r, h => by
    have hb : b ≠ 47 := fun e => h (by simp [e])
    have ih := @split_slash t r (fun e => h (List.mem_cons_of_mem _ e))
    rw [List.cons_append, splitL, if_neg hb, ih]

theorem split_jo : ∀ {xs : List (List UInt8)}, Nms xs → xs ≠ [] → splitL (jo xs) = xs
  | [], _, h => absurd rfl h
  | [x], h, _ => by rw [jo_one, split_no (h x (by simp)).2.2.2]
  | x :: y :: r, h, _ => by
    have ih := @split_jo (y :: r) (fun z hz => h z (List.mem_cons_of_mem _ hz)) (by simp)
    rw [jo_cons, split_slash _ (h x (by simp)).2.2.2, ih]

theorem name_of {x : List UInt8} (h : Nm x) : isName x = true := by
  unfold isName
  simp only [Bool.and_eq_true, Bool.not_eq_true', List.isEmpty_eq_false_iff, bne_iff_ne, ne_eq]
  exact ⟨h.1, h.2.1⟩

theorem names_jo {xs : List (List UInt8)} (h : Nms xs) : namesL (jo xs) = xs := by
  unfold namesL
  by_cases hx : xs = []
  · subst hx; rfl
  · rw [split_jo h hx, List.filter_eq_self]
    exact fun x hx => name_of (h x hx)

theorem split_mem : ∀ (s : List UInt8), ∀ x ∈ splitL s, (47 : UInt8) ∉ x
  | [], x, h => by
    rw [split_nil] at h
    simp at h
    rw [h]
    simp
  | b :: r, x, h => by
    have ih := split_mem r
    rw [splitL] at h
    split at h
    · rcases List.mem_cons.1 h with rfl | h
      · simp
      · exact ih x h
    · rename_i hb
      split at h
      · rename_i he
        simp at h
        rw [h]
        simp
        exact fun e => hb e.symm
      · rename_i y t he
        rcases List.mem_cons.1 h with rfl | h
        · intro hm
          rcases List.mem_cons.1 hm with e | hm
          · exact hb e.symm
          · exact ih y (by rw [he]; simp) hm
        · exact ih x (by rw [he]; exact List.mem_cons_of_mem _ h)

/-- What is clean: names. -/
theorem clean_names {s : List UInt8} (h : (cleanV s).2 = true) : Nms (namesL s) ∧ (cleanV s).1 = jo (namesL s) := by
  unfold cleanV at h ⊢
  split at h
  · cases h
  · rename_i h1
    split at h
    · cases h
    · rename_i h2
      rw [if_neg h1, if_neg h2]
      refine ⟨fun x hx => ?_, rfl⟩
      obtain ⟨hm, hn⟩ := List.mem_filter.1 hx
      unfold isName at hn
      simp only [Bool.and_eq_true, Bool.not_eq_true', List.isEmpty_eq_false_iff, bne_iff_ne, ne_eq] at hn
      exact ⟨hn.1, hn.2, fun e => h2 (e ▸ hx), split_mem s x hm⟩

theorem jo_head {xs : List (List UInt8)} (h : Nms xs) : Lib.hasPrefix (jo xs) [47] = false := by
  cases xs with
  | nil => rfl
  | cons x r =>
    unfold jo
    rw [Lib.join_cons]
    obtain ⟨h1, _, _, h4⟩ := h x (by simp)
    cases x with
    | nil => exact absurd rfl h1
    | cons b t =>
      have hb : (47 : UInt8) ≠ b := fun e => h4 (by simp [e])
      simp [Lib.hasPrefix, List.isPrefixOf, hb]

theorem clean_jo {xs : List (List UInt8)} (h : Nms xs) : cleanV (jo xs) = (jo xs, true) := by
  unfold cleanV
  rw [jo_head h, names_jo h]
  rw [if_neg (by simp), if_neg (fun e => (h _ e).2.2.1 rfl)]
  rfl

theorem clean_self {p : List UInt8} (h1 : (cleanV p).2 = true) (h2 : (cleanV p).1 = p) : ∃ xs, Nms xs ∧ p = jo xs := by
  obtain ⟨h3, h4⟩ := clean_names h1
  exact ⟨_, h3, h2.symm.trans h4⟩

/-- Up. -/
theorem up_slash (a b : List UInt8) (hb : (47 : UInt8) ∉ b) : upL (a ++ 47 :: b) = a := by
  unfold upL
  have hat : ∀ (p : List UInt8) (i : Nat) (hi : i < p.length), (ByteArray.mk p.toArray).data[i]! = p[i] := fun p i hi => by
    show p.toArray[i]! = p[i]
    rw [getElem!_pos p.toArray i (by simpa using hi)]
    simp
  have key : Lib.lastIndexByte ⟨(a ++ 47 :: b).toArray⟩ 47 = (a.length : Int) := by
    rcases Lib.lastIdx_spec ⟨(a ++ 47 :: b).toArray⟩ 47 (a ++ 47 :: b).length with ⟨_, h2⟩ | ⟨i, hi, h1, h2, h3⟩
    · have h := h2 a.length (by simp)
      rw [hat _ _ (by simp)] at h
      simp at h
    · have e : Lib.lastIndexByte ⟨(a ++ 47 :: b).toArray⟩ 47 = i := h1
      rw [e]
      rw [hat _ _ hi] at h2
      rcases Nat.lt_trichotomy i a.length with h | h | h
      · have h4 := h3 a.length h (by simp)
        rw [hat _ _ (by simp)] at h4
        simp at h4
      · rw [h]
      · exfalso
        have h5 : (a ++ 47 :: b)[i] = b[i - a.length - 1]'(by simp at hi; omega) := by
          rw [List.getElem_append_right (by omega), List.getElem_cons, dif_neg (by omega)]
        rw [h5] at h2
        have h6 : b[i - a.length - 1]'(by simp at hi; omega) = 47 := UInt8.toNat_inj.1 (show _ = 47 by omega)
        exact hb (h6 ▸ List.getElem_mem _)
  rw [key, show (max (a.length : Int) 0).toNat = a.length by omega, List.take_left]

theorem up_none (b : List UInt8) (hb : (47 : UInt8) ∉ b) : upL b = [] := by
  rcases Classical.em (upL b = []) with h | h
  · exact h
  · obtain ⟨r, hr⟩ := up_parts b h
    exact absurd (hr ▸ (by simp : (47 : UInt8) ∈ upL b ++ 47 :: r)) hb

theorem up_jo {xs : List (List UInt8)} {x : List UInt8} (h : Nm x) : upL (jo (xs ++ [x])) = jo xs := by
  by_cases hx : xs = []
  · subst hx
    rw [List.nil_append, jo_one, up_none _ h.2.2.2]
    rfl
  · rw [jo_append hx (by simp), jo_one, up_slash _ _ h.2.2.2]

/-- Below. -/
theorem jo_len_lt {xs ys : List (List UInt8)} (hx : Nms xs) (hy : Nms ys) (h : ys ≠ []) : (jo xs).length < (jo (xs ++ ys)).length := by
  have := List.length_pos_iff.2 (jo_ne hy h)
  by_cases h1 : xs = []
  · subst h1; rw [jo_nil, List.nil_append]; simpa using this
  · rw [jo_append h1 h]; simp

theorem below_jo {xs ys : List (List UInt8)} (hx : Nms xs) (hy : Nms ys) : belowP (jo xs) (jo (xs ++ ys)) = !ys.isEmpty := by
  unfold belowP
  by_cases h2 : ys = []
  · subst h2
    rw [List.append_nil]
    have hp : Lib.hasPrefix (jo xs) (jo xs ++ [47]) = false := by
      cases hb : Lib.hasPrefix (jo xs) (jo xs ++ [47]) with
      | false => rfl
      | true =>
        unfold Lib.hasPrefix at hb
        have := (List.isPrefixOf_iff_prefix.1 hb).length_le
        simp at this
        omega
    rw [hp]
    cases (jo xs) <;> simp
  · by_cases h1 : xs = []
    · subst h1
      have := jo_ne hy h2
      rw [List.nil_append, jo_nil]
      cases hj : jo ys with
      | nil => exact absurd hj this
      | cons b r => cases ys <;> simp at h2 ⊢
    · have hne := jo_ne hx h1
      rw [jo_append h1 h2]
      have hp : Lib.hasPrefix (jo xs ++ 47 :: jo ys) (jo xs ++ [47]) = true := by
        unfold Lib.hasPrefix
        rw [List.isPrefixOf_iff_prefix]
        exact ⟨jo ys, by simp⟩
      rw [hp]
      cases ys <;> simp at h2 ⊢

/-- The paths ahead, of a path below a root. -/
def dirsJ (xs zs : List (List UInt8)) : List (List UInt8) := (List.range zs.length).map fun k => jo (xs ++ zs.take (k + 1))

theorem dirsJ_snoc (xs zs : List (List UInt8)) (z : List UInt8) : dirsJ xs (zs ++ [z]) = dirsJ xs zs ++ [jo (xs ++ (zs ++ [z]))] := by
  unfold dirsJ
  rw [List.length_append, List.length_singleton, List.range_succ, List.map_append, List.map_singleton]
  congr 1
  · refine List.map_congr_left fun k hk => ?_
    rw [List.take_append_of_le_length (by have := List.mem_range.1 hk; omega)]
  · rw [List.take_of_length_le (by simp)]

theorem ups_jo {xs : List (List UInt8)} (hx : Nms xs) : ∀ (f : Nat) (zs : List (List UInt8)), Nms zs → zs.length < f → (upsF (jo xs) f (jo (xs ++ zs))).reverse = dirsJ xs zs
  | 0, _, _, h => absurd h (Nat.not_lt_zero _)
  | f + 1, zs, hz, h => by
    rw [upsF, below_jo hx hz]
    rcases List.eq_nil_or_concat zs with rfl | ⟨ys, y, rfl⟩
    · rfl
    · rw [List.concat_eq_append] at hz h ⊢
      have hy : Nms ys := fun z hm => hz z (by simp [hm])
      rw [if_pos (by simp), dirsJ_snoc, List.reverse_cons]
      rw [show xs ++ (ys ++ [y]) = (xs ++ ys) ++ [y] by simp, up_jo (hz y (by simp))]
      rw [ups_jo hx f ys hy (by simp at h; omega)]

theorem jo_count : ∀ {xs : List (List UInt8)}, Nms xs → xs.length ≤ (jo xs).length
  | [], _ => by simp
  | [x], h => by
    rw [jo_one]
    exact List.length_pos_iff.2 (h x (by simp)).1
  | x :: y :: r, h => by
    have ih := @jo_count (y :: r) (fun z hz => h z (List.mem_cons_of_mem _ hz))
    rw [jo_cons]
    simp only [List.length_append, List.length_cons] at ih ⊢
    omega

theorem ahead_jo {xs ys : List (List UInt8)} {y : List UInt8} (hx : Nms xs) (hy : Nms (ys ++ [y])) : aheadL (jo xs) (jo (xs ++ (ys ++ [y]))) = dirsJ xs ys := by
  have hys : Nms ys := fun z hm => hy z (by simp [hm])
  unfold aheadL
  rw [show xs ++ (ys ++ [y]) = (xs ++ ys) ++ [y] by simp, up_jo (hy y (by simp))]
  refine ups_jo hx _ ys hys ?_
  have h1 : Nms ((xs ++ ys) ++ [y]) := fun z hz => by
    rw [List.append_assoc] at hz
    rcases List.mem_append.1 hz with hz | hz
    · exact hx z hz
    · exact hy z hz
  have := jo_count h1
  simp only [List.length_append, List.length_singleton] at this
  omega

/-- Where a member is laid, below a clean root. -/
theorem where_jo {root name : List UInt8} (hc1 : (cleanV root).2 = true) (hc2 : (cleanV root).1 = root) (hw : (whereV root name).2 = true) :
    ∃ xs ys y, Nms xs ∧ Nms (ys ++ [y]) ∧ root = jo xs ∧ (whereV root name).1 = jo (xs ++ (ys ++ [y])) := by
  obtain ⟨xs, hx, hr⟩ := clean_self hc1 hc2
  unfold whereV at hw ⊢
  split at hw
  · cases hw
  · rename_i hn
    rw [if_neg hn]
    have hk : (cleanV name).2 = true := by
      cases h : (cleanV name).2 with
      | true => rfl
      | false => exact absurd (.inl h) hn
    obtain ⟨hy, he⟩ := clean_names hk
    have hne : namesL name ≠ [] := fun e => hn (.inr (by rw [he, e]; rfl))
    rcases List.eq_nil_or_concat (namesL name) with h | ⟨ys, y, h⟩
    · exact absurd h hne
    · rw [List.concat_eq_append] at h
      rw [h] at hy he
      refine ⟨xs, ys, y, hx, hy, hr, ?_⟩
      rw [hr, he]
      exact join_jo hx hy

end Go.Proofs.YtlbipmlbkcdmnaaGreat


/-
  What laying a member leaves: a tree that may be; what is not below the root; links.
-/
namespace Go.Proofs.YtlbipmlbkcdmnaaGreat
open Go.RowKit Go.Shelf

theorem Nms.left {xs ys : List (List UInt8)} (h : Nms (xs ++ ys)) : Nms xs := fun x hx => h x (List.mem_append_left _ hx)
theorem Nms.right {xs ys : List (List UInt8)} (h : Nms (xs ++ ys)) : Nms ys := fun x hx => h x (List.mem_append_right _ hx)
theorem Nms.append {xs ys : List (List UInt8)} (h : Nms xs) (k : Nms ys) : Nms (xs ++ ys) := fun x hx => (List.mem_append.1 hx).elim (h x) (k x)

/-- What a member is, where it is laid. -/
structure Laid (o : Opt) (ss : List Sn) (s : Sn) (xs ys : List (List UInt8)) (y : List UInt8) : Prop where
  nx : Nms xs
  ny : Nms (ys ++ [y])
  root : o.root = jo xs
  path : s.path = jo (xs ++ (ys ++ [y]))
  dir : isAt ss o.root 53 = true
  open' : ∀ a ∈ dirsJ xs ys, thereAt ss a = true → isAt ss a 53 = true
  good : goodS s = true
  link : s.kind = 50 → o.links = true ∧ (targetV o.root s.path s.link).2 = true

theorem path_good {zs : List (List UInt8)} (hz : Nms zs) (h : zs ≠ []) : (cleanV (jo zs)).2 = true ∧ (cleanV (jo zs)).1 = jo zs ∧ (jo zs).isEmpty = false := by
  rw [clean_jo hz]
  exact ⟨rfl, rfl, emp (jo_ne hz h)⟩

theorem goodS_of {p : List UInt8} {k : Int} {d : List Int} {l : List UInt8} {zs : List (List UInt8)} (hp : p = jo zs) (hz : Nms zs) (h : zs ≠ []) (hk : (k = 48 ∧ l = []) ∨ (k = 53 ∧ d = [] ∧ l = []) ∨ (k = 50 ∧ d = [] ∧ l ≠ [])) : goodS ⟨p, k, d, l⟩ = true := by
  obtain ⟨h1, h2, h3⟩ := path_good hz h
  unfold goodS
  subst hp
  rcases hk with ⟨rfl, rfl⟩ | ⟨rfl, rfl, rfl⟩ | ⟨rfl, rfl, hl⟩
  · simp [h1, h2, h3]
  · simp [h1, h2, h3]
  · have := emp hl
    simp [h1, h2, h3, this]

theorem one_cases (o : Opt) (ss : List Sn) (m : Mem) : (oneV o ss m).1 = ss ∨ ∃ xs ys y s, Laid o ss s xs ys y ∧ (oneV o ss m).1 = layL o.root s ss := by
  unfold oneV
  split
  · rename_i hR
    simp only [Bool.and_eq_true, beq_iff_eq] at hR
    obtain ⟨⟨hc1, hc2⟩, hd⟩ := hR
    split
    · rename_i hW
      obtain ⟨xs, ys, y, hx, hy, hr, hp⟩ := where_jo hc1 hc2 hW
      split
      · rename_i hO
        have hop : ∀ a ∈ dirsJ xs ys, thereAt ss a = true → isAt ss a 53 = true := fun a ha ht => by
          rw [hr, ← hr, hp, hr, ahead_jo hx hy] at hO
          have := List.all_eq_true.1 hO a ha
          rw [ht] at this
          simpa using this
        have hz : Nms (xs ++ (ys ++ [y])) := hx.append hy
        have hzn : xs ++ (ys ++ [y]) ≠ [] := by simp
        generalize (whereV o.root m.name).1 = p at hp
        clear hO hW
        have mk : ∀ k d l, ((k = 48 ∧ l = []) ∨ (k = 53 ∧ d = [] ∧ l = []) ∨ (k = 50 ∧ d = [] ∧ l ≠ [])) → (k = 50 → o.links = true ∧ (targetV o.root p l).2 = true) → ∃ xs ys y s, Laid o ss s xs ys y ∧ layL o.root ⟨p, k, d, l⟩ ss = layL o.root s ss :=
          fun k d l h1 h2 => ⟨xs, ys, y, ⟨p, k, d, l⟩, ⟨hx, hy, hr, hp, hd, hop, goodS_of hp hz hzn h1, h2⟩, rfl⟩
        have mkp : ∀ k d l, ((k = 48 ∧ l = []) ∨ (k = 53 ∧ d = [] ∧ l = []) ∨ (k = 50 ∧ d = [] ∧ l ≠ [])) → (k = 50 → o.links = true ∧ (targetV o.root p l).2 = true) → (putE o ss ⟨p, k, d, l⟩).1 = ss ∨ ∃ xs ys y s, Laid o ss s xs ys y ∧ (putE o ss ⟨p, k, d, l⟩).1 = layL o.root s ss := by
          intro k d l h1 h2
          unfold putE
          split
          · exact .inl rfl
          · exact .inr (mk k d l h1 h2)
        unfold kindE
        split
        · unfold dirE
          split
          · exact .inl rfl
          · split
            · exact .inl rfl
            · exact .inr (mk 53 [] [] (.inr (.inl ⟨rfl, rfl, rfl⟩)) (fun e => absurd e (by decide)))
        · split
          · unfold fileE
            split
            · split
              · exact .inl rfl
              · exact mkp 48 _ [] (.inl ⟨rfl, rfl⟩) (fun e => absurd e (by decide))
            · exact mkp 48 _ [] (.inl ⟨rfl, rfl⟩) (fun e => absurd e (by decide))
          · split
            · unfold softE
              split
              · rename_i hl
                split
                · rename_i ht
                  refine mkp 50 [] m.link (.inr (.inr ⟨rfl, rfl, fun e => ?_⟩)) (fun _ => ⟨hl, ht⟩)
                  rw [e] at ht
                  unfold targetV at ht
                  simp at ht
                · exact .inl rfl
              · exact .inl rfl
            · split
              · unfold hardE
                split
                · split
                  · exact mkp 48 _ [] (.inl ⟨rfl, rfl⟩) (fun e => absurd e (by decide))
                  · exact .inl rfl
                · exact .inl rfl
              · exact .inl rfl
      · exact .inl rfl
    · exact .inl rfl
  · exact .inl rfl

/-- Whether it's there; a directory. -/
theorem there_iff {ss : List Sn} {q : List UInt8} : thereAt ss q = true ↔ (q = [] ∨ ∃ m ∈ ss, m.path = q) := by
  unfold thereAt findL
  split
  · rename_i h; simp [h]
  · rename_i h
    split
    · rename_i t ht
      have h1 := List.mem_of_find?_eq_some ht
      have h2 := List.find?_some ht
      simp only [true_iff]
      exact .inr ⟨t, h1, by simpa using h2⟩
    · rename_i hn
      rw [List.find?_eq_none] at hn
      constructor
      · intro h'; cases h'
      · rintro (h' | ⟨m, hm, e⟩)
        · exact absurd h' h
        · exact absurd (by simpa using e) (hn m hm)

theorem dirAt_iff {ss : List Sn} (hs : ss.Pairwise (fun a b => lt a.path b.path)) {q : List UInt8} : isAt ss q 53 = true ↔ (q = [] ∨ ∃ m ∈ ss, m.path = q ∧ m.kind = 53) := by
  rw [← find_dir hs q]
  unfold isAt
  simp

/-- One more, where its directory is, and it isn't there yet. -/
theorem OkTree.more {t : List Sn} (h : OkTree t) (x : Sn) (hg : goodS x = true) (hu : upL x.path = [] ∨ ∃ m ∈ t, m.path = upL x.path ∧ m.kind = 53) (hn : ∀ m ∈ t, m.path ≠ x.path) : OkTree (putG Sn.path x t) := by
  refine ⟨putG_sorted _ h.1, fun s hs => ?_⟩
  rcases mem_putG hs with rfl | hs
  · refine ⟨hg, hu.imp_right ?_⟩
    rintro ⟨m, hm, h1, h2⟩
    exact ⟨m, putG_has hm (hn m hm), h1, h2⟩
  · obtain ⟨h1, h2⟩ := h.2 s hs
    refine ⟨h1, h2.imp_right ?_⟩
    rintro ⟨m, hm, h3, h4⟩
    exact ⟨m, putG_has hm (hn m hm), h3, h4⟩

theorem dirs_ok {t : List Sn} {xs : List (List UInt8)} (h : OkTree t) (hx : Nms xs) (hd : isAt t (jo xs) 53 = true) :
    ∀ (n : Nat) (zs : List (List UInt8)), zs.length = n → Nms zs → (∀ a ∈ dirsJ xs zs, thereAt t a = true → isAt t a 53 = true) →
    OkTree ((dirsJ xs zs).foldl layDir t) ∧ isAt ((dirsJ xs zs).foldl layDir t) (jo (xs ++ zs)) 53 = true ∧
    (∀ q, isAt t q 53 = true → isAt ((dirsJ xs zs).foldl layDir t) q 53 = true) ∧ (∀ q, thereAt ((dirsJ xs zs).foldl layDir t) q = true → thereAt t q = true ∨ isAt ((dirsJ xs zs).foldl layDir t) q 53 = true)
  | 0, zs, hz, _, _ => by
    have : zs = [] := List.eq_nil_of_length_eq_zero hz
    subst this
    rw [List.append_nil]
    exact ⟨h, hd, fun _ hq => hq, fun _ hq => .inl hq⟩
  | n + 1, zs, hz, hzn, hop => by
    rcases List.eq_nil_or_concat zs with rfl | ⟨us, u, rfl⟩
    · simp at hz
    · rw [List.concat_eq_append] at hz hzn hop ⊢
      have hus := hzn.left
      rw [dirsJ_snoc] at hop ⊢
      obtain ⟨i1, i2, i3, i4⟩ := dirs_ok h hx hd n us (by simpa using hz) hus (fun a ha => hop a (List.mem_append_left _ ha))
      rw [List.foldl_append, List.foldl_cons, List.foldl_nil]
      generalize (dirsJ xs us).foldl layDir t = t1 at i1 i2 i3 i4
      have hxu : Nms (xs ++ (us ++ [u])) := hx.append hzn
      have hup : upL (jo (xs ++ (us ++ [u]))) = jo (xs ++ us) := by
        rw [show xs ++ (us ++ [u]) = (xs ++ us) ++ [u] by simp]
        exact up_jo (hzn u (by simp))
      have hopa := hop (jo (xs ++ (us ++ [u]))) (List.mem_append_right _ (by simp))
      have hga : goodS ⟨jo (xs ++ (us ++ [u])), 53, [], []⟩ = true := goodS_of rfl hxu (by simp) (.inr (.inl ⟨rfl, rfl, rfl⟩))
      generalize jo (xs ++ (us ++ [u])) = a at hup hopa hga ⊢
      unfold layDir
      split
      · rename_i hth
        have h1 : isAt t1 a 53 = true := by
          rcases i4 a hth with h2 | h2
          · exact i3 a (hopa h2)
          · exact h2
        exact ⟨i1, h1, i3, i4⟩
      · rename_i hth
        have hno : ∀ m ∈ t1, m.path ≠ (⟨a, 53, [], []⟩ : Sn).path := fun m hm e => hth (there_iff.2 (.inr ⟨m, hm, e⟩))
        have hok : OkTree (putG Sn.path ⟨a, 53, [], []⟩ t1) := i1.more _ hga (by
          have := (dirAt_iff i1.1).1 i2
          rw [← hup] at this
          exact this) hno
        have hself : (⟨a, 53, [], []⟩ : Sn) ∈ putG Sn.path ⟨a, 53, [], []⟩ t1 := List.mem_of_find?_eq_some (find_put_self ⟨a, 53, [], []⟩ t1)
        have hself2 : isAt (putG Sn.path ⟨a, 53, [], []⟩ t1) a 53 = true := (dirAt_iff hok.1).2 (.inr ⟨_, hself, rfl, rfl⟩)
        have hkeep : ∀ q, isAt t1 q 53 = true → isAt (putG Sn.path ⟨a, 53, [], []⟩ t1) q 53 = true := fun q hq => by
          refine (dirAt_iff hok.1).2 (((dirAt_iff i1.1).1 hq).imp_right ?_)
          rintro ⟨m, hm, h1, h2⟩
          exact ⟨m, putG_has hm (hno m hm), h1, h2⟩
        refine ⟨hok, hself2, fun q hq => hkeep q (i3 q hq), fun q hq => ?_⟩
        rcases there_iff.1 hq with rfl | ⟨m, hm, rfl⟩
        · exact .inl (there_iff.2 (.inl rfl))
        · rcases mem_putG hm with rfl | hm
          · exact .inr hself2
          · exact (i4 m.path (there_iff.2 (.inr ⟨m, hm, rfl⟩))).imp_right (hkeep _)

/-- A node, in place of what was there, and below it. -/
theorem OkTree.lay {t : List Sn} (h : OkTree t) (x : Sn) (hg : goodS x = true) (hu : upL x.path = [] ∨ ∃ m ∈ t, m.path = upL x.path ∧ m.kind = 53) : OkTree (putG Sn.path x (goneL x.path t)) := by
  have hp : x.path ≠ [] := good_ne hg
  refine (h.gone x.path).more x hg ?_ fun m hm => (mem_gone.1 hm).2.1
  by_cases hn : upL x.path = []
  · exact .inl hn
  · rcases hu with hu | ⟨m, hm, h1, h2⟩
    · exact absurd hu hn
    · have hlt := up_lt x.path hp
      have hmp : m.path ≠ x.path := fun e => by
        rw [← h1, e] at hlt
        exact lt_irrefl _ hlt
      refine .inr ⟨m, mem_gone.2 ⟨hm, hmp, ?_⟩, h1, h2⟩
      cases hb : belowL m.path x.path with
      | false => rfl
      | true =>
        rw [h1] at hb
        have := below_up hn (.inr hb)
        rcases (below_iff _ _).1 this with h | h
        · exact absurd h hp
        · have := h.length_le
          simp at this
          omega

theorem Laid.ahead {o : Opt} {ss : List Sn} {s : Sn} {xs ys : List (List UInt8)} {y : List UInt8} (h : Laid o ss s xs ys y) : aheadL o.root s.path = dirsJ xs ys := by
  rw [h.root, h.path]
  exact ahead_jo h.nx h.ny

theorem Laid.ok {o : Opt} {ss : List Sn} {s : Sn} {xs ys : List (List UInt8)} {y : List UInt8} (h : Laid o ss s xs ys y) (ht : OkTree ss) : OkTree (layL o.root s ss) := by
  unfold layL
  rw [h.ahead]
  obtain ⟨i1, i2, _, _⟩ := dirs_ok ht h.nx (h.root ▸ h.dir) ys.length ys rfl h.ny.left h.open'
  refine i1.lay s h.good ?_
  have hup : upL s.path = jo (xs ++ ys) := by
    rw [h.path, show xs ++ (ys ++ [y]) = (xs ++ ys) ++ [y] by simp]
    exact up_jo (h.ny y (by simp))
  rw [hup]
  exact (dirAt_iff i1.1).1 i2

/-- A tree that may be may be then. -/
theorem one_ok (o : Opt) {ss : List Sn} (m : Mem) (h : OkTree ss) : OkTree (oneV o ss m).1 := by
  rcases one_cases o ss m with e | ⟨xs, ys, y, s, hl, e⟩
  · rw [e]; exact h
  · rw [e]; exact hl.ok h
theorem tree_ok (o : Opt) : ∀ (ms : List Mem) {ss : List Sn}, OkTree ss → OkTree (treeV o ss ms)
  | [], _, h => h
  | m :: r, ss, h => by
    unfold treeV
    rw [List.foldl_cons]
    exact tree_ok o r (one_ok o m h)

/-- What a lot of layings keeps: P of a tree. -/
theorem tree_keeps (o : Opt) {P : List Sn → Prop} (hP : ∀ {ss s xs ys y}, P ss → Laid o ss s xs ys y → P (layL o.root s ss)) : ∀ (ms : List Mem) {ss : List Sn}, P ss → P (treeV o ss ms)
  | [], _, h => h
  | m :: r, ss, h => by
    unfold treeV
    rw [List.foldl_cons]
    refine tree_keeps o hP r ?_
    rcases one_cases o ss m with e | ⟨xs, ys, y, s, hl, e⟩
    · rw [e]; exact h
    · rw [e]; exact hP h hl

/-- No path twice; none is empty. -/
def Named (ss : List Sn) : Prop := Once ss ∧ ∀ s ∈ ss, s.path ≠ []

theorem Named.put {ss : List Sn} (h : Named ss) {x : Sn} (hx : x.path ≠ []) : Named (putG Sn.path x ss) :=
  ⟨h.1.put x, fun s hs => (mem_putG hs).elim (fun e => e ▸ hx) (h.2 s)⟩
theorem Named.gone {ss : List Sn} (h : Named ss) (p : List UInt8) : Named (goneL p ss) :=
  ⟨List.Pairwise.sublist (List.Sublist.map Sn.path (List.filter_sublist)) h.1, fun s hs => h.2 s (mem_gone.1 hs).1⟩

theorem dirs_named : ∀ (al : List (List UInt8)) {ss : List Sn}, Named ss → (∀ a ∈ al, a ≠ []) → Named (al.foldl layDir ss)
  | [], _, h, _ => h
  | a :: r, ss, h, ha => by
    rw [List.foldl_cons]
    refine dirs_named r ?_ fun x hx => ha x (List.mem_cons_of_mem _ hx)
    unfold layDir
    split
    · exact h
    · exact h.put (ha a (by simp))

theorem dirsJ_mem {xs zs : List (List UInt8)} (_hx : Nms xs) (hz : Nms zs) {a : List UInt8} (h : a ∈ dirsJ xs zs) : ∃ us, us ≠ [] ∧ Nms us ∧ a = jo (xs ++ us) := by
  unfold dirsJ at h
  obtain ⟨k, hk, rfl⟩ := List.mem_map.1 h
  have hk := List.mem_range.1 hk
  refine ⟨zs.take (k + 1), fun e => ?_, fun x hx => hz x (List.mem_of_mem_take hx), rfl⟩
  have := congrArg List.length e
  simp at this
  rw [this] at hk
  simp at hk

theorem Laid.names {o : Opt} {ss : List Sn} {s : Sn} {xs ys : List (List UInt8)} {y : List UInt8} (h : Laid o ss s xs ys y) (hn : Named ss) : Named (layL o.root s ss) := by
  unfold layL
  rw [h.ahead]
  refine Named.put (Named.gone (dirs_named _ hn fun a ha => ?_) _) (good_ne h.good)
  obtain ⟨us, h1, h2, rfl⟩ := dirsJ_mem h.nx h.ny.left ha
  exact jo_ne (h.nx.append h2) (by simp [h1])

/-- What is not below the root is found as it was. -/
theorem find_dirs {q : List UInt8} : ∀ (al : List (List UInt8)) (ss : List Sn), (∀ a ∈ al, a ≠ q) → (al.foldl layDir ss).find? (fun t => t.path == q) = ss.find? (fun t => t.path == q)
  | [], _, _ => rfl
  | a :: r, ss, ha => by
    rw [List.foldl_cons, find_dirs r _ fun x hx => ha x (List.mem_cons_of_mem _ hx)]
    unfold layDir
    split
    · rfl
    · exact find_put_other _ _ (fun e => ha a (by simp) e.symm) _

theorem under_jo {xs us : List (List UInt8)} (hx : Nms xs) (hu : Nms us) (h : us ≠ []) : underL (jo (xs ++ us)) (jo xs) = true := by
  rw [← below_under]
  have h1 := below_jo hx hu
  unfold belowP at h1
  unfold belowL
  have h2 : us.isEmpty = false := by cases us <;> simp at h ⊢
  rw [h2] at h1
  simp only [Bool.not_false, Bool.or_eq_true, Bool.and_eq_true] at h1
  rcases h1 with h1 | h1
  · rw [h1.1]; rfl
  · rw [h1]; simp

theorem under_trans {a b c : List UInt8} (h1 : underL a b = true) (h2 : underL b c = true) : underL a c = true := by
  rw [← below_under] at h1 h2 ⊢
  rw [below_iff] at h1 h2 ⊢
  rcases h2 with h2 | h2
  · exact .inl h2
  · rcases h1 with h1 | h1
    · subst h1
      have := h2.length_le
      simp at this
    · exact .inr (h2.trans ((List.prefix_append _ _).trans h1))

theorem Laid.out {o : Opt} {ss : List Sn} {s : Sn} {xs ys : List (List UInt8)} {y : List UInt8} (h : Laid o ss s xs ys y) {q : List UInt8} (hq : underL q o.root = false) :
    (layL o.root s ss).find? (fun t => t.path == q) = ss.find? (fun t => t.path == q) := by
  have hrs : underL s.path o.root = true := by
    rw [h.path, h.root]
    exact under_jo h.nx h.ny (by simp)
  have hne : q ≠ s.path := fun e => by rw [e, hrs] at hq; cases hq
  unfold layL goneL
  rw [find_put_other s q hne, find_filter_path (fun z => !(z == s.path || belowL z s.path)) q]
  have hb : belowL q s.path = false := by
    cases hb : belowL q s.path with
    | false => rfl
    | true =>
      rw [below_under] at hb
      rw [under_trans hb hrs] at hq
      cases hq
  have hc : (!(q == s.path || belowL q s.path)) = true := by
    rw [hb, Bool.or_false]
    simpa using hne
  rw [if_pos hc, h.ahead]
  refine find_dirs _ _ fun a ha => ?_
  rintro rfl
  obtain ⟨us, h1, h2, rfl⟩ := dirsJ_mem h.nx h.ny.left ha
  rw [h.root, under_jo h.nx h2 h1] at hq
  cases hq

theorem tree_out (o : Opt) (ms : List Mem) (ss : List Sn) {q : List UInt8} (hq : underL q o.root = false) : findL (treeV o ss ms) q = findL ss q := by
  have h := tree_keeps o (P := fun t => t.find? (fun t => t.path == q) = ss.find? (fun t => t.path == q)) (fun hP hl => (hl.out hq).trans hP) ms rfl
  unfold findL
  rw [h]

/-- What is laid: the node, directories, what was there. -/
theorem dirs_mem : ∀ (al : List (List UInt8)) {ss : List Sn} {s : Sn}, s ∈ al.foldl layDir ss → s.kind = 53 ∨ s ∈ ss
  | [], _, _, h => .inr h
  | a :: r, ss, s, h => by
    rw [List.foldl_cons] at h
    rcases dirs_mem r h with h | h
    · exact .inl h
    · unfold layDir at h
      split at h
      · exact .inr h
      · exact (mem_putG h).imp_left fun e => by rw [e]

theorem lay_mem {root : List UInt8} {s t : Sn} {ss : List Sn} (h : t ∈ layL root s ss) : t = s ∨ t.kind = 53 ∨ t ∈ ss := by
  unfold layL at h
  exact (mem_putG h).imp_right fun h => dirs_mem _ (mem_gone.1 h).1

/-- Links: as they were, or inside. -/
theorem tree_links (o : Opt) (ms : List Mem) (ss : List Sn) : ∀ s ∈ treeV o ss ms, s.kind = 50 → s ∈ ss ∨ (o.links = true ∧ (targetV o.root s.path s.link).2 = true) := by
  refine tree_keeps o (P := fun t => ∀ s ∈ t, s.kind = 50 → s ∈ ss ∨ (o.links = true ∧ (targetV o.root s.path s.link).2 = true)) ?_ ms fun s hs _ => .inl hs
  intro ss' s xs ys y hP hl t ht hk
  rcases lay_mem ht with rfl | h | h
  · exact .inr (hl.link hk)
  · rw [h] at hk; cases hk
  · exact hP t h hk

end Go.Proofs.YtlbipmlbkcdmnaaGreat
