
/-
  Whether a node may be, and a tree: the document's words.
-/
import Derived.Test.YtlbipmlbkcdmnaaGreatMerH
import Derived.Deep.CutRange
namespace Go.Proofs.YtlbipmlbkcdmnaaGreat
open Go.RowKit Go.Shelf

def goodS (s : Sn) : Bool :=
  (cleanV s.path).2 && (cleanV s.path).1 == s.path && !s.path.isEmpty && ((s.kind == 50) == !s.link.isEmpty) && (s.kind == 48 || s.data.isEmpty && (s.kind == 53 || s.kind == 50))

/-- What the document asks first: the path. -/
def pathBad (s : Sn) (prev : Option (List UInt8)) : Bool :=
  !(cleanV s.path).2 || (cleanV s.path).1 != s.path || s.path.isEmpty || (match prev with | none => false | some q => !(Op.bytesLess q s.path))
/-- Then the rest. -/
def restBad (s : Sn) : Bool :=
  s.kind != 48 && s.kind != 53 && s.kind != 50 || s.kind != 48 && !s.data.isEmpty || ((s.kind == 50) != !s.link.isEmpty)

def prevOf (ss : List Sn) (k : Nat) : Option (List UInt8) := if k = 0 then none else (ss[k - 1]?).map Sn.path
def rightAt (ss : List Sn) (k : Nat) (s : Sn) : Bool :=
  !pathBad s (prevOf ss k) && !restBad s && (findL ss (upL s.path)).2 && (findL ss (upL s.path)).1.kind == 53

end Go.Proofs.YtlbipmlbkcdmnaaGreat


/-
  Whether a tree may be: the document's Right.
-/
namespace Go.Proofs.YtlbipmlbkcdmnaaGreat
open Go.RowKit Go.Shelf

def rightIdx (ss : List Sn) (k : Nat) : Bool := match ss[k]? with | some s => rightAt ss k s | none => true
def rightS (ss : List Sn) : Bool := (List.range ss.length).all (rightIdx ss)

end Go.Proofs.YtlbipmlbkcdmnaaGreat


/-
  The two ways to say that a tree may be are one; what stays so, and with what more: plain laws.
-/
namespace Go.Proofs.YtlbipmlbkcdmnaaGreat
open Go.RowKit Go.Shelf

abbrev lt (a b : List UInt8) : Prop := Op.bytesLess a b = true

theorem lt_irrefl : ∀ a : List UInt8, ¬ lt a a
  | [], h => by simp [lt, Op.bytesLess] at h
  | a :: r, h => by
    have ih := lt_irrefl r
    simp [lt, Op.bytesLess] at h ih
    rw [ih] at h
    cases h

theorem lt_trans : ∀ {a b c : List UInt8}, lt a b → lt b c → lt a c
  | _, _, [], _, h2 => by simp [lt, Op.bytesLess] at h2
  | _, [], _ :: _, h1, _ => by simp [lt, Op.bytesLess] at h1
  | [], _ :: _, _ :: _, _, _ => rfl
  | x :: a, y :: b, z :: c, h1, h2 => by
    simp only [lt, Op.bytesLess, Bool.or_eq_true, Bool.and_eq_true, decide_eq_true_eq, beq_iff_eq] at h1 h2 ⊢
    rcases h1 with h1 | ⟨rfl, h1⟩
    · rcases h2 with h2 | ⟨rfl, h2⟩
      · exact .inl (UInt8.lt_trans h1 h2)
      · exact .inl h1
    · rcases h2 with h2 | ⟨rfl, h2⟩
      · exact .inl h2
      · exact .inr ⟨rfl, lt_trans h1 h2⟩

theorem lt_total : ∀ a b : List UInt8, lt a b ∨ a = b ∨ lt b a
  | [], [] => .inr (.inl rfl)
  | [], _ :: _ => .inl rfl
  | _ :: _, [] => .inr (.inr rfl)
  | x :: a, y :: b => by
    simp only [lt, Op.bytesLess, Bool.or_eq_true, Bool.and_eq_true, decide_eq_true_eq, beq_iff_eq]
    have hx : x < y ∨ x = y ∨ y < x := by
      have h1 : x.toNat < y.toNat ∨ x.toNat = y.toNat ∨ y.toNat < x.toNat := by omega
      rcases h1 with h | h | h
      · exact .inl h
      · exact .inr (.inl (UInt8.toNat_inj.1 h))
      · exact .inr (.inr h)
    rcases hx with h | rfl | h
    · exact .inl (.inl h)
    · rcases lt_total a b with h | rfl | h
      · exact .inl (.inr ⟨rfl, h⟩)
      · exact .inr (.inl rfl)
      · exact .inr (.inr (.inr ⟨rfl, h⟩))
    · exact .inr (.inr (.inl h))

theorem lt_nil {a : List UInt8} (h : a ≠ []) : lt [] a := by
  cases a with
  | nil => exact absurd rfl h
  | cons x r => rfl

theorem lt_prefix : ∀ (a b : List UInt8), b ≠ [] → lt a (a ++ b)
  | [], b, h => lt_nil h
  | x :: a, b, h => by
    have := lt_prefix a b h
    simp only [lt, List.cons_append, Op.bytesLess, Bool.or_eq_true, Bool.and_eq_true, decide_eq_true_eq, beq_iff_eq]
    exact .inr ⟨trivial, this⟩

/-- Up is ahead: a path is Up of it, and more. -/
theorem up_parts (p : List UInt8) (h : upL p ≠ []) : ∃ r, p = upL p ++ 47 :: r := by
  unfold upL at h ⊢
  rcases Lib.lastIdx_spec ⟨p.toArray⟩ 47 p.length with ⟨h1, _⟩ | ⟨i, hi, h1, h2⟩
  · have : Lib.lastIndexByte ⟨p.toArray⟩ 47 = -1 := h1
    rw [this, show (max (-1 : Int) 0).toNat = 0 from rfl] at h
    exact absurd List.take_zero h
  · have e : Lib.lastIndexByte ⟨p.toArray⟩ 47 = i := h1
    rw [e]
    have hi' : i < p.length := hi
    have hx := h2.1
    rw [at_mk p i hi'] at hx
    have e2 : (ByteArray.mk p.toArray)[i]'hi' = p[i] := rfl
    rw [e2] at hx
    have hx2 : p[i] = 47 := UInt8.toNat_inj.1 (show p[i].toNat = 47 by omega)
    refine ⟨p.drop (i + 1), ?_⟩
    rw [show (max (i : Int) 0).toNat = i by omega, ← hx2, ← List.drop_eq_getElem_cons hi', List.take_append_drop]

theorem up_lt (p : List UInt8) (hp : p ≠ []) : lt (upL p) p := by
  by_cases h : upL p = []
  · rw [h]; exact lt_nil hp
  · obtain ⟨r, hr⟩ := up_parts p h
    have := lt_prefix (upL p) (47 :: r) (by simp)
    rwa [← hr] at this

def OkTree (ss : List Sn) : Prop := ss.Pairwise (fun a b => lt a.path b.path) ∧ ∀ s ∈ ss, goodS s = true ∧ (upL s.path = [] ∨ ∃ m ∈ ss, m.path = upL s.path ∧ m.kind = 53)

theorem good_ne {s : Sn} (h : goodS s = true) : s.path ≠ [] := by
  unfold goodS at h
  simp only [Bool.and_eq_true] at h
  intro e
  rw [e] at h
  simp at h

/-- tree.Right's list walk, on what is read. -/
def rightW (f : List UInt8 → Bool) (last : List UInt8) : List Sn → Bool
  | [] => true
  | s :: r => goodS s && !(Op.bytesLess s.path last || s.path == last) && f (upL s.path) && rightW (setD f s.path (s.kind == 53)) s.path r

theorem formed_good {w : World} {x : Nd} {s : Sn} (h : NdAt w x s) : formedL x = goodS s := by
  unfold formedL goodS
  have hl : x.len = s.data.length := h.2.2.2.1.1.symm
  rw [h.1, h.2.1, h.2.2.1, hl]
  cases s.data <;> simp

theorem rightL_W {w : World} : ∀ {ns : List Nd} {ss : List Sn} (f : List UInt8 → Bool) (last : List UInt8), Like w ns ss → rightL f last ns = rightW f last ss
  | [], ss, f, last, h => by rw [like_nil h]; rfl
  | x :: r, ss, f, last, h => by
    obtain ⟨s, t, rfl, h1, h2⟩ := like_cons h
    rw [rightL, rightW, formed_good h1, rightL_W _ _ h2, h1.1, h1.2.1]

theorem W_ok : ∀ (t p : List Sn) (f : List UInt8 → Bool) (last : List UInt8), p.Pairwise (fun a b => lt a.path b.path) → (∀ s ∈ p, s.path ≠ [] ∧ (lt s.path last ∨ s.path = last)) → (last = [] ∨ ∃ s ∈ p, s.path = last) →
    (∀ q, f q = true ↔ (q = [] ∨ ∃ m ∈ p, m.path = q ∧ m.kind = 53)) →
    (rightW f last t = true ↔ ((p ++ t).Pairwise (fun a b => lt a.path b.path) ∧ ∀ s ∈ t, goodS s = true ∧ (upL s.path = [] ∨ ∃ m ∈ p ++ t, m.path = upL s.path ∧ m.kind = 53)))
  | [], p, f, last, hp, _, _, _ => by simp [rightW, hp]
  | s :: r, p, f, last, hp, hlast, hlm, hf => by
    rw [rightW]
    simp only [Bool.and_eq_true, Bool.not_eq_true', Bool.or_eq_false_iff]
    have step : goodS s = true → (∀ m ∈ p, lt m.path s.path) → (rightW (setD f s.path (s.kind == 53)) s.path r = true ↔ ((p ++ [s] ++ r).Pairwise (fun a b => lt a.path b.path) ∧ ∀ u ∈ r, goodS u = true ∧ (upL u.path = [] ∨ ∃ m ∈ p ++ [s] ++ r, m.path = upL u.path ∧ m.kind = 53))) := fun hg hps => by
      refine W_ok r (p ++ [s]) _ _ ?_ ?_ (.inr ⟨s, by simp, rfl⟩) ?_
      · rw [List.pairwise_append]
        exact ⟨hp, by simp, fun a ha b hb => by obtain rfl : b = s := by simpa using hb
                                                exact hps a ha⟩
      · intro u hu
        rcases List.mem_append.1 hu with hu | hu
        · exact ⟨(hlast u hu).1, .inl (hps u hu)⟩
        · obtain rfl : u = s := by simpa using hu
          exact ⟨good_ne hg, .inr rfl⟩
      · intro q
        unfold setD
        by_cases hq : q = s.path
        · subst hq
          rw [if_pos rfl]
          constructor
          · intro h
            exact .inr ⟨s, by simp, rfl, by simpa using h⟩
          · rintro (h | ⟨m, hm, h1, h2⟩)
            · exact absurd h (good_ne hg)
            · rcases List.mem_append.1 hm with hm | hm
              · have := hps m hm
                rw [h1] at this
                exact absurd this (lt_irrefl _)
              · obtain rfl : m = s := by simpa using hm
                simpa using h2
        · rw [if_neg hq, hf]
          constructor
          · rintro (h | ⟨m, hm, h1, h2⟩)
            · exact .inl h
            · exact .inr ⟨m, by simp [hm], h1, h2⟩
          · rintro (h | ⟨m, hm, h1, h2⟩)
            · exact .inl h
            · rcases List.mem_append.1 hm with hm | hm
              · exact .inr ⟨m, hm, h1, h2⟩
              · obtain rfl : m = s := by simpa using hm
                exact absurd h1.symm hq
    have happ : p ++ [s] ++ r = p ++ s :: r := by simp
    constructor
    · rintro ⟨⟨⟨hg, h1, h2⟩, h3⟩, h4⟩
      have hlt : lt last s.path := by
        rcases lt_total last s.path with h | h | h
        · exact h
        · rw [h] at h2; simp at h2
        · have h' : Op.bytesLess s.path last = true := h
          rw [h'] at h1; cases h1
      have hps : ∀ m ∈ p, lt m.path s.path := fun m hm => by
        rcases (hlast m hm).2 with h | h
        · exact lt_trans h hlt
        · rw [h]; exact hlt
      have h5 := (step hg hps).1 h4
      rw [happ] at h5
      refine ⟨h5.1, fun u hu => ?_⟩
      rcases List.mem_cons.1 hu with rfl | hu
      · refine ⟨hg, ?_⟩
        rcases (hf _).1 h3 with h | ⟨m, hm, h6, h7⟩
        · exact .inl h
        · exact .inr ⟨m, by simp [hm], h6, h7⟩
      · exact h5.2 u hu
    · rintro ⟨h1, h2⟩
      obtain ⟨hg, hup⟩ := h2 s (by simp)
      have h1' := List.pairwise_append.1 h1
      have hps : ∀ m ∈ p, lt m.path s.path := fun m hm => h1'.2.2 m hm s (by simp)
      have hsr : ∀ m ∈ r, lt s.path m.path := (List.pairwise_cons.1 h1'.2.1).1
      have hlt : lt last s.path := by
        rcases hlm with h | ⟨m, hm, h⟩
        · rw [h]; exact lt_nil (good_ne hg)
        · rw [← h]; exact hps m hm
      refine ⟨⟨⟨hg, ?_, ?_⟩, ?_⟩, (step hg hps).2 (by rw [happ]; exact ⟨h1, fun u hu => h2 u (by simp [hu])⟩)⟩
      · cases hb : Op.bytesLess s.path last with
        | false => rfl
        | true => exact absurd (lt_trans hlt hb) (lt_irrefl _)
      · simp only [beq_eq_false_iff_ne, ne_eq]
        intro e
        rw [e] at hlt
        exact lt_irrefl _ hlt
      · rw [hf]
        rcases hup with h | ⟨m, hm, h3, h4⟩
        · exact .inl h
        · have hul := up_lt s.path (good_ne hg)
          rcases List.mem_append.1 hm with hm | hm
          · exact .inr ⟨m, hm, h3, h4⟩
          · rcases List.mem_cons.1 hm with rfl | hm
            · rw [← h3] at hul; exact absurd hul (lt_irrefl _)
            · have := hsr m hm
              rw [h3] at this
              exact absurd (lt_trans this hul) (lt_irrefl _)

theorem right_ok (ss : List Sn) : rightW (setD (fun _ => false) [] true) [] ss = true ↔ OkTree ss := by
  have := W_ok ss [] (setD (fun _ => false) [] true) [] (by simp) (by simp) (.inl rfl) (fun q => by unfold setD; split <;> simp_all)
  simpa [OkTree] using this

/-- The document's words. -/
theorem at_ok (ss : List Sn) (k : Nat) (s : Sn) : rightAt ss k s = true ↔ ((∀ q, prevOf ss k = some q → lt q s.path) ∧ goodS s = true ∧ (findL ss (upL s.path)).2 = true ∧ (findL ss (upL s.path)).1.kind = 53) := by
  have h1 : (!pathBad s (prevOf ss k)) = true ↔ ((cleanV s.path).2 = true ∧ (cleanV s.path).1 = s.path ∧ s.path ≠ [] ∧ ∀ q, prevOf ss k = some q → lt q s.path) := by
    unfold pathBad
    cases prevOf ss k with
    | none => simp [and_assoc]
    | some q => simp [and_assoc, lt]
  have h2 : (!restBad s) = true ↔ ((s.kind = 48 ∨ s.kind = 53 ∨ s.kind = 50) ∧ (s.kind = 48 ∨ s.data = []) ∧ (s.kind == 50) = !s.link.isEmpty) := by
    unfold restBad
    by_cases a : s.kind = 48
    · simp [a]
    · by_cases b : s.kind = 53
      · simp [b]
      · by_cases c : s.kind = 50
        · simp [c]
        · simp [a, b, c]
  have h3 : goodS s = true ↔ ((cleanV s.path).2 = true ∧ (cleanV s.path).1 = s.path ∧ s.path ≠ [] ∧ (s.kind == 50) = !s.link.isEmpty ∧ (s.kind = 48 ∨ s.data = [] ∧ (s.kind = 53 ∨ s.kind = 50))) := by
    unfold goodS
    simp only [Bool.and_eq_true, Bool.or_eq_true, beq_iff_eq, Bool.not_eq_true', List.isEmpty_iff, List.isEmpty_eq_false_iff]
    constructor
    · rintro ⟨⟨⟨⟨a, b⟩, c⟩, d⟩, e⟩
      exact ⟨a, b, c, d, e⟩
    · rintro ⟨a, b, c, d, e⟩
      exact ⟨⟨⟨⟨a, b⟩, c⟩, d⟩, e⟩
  unfold rightAt
  rw [Bool.and_eq_true, Bool.and_eq_true, Bool.and_eq_true, h1, h2, h3, beq_iff_eq]
  constructor
  · rintro ⟨⟨⟨⟨a, b, c, d⟩, e, f, g⟩, i⟩, j⟩
    refine ⟨d, ⟨a, b, c, g, ?_⟩, i, j⟩
    rcases e with e | e | e
    · exact .inl e
    · rcases f with f | f
      · exact .inl f
      · exact .inr ⟨f, .inl e⟩
    · rcases f with f | f
      · exact .inl f
      · exact .inr ⟨f, .inr e⟩
  · rintro ⟨d, ⟨a, b, c, g, e⟩, i, j⟩
    refine ⟨⟨⟨⟨a, b, c, d⟩, ?_, ?_, g⟩, i⟩, j⟩
    · rcases e with e | ⟨_, e | e⟩
      · exact .inl e
      · exact .inr (.inl e)
      · exact .inr (.inr e)
    · rcases e with e | ⟨e, _⟩
      · exact .inl e
      · exact .inr e

theorem pairwise_of_next {ss : List Sn} (h : ∀ k (h1 : k + 1 < ss.length), lt (ss[k]).path (ss[k + 1]).path) : ss.Pairwise (fun a b => lt a.path b.path) := by
  rw [List.pairwise_iff_getElem]
  intro i j hi hj hij
  obtain ⟨d, rfl⟩ : ∃ d, j = i + 1 + d := ⟨j - (i + 1), by omega⟩
  clear hij
  induction d with
  | zero => exact h i (by simpa using hj)
  | succ d ih => exact lt_trans (ih (by omega)) (h (i + 1 + d) (by omega))

theorem find_dir {ss : List Sn} (hs : ss.Pairwise (fun a b => lt a.path b.path)) (q : List UInt8) : ((findL ss q).2 = true ∧ (findL ss q).1.kind = 53) ↔ (q = [] ∨ ∃ m ∈ ss, m.path = q ∧ m.kind = 53) := by
  unfold findL
  by_cases hq : q = []
  · simp [hq]
  · rw [if_neg hq]
    cases hf : ss.find? (fun t => t.path == q) with
    | none =>
      rw [List.find?_eq_none] at hf
      simp only [Bool.false_eq_true, false_and, false_iff, not_or, not_exists, not_and]
      refine ⟨hq, fun m hm h1 => absurd (by simpa using h1) (hf m hm)⟩
    | some t =>
      have h1 : t.path = q := by simpa using List.find?_some hf
      have h2 := List.mem_of_find?_eq_some hf
      constructor
      · rintro ⟨_, h3⟩
        exact .inr ⟨t, h2, h1, h3⟩
      · rintro (h | ⟨m, hm, h3, h4⟩)
        · exact absurd h hq
        · refine ⟨rfl, ?_⟩
          have : t = m := by
            obtain ⟨i, hi, rfl⟩ := List.getElem_of_mem h2
            obtain ⟨j, hj, rfl⟩ := List.getElem_of_mem hm
            rcases Nat.lt_trichotomy i j with h | h | h
            · have := (List.pairwise_iff_getElem.1 hs) i j hi hj h
              rw [h1, h3] at this
              exact absurd this (lt_irrefl _)
            · simp [h]
            · have := (List.pairwise_iff_getElem.1 hs) j i hj hi h
              rw [h1, h3] at this
              exact absurd this (lt_irrefl _)
          rw [this]
          exact h4

theorem rightS_ok (ss : List Sn) : rightS ss = true ↔ OkTree ss := by
  have hall : rightS ss = true ↔ ∀ k (h : k < ss.length), rightAt ss k ss[k] = true := by
    unfold rightS rightIdx
    rw [List.all_eq_true]
    constructor
    · intro h k hk
      have := h k (List.mem_range.2 hk)
      rw [List.getElem?_eq_getElem hk] at this
      exact this
    · intro h k hk
      have hk' := List.mem_range.1 hk
      rw [List.getElem?_eq_getElem hk']
      exact h k hk'
  have hprev : ∀ k (h : k + 1 < ss.length), prevOf ss (k + 1) = some (ss[k]).path := fun k h => by
    unfold prevOf
    rw [if_neg (by omega), show k + 1 - 1 = k by omega, List.getElem?_eq_getElem (by omega)]
    rfl
  rw [hall]
  constructor
  · intro h
    have hs := pairwise_of_next fun k h1 => ((at_ok ss (k + 1) _).1 (h (k + 1) h1)).1 _ (hprev k h1)
    refine ⟨hs, fun s hsm => ?_⟩
    obtain ⟨k, hk, rfl⟩ := List.getElem_of_mem hsm
    obtain ⟨_, h2, h3⟩ := (at_ok ss k _).1 (h k hk)
    exact ⟨h2, (find_dir hs _).1 h3⟩
  · rintro ⟨hs, h⟩ k hk
    obtain ⟨h1, h2⟩ := h _ (List.getElem_mem hk)
    refine (at_ok ss k _).2 ⟨fun q hq => ?_, h1, (find_dir hs _).2 h2⟩
    cases k with
    | zero => simp [prevOf] at hq
    | succ k =>
      rw [hprev k hk] at hq
      cases hq
      exact (List.pairwise_iff_getElem.1 hs) k (k + 1) (by omega) hk (by omega)

/-- The two are one. -/
theorem rights_same (ss : List Sn) : rightW (setD (fun _ => false) [] true) [] ss = rightS ss := by
  rw [Bool.eq_iff_iff, right_ok, rightS_ok]

end Go.Proofs.YtlbipmlbkcdmnaaGreat


/-
  What is asked of a tree, in both words; a path of choices.
-/
namespace Go.Proofs.YtlbipmlbkcdmnaaGreat
open Go.RowKit Go.Shelf

set_option maxRecDepth 100000 in
set_option maxHeartbeats 4000000 in
theorem path02_any {w : World} {A : Option Addr} {n c : Nat} {bs : List Int} (h : Rd w .u8 A n bs) (hr : ∀ x ∈ bs, 0 ≤ x ∧ x < 256) (hn : n ≤ 9223372036854775807) :
    Calls Tryz.prog 16 #[.slice A n c] w fun e w' => ∃ p : List UInt8, e = .returned (.string ⟨p.toArray⟩) ∧ p.length ≤ 100 ∧ Below w.heap.size w w' := by
  go_enter Tryz.func16, Tryz.ntmps16
  go_wp2_with fail
  go_loopw [3, 4, 5, 6, 7, 8, 9, 10, 11, 12, 13, 14, 15, 16, 17, 18, 19, 20, 21, 22, 23, 24] (fun v3 v4 _ _ _ _ _ _ _ _ _ _ _ _ _ _ _ _ _ _ _ _ wr => ∃ (k : Nat) (p : List UInt8), k ≤ n ∧ k ≤ 12 ∧ v4 = .int .i64 k ∧ v3 = .string ⟨p.toArray⟩ ∧ p.length ≤ 3 * k ∧ Below w.heap.size w wr) (fun _ v4 _ _ _ _ _ _ _ _ _ _ _ _ _ _ _ _ _ _ _ _ _ => n - (intOf v4).toNat)
  case atStart => exact ⟨0, [], Nat.zero_le _, by omega, rfl, rfl, by simp, Below.refl _ _⟩
  case round =>
    obtain ⟨k, p, hk, hk12, rfl, rfl, hpl, hb⟩ := hrel
    by_cases hlt : k < n
    · have hkz : (k : Int) < (n : Int) := by omega
      by_cases h12 : k < 12
      · have h12z : (k : Int) < 12 := by omega
        obtain ⟨ad, rfl, hck⟩ := h.2 k hlt
        obtain ⟨x, hx⟩ : ∃ x, bs[k]? = some x := ⟨_, List.getElem?_eq_getElem (by have := h.1; omega)⟩
        have hgd : bs.getD k 0 = x := by simp [hx]
        rw [hgd] at hck
        obtain ⟨hx0, hx1⟩ := hr x (List.mem_of_getElem? hx)
        have hc1 := (hb.cell (World.block_lt_of_cell? w _ hck)).trans hck
        have hc2 := (((Below.refl _ wr).alloc (Nat.le_refl _) (.cells #[.string ⟨#[97]⟩, .string ⟨#[98]⟩, .string ⟨#[47]⟩, .string ⟨#[47]⟩, .string ⟨#[46]⟩, .string ⟨#[46, 46]⟩, .string ⟨#[100, 105, 114]⟩, .string ⟨#[47, 120]⟩, .string ⟨#[195, 169]⟩, .string ⟨#[10]⟩] 9)).cell (World.block_lt_of_cell? wr _ hc1)).trans hc1
        have ht : x.tmod 10 = x % 10 := Int.tmod_eq_emod_of_nonneg hx0
        have h10 : x % 10 = 0 ∨ x % 10 = 1 ∨ x % 10 = 2 ∨ x % 10 = 3 ∨ x % 10 = 4 ∨ x % 10 = 5 ∨ x % 10 = 6 ∨ x % 10 = 7 ∨ x % 10 = 8 ∨ x % 10 = 9 := by omega
        have e1 := fun (y : List UInt8) => cat_mk p y
        clear h hr hck hx hgd hx1
        rcases h10 with hq | hq | hq | hq | hq | hq | hq | hq | hq | hq
        all_goals
          rw [hq] at ht
          go_wp2_with fail
          go_roundw
          case rel => exact ⟨k + 1, _, by omega, by omega, by go_num, congrArg Value.string (e1 _), by simp; omega, hb.alloc hb.size _⟩
          case measure => simp [intOf]; omega
      · obtain rfl : k = 12 := by omega
        clear h hr
        go_wp2_with fail
        go_ret
        first | exact ⟨_, rfl, by omega, hb⟩ | exact ⟨p, rfl, by omega, hb⟩
    · obtain rfl : k = n := by omega
      clear h hr
      go_wp2_with fail
      go_ret
      first | exact ⟨_, rfl, by omega, hb⟩ | exact ⟨p, rfl, by omega, hb⟩

end Go.Proofs.YtlbipmlbkcdmnaaGreat
