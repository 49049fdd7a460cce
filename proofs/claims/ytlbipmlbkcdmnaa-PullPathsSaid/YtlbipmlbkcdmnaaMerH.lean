/-
  What is put is found; what is removed is gone: plain laws.
-/
import Derived.Test.YtlbipmlbkcdmnaaMerF
import Derived.Test.YtlbipmlbkcdmnaaMerG
namespace Go.Proofs.Ytlbipmlbkcdmnaa
open Go.RowKit Go.Shelf

theorem find_put_self (x : Sn) : ∀ (l : List Sn), (putG Sn.path x l).find? (fun t => t.path == x.path) = some x
  | [] => by simp [putG]
  | y :: r => by
    rw [putG]
    split
    · exact find_put_self x r
    · rename_i h
      split
      · simp
      · rw [List.find?_cons]
        have h1 : (y.path == x.path) = false := by simpa using h
        rw [h1]
        exact find_put_self x r

theorem find_filter_ne (p q : List UInt8) (hq : q ≠ p) : ∀ (l : List Sn), (l.filter fun z => !(z.path == p)).find? (fun t => t.path == q) = l.find? (fun t => t.path == q)
  | [] => rfl
  | y :: r => by
    have ih := find_filter_ne p q hq r
    by_cases h : y.path = p
    · have h1 : (y.path == p) = true := by simpa using h
      have h2 : (y.path == q) = false := by
        rw [h]
        simpa using fun e => hq e.symm
      rw [List.filter_cons, h1, List.find?_cons, h2]
      exact ih
    · have h1 : (y.path == p) = false := by simpa using h
      rw [List.filter_cons, h1]
      simp only [Bool.not_false, if_true, List.find?_cons]
      rw [ih]

theorem find_put_other (x : Sn) (q : List UInt8) (hq : q ≠ x.path) : ∀ (l : List Sn), (putG Sn.path x l).find? (fun t => t.path == q) = l.find? (fun t => t.path == q)
  | [] => by
    have : (x.path == q) = false := by simpa using fun e => hq e.symm
    simp [putG, this]
  | y :: r => by
    have ih := find_put_other x q hq r
    have hx : (x.path == q) = false := by simpa using fun e => hq e.symm
    rw [putG]
    split
    · rename_i h
      have h1 : y.path = x.path := by simpa using h
      have h2 : (y.path == q) = false := by rw [h1]; exact hx
      rw [ih, List.find?_cons, h2]
    · split
      · rw [List.find?_cons, hx]
        simp only [List.find?_cons]
        split
        · rfl
        · exact find_filter_ne x.path q hq r
      · simp only [List.find?_cons]
        rw [ih]

theorem find_once {ss : List Sn} : ∀ {i : Nat} {s : Sn}, Once ss → ss[i]? = some s → ss.find? (fun t => t.path == s.path) = some s := by
  induction ss with
  | nil => intro i s _ h; simp at h
  | cons y r ih =>
    intro i s h hs
    unfold Once at h
    rw [List.map_cons, List.nodup_cons] at h
    cases i with
    | zero =>
      obtain rfl : y = s := by simpa using hs
      simp
    | succ i =>
      have hs' : r[i]? = some s := by simpa using hs
      have hm : s ∈ r := List.mem_of_getElem? hs'
      have : (y.path == s.path) = false := by
        simpa using fun e => h.1 (List.mem_map.2 ⟨s, hm, e.symm⟩)
      rw [List.find?_cons, this]
      exact ih h.2 hs'

theorem find_filter_path (f : List UInt8 → Bool) (q : List UInt8) : ∀ (l : List Sn), (l.filter fun z => f z.path).find? (fun t => t.path == q) = if f q = true then l.find? (fun t => t.path == q) else none
  | [] => by simp
  | y :: r => by
    have ih := find_filter_path f q r
    by_cases h : y.path = q
    · have h1 : (y.path == q) = true := by simpa using h
      by_cases hf : f q = true
      · rw [if_pos hf, List.filter_cons, h, hf]
        simp [h]
      · rw [if_neg hf] at ih ⊢
        have hf' : f q = false := by simpa using hf
        rw [List.filter_cons, h, hf']
        exact ih
    · have h1 : (y.path == q) = false := by simpa using h
      rw [List.find?_cons, h1, List.filter_cons]
      split
      · rw [List.find?_cons, h1]
        exact ih
      · exact ih

/-- No path is the empty one. -/
theorem tree_named (bs : List Int) : ∀ s ∈ treeL bs, s.path ≠ [] := by
  unfold treeL
  have : ∀ (l : List Int) (t : List Sn), (∀ s ∈ t, s.path ≠ []) → ∀ s ∈ l.foldl treeStep t, s.path ≠ [] := by
    intro l
    induction l with
    | nil => intro t h; exact h
    | cons b r ih =>
      intro t h
      refine ih _ ?_
      unfold treeStep
      split
      · exact h
      · rename_i hn
        intro s hs
        rcases putG_mem (List.mem_map.2 ⟨s, hs, rfl⟩) with e | e
        · rw [e]
          exact fun e' => hn (.inl e')
        · obtain ⟨z, hz, e⟩ := List.mem_map.1 e
          rw [← e]
          exact h z hz
  exact this _ _ (by simp)

theorem find_of {ss : List Sn} {q : List UInt8} (hq : q ≠ []) {s : Sn} (h : ss.find? (fun t => t.path == q) = some s) : findL ss q = (s, true) := by
  unfold findL
  rw [if_neg hq, h]
theorem find_no {ss : List Sn} {q : List UInt8} (hq : q ≠ []) (h : ss.find? (fun t => t.path == q) = none) : (findL ss q).2 = false := by
  unfold findL
  rw [if_neg hq, h]

def goneL (p : List UInt8) (ss : List Sn) : List Sn := ss.filter fun t => !(t.path == p || belowL t.path p)

/-- All that TreeBack asks of a tree. -/
theorem back_facts (x : Sn) (hp : x.path ≠ []) {t : List Sn} (ht : Once t) (hn : ∀ s ∈ t, s.path ≠ []) :
    findL (putG Sn.path x t) x.path = (x, true) ∧ (findL (goneL x.path (putG Sn.path x t)) x.path).2 = false ∧
    ((goneL x.path (putG Sn.path x t)).filter fun s => belowL s.path x.path) = [] ∧
    ∀ (i : Nat) (s : Sn), t[i]? = some s → (s.path ≠ x.path → findL (putG Sn.path x t) s.path = (s, true)) ∧ (findL (goneL x.path (putG Sn.path x t)) s.path).2 = (!(s.path == x.path) && !underL s.path x.path) := by
  have hg : ∀ q, (goneL x.path (putG Sn.path x t)).find? (fun t => t.path == q) = if (!(q == x.path || belowL q x.path)) = true then (putG Sn.path x t).find? (fun t => t.path == q) else none := fun q =>
    find_filter_path (fun q => !(q == x.path || belowL q x.path)) q (putG Sn.path x t)
  refine ⟨find_of hp (find_put_self x t), ?_, ?_, fun i s hs => ?_⟩
  · refine find_no hp ?_
    rw [hg x.path]
    simp
  · rw [List.filter_eq_nil_iff]
    intro s hs
    unfold goneL at hs
    have := (List.mem_filter.1 hs).2
    simp at this
    simp [this.2]
  · have hsn := hn s (List.mem_of_getElem? hs)
    have hf := find_once ht hs
    refine ⟨fun hne => find_of hsn ((find_put_other x s.path hne t).trans hf), ?_⟩
    have h1 := hg s.path
    rw [below_under] at h1
    by_cases he : s.path = x.path
    · have hb : (s.path == x.path) = true := by simpa using he
      rw [hb] at h1 ⊢
      rw [find_no hsn (by rw [h1]; rfl)]
      rfl
    · have hb : (s.path == x.path) = false := by simpa using he
      rw [hb] at h1 ⊢
      cases hu : underL s.path x.path with
      | true =>
        rw [hu] at h1
        rw [find_no hsn (by rw [h1]; rfl)]
        rfl
      | false =>
        rw [hu] at h1
        have h2 : (goneL x.path (putG Sn.path x t)).find? (fun t => t.path == s.path) = some s := by
          rw [h1]
          exact (find_put_other x s.path he t).trans hf
        rw [find_of hsn h2]
        rfl

end Go.Proofs.Ytlbipmlbkcdmnaa

/-
  Slices of nodes by what they read as: the contracts, once more, in that form.
-/
namespace Go.Proofs.Ytlbipmlbkcdmnaa
open Go.RowKit Go.Shelf

/-- A slice of nodes that reads as ss. -/
def RowOf (w : World) (v : Value) (ss : List Sn) : Prop :=
  ∃ (A : Option Addr) (c : Nat) (ms : List Nd), v = .slice A ss.length c ∧ Nodes w A ms ∧ Like w ms ss ∧ (A = none → ss.length = 0)

theorem RowOf.below {w w' : World} {v : Value} {ss : List Sn} (h : RowOf w v ss) (hb : Below w.heap.size w w') : RowOf w' v ss := by
  obtain ⟨A, c, ms, rfl, h1, h2, h3⟩ := h
  exact ⟨A, c, ms, rfl, h1.below hb, h2.below hb, h3⟩

theorem row_of_own {w : World} {B : Nat} {v : Value} {m : Nat} {ms : List Nd} {ss : List Sn} (ho : w.ownsRow B 31 4 v m (cellsOf ms)) (hL : Like w ms ss) : RowOf w v ss := by
  obtain ⟨A, c, rfl⟩ := own_form ho
  obtain ⟨hm, hN⟩ := own_nodes ho
  have hl : m = ss.length := hm.trans hL.1
  subst hl
  exact ⟨A, c, ms, rfl, hN, hL, own_none ho⟩

def Short (ss : List Sn) : Prop := ss.length ≤ 100000000000 ∧ ∀ s ∈ ss, s.path.length ≤ 4000000000000

theorem tree_row {w : World} {A : Option Addr} {n c : Nat} {bs : List Int} (h : Rd w .u8 A n bs) (hr : ∀ x ∈ bs, 0 ≤ x ∧ x < 256) (hn : n ≤ 9223372036854775807) :
    Calls Try.prog 24 #[.slice A n c] w fun e w' => ∃ v, e = .returned v ∧ RowOf w' v (treeL bs) ∧ Below w.heap.size w w' :=
  (tree_any h hr hn).mono (by
    rintro e w' ⟨v, m, ns, rfl, ho, hL, hb⟩
    exact ⟨v, rfl, row_of_own ho hL, hb⟩)

theorem put_row {w : World} {v : Value} {ss : List Sn} (h : RowOf w v ss) (x : Nd) (s : Sn) (hx : NdAt w x s) (hs : Short ss) :
    Calls Try.prog 26 #[v, .agg x.cells.toArray] w fun e w' => ∃ v', e = .returned v' ∧ RowOf w' v' (putG Sn.path s ss) ∧ Below w.heap.size w w' := by
  obtain ⟨A, c, ms, rfl, h1, h2, h3⟩ := h
  refine (put_any x s h1 h2 hx h2.1.symm hs.1 h3).mono ?_
  rintro e w' ⟨v, m, ms', rfl, ho, hL, hb⟩
  exact ⟨v, rfl, row_of_own ho hL.like, hb⟩

theorem refPut_row {w : World} {v : Value} {ss : List Sn} (h : RowOf w v ss) (x : Nd) (s : Sn) (hx : NdAt w x s) (hs : Short ss) :
    Calls Try.prog 27 #[v, .agg x.cells.toArray] w fun e w' => ∃ v', e = .returned v' ∧ RowOf w' v' (putG Sn.path s ss) ∧ Below w.heap.size w w' := by
  obtain ⟨A, c, ms, rfl, h1, h2, h3⟩ := h
  refine (refPut_any x h1 h2.1.symm (by have := hs.1; omega)).mono ?_
  rintro e w' ⟨v, m, rfl, ho, hb⟩
  exact ⟨v, rfl, row_of_own ho (like_put (hx.below hb) (h2.below hb)), hb⟩

theorem remove_row {w : World} {v : Value} {ss : List Sn} (h : RowOf w v ss) (p : List UInt8) (hp : p.length ≤ 4000000000000) (hs : Short ss) :
    Calls Try.prog 28 #[v, .string ⟨p.toArray⟩] w fun e w' => ∃ v', e = .returned v' ∧ RowOf w' v' (goneL p ss) ∧ Below w.heap.size w w' := by
  obtain ⟨A, c, ms, rfl, h1, h2, h3⟩ := h
  refine (remove_any p hp h1 h2 h2.1.symm (by have := hs.1; omega) h3).mono ?_
  rintro e w' ⟨v, m, ms', rfl, ho, hL, hb⟩
  exact ⟨v, rfl, row_of_own ho hL.like, hb⟩

theorem gone_under (p : List UInt8) (ss : List Sn) : goneL p ss = ss.filter fun x => !(x.path == p || underL x.path p) := by
  unfold goneL
  congr 1
  funext x
  rw [below_under]

theorem refRemove_row {w : World} {v : Value} {ss : List Sn} (h : RowOf w v ss) (p : List UInt8) (hp : p.length ≤ 4000000000000) (hs : Short ss) :
    Calls Try.prog 29 #[v, .string ⟨p.toArray⟩] w fun e w' => ∃ v', e = .returned v' ∧ RowOf w' v' (goneL p ss) ∧ Below w.heap.size w w' := by
  obtain ⟨A, c, ms, rfl, h1, h2, h3⟩ := h
  refine (refRemove_any p hp h1 (like_paths h2 hs.2) h2.1.symm (by have := hs.1; omega)).mono ?_
  rintro e w' ⟨v, m, rfl, ho, hb⟩
  rw [gone_under]
  exact ⟨v, rfl, row_of_own ho (like_remove (h2.below hb) p), hb⟩

def belowS (p : List UInt8) (ss : List Sn) : List Sn := ss.filter fun t => belowL t.path p

theorem below_row {w : World} {v : Value} {ss : List Sn} (h : RowOf w v ss) (p : List UInt8) (hp : p.length ≤ 4000000000000) (hs : Short ss) :
    Calls Try.prog 34 #[v, .string ⟨p.toArray⟩] w fun e w' => ∃ v', e = .returned v' ∧ RowOf w' v' (belowS p ss) ∧ Below w.heap.size w w' := by
  obtain ⟨A, c, ms, rfl, h1, h2, h3⟩ := h
  refine (below_any p hp h1 h2 h2.1.symm (by have := hs.1; omega) h3).mono ?_
  rintro e w' ⟨v, m, ms', rfl, ho, hL, hb⟩
  exact ⟨v, rfl, row_of_own ho hL.like, hb⟩

theorem refBelow_row {w : World} {v : Value} {ss : List Sn} (h : RowOf w v ss) (p : List UInt8) (hp : p.length ≤ 4000000000000) (hs : Short ss) :
    Calls Try.prog 45 #[v, .string ⟨p.toArray⟩] w fun e w' => ∃ v', e = .returned v' ∧ RowOf w' v' (belowS p ss) ∧ Below w.heap.size w w' := by
  obtain ⟨A, c, ms, rfl, h1, h2, h3⟩ := h
  refine (refBelow_any p hp h1 (like_paths h2 hs.2) h2.1.symm (by have := hs.1; omega)).mono ?_
  rintro e w' ⟨v, m, rfl, ho, hb⟩
  have e1 : belowS p ss = ss.filter fun x => underL x.path p := by
    unfold belowS
    congr 1
    funext x
    rw [below_under]
  rw [e1]
  exact ⟨v, rfl, row_of_own ho (like_below (h2.below hb) p), hb⟩

theorem same_row {w : World} {v v' : Value} {ss : List Sn} (h : RowOf w v ss) (h' : RowOf w v' ss) (hs : ss.length ≤ 1000000000000) :
    Calls Try.prog 25 #[v, v'] w fun e w' => e = .returned (.bool true) ∧ Below w.heap.size w w' := by
  obtain ⟨A, c, ms, rfl, h1, h2, h3⟩ := h
  obtain ⟨A', c', ms', rfl, h1', h2', h3'⟩ := h'
  exact sameAll_any h1 h2 h2.1.symm h1' h2' hs

theorem find_row {w : World} {v : Value} {ss : List Sn} (h : RowOf w v ss) (p : List UInt8) (hs : Short ss) :
    Calls Try.prog 35 #[v, .string ⟨p.toArray⟩] w fun e w' => ∃ y : Nd, e = .returned (.tuple #[.agg y.cells.toArray, .bool (findL ss p).2]) ∧ NdAt w' y (findL ss p).1 ∧ Below w.heap.size w w' := by
  obtain ⟨A, c, ms, rfl, h1, h2, h3⟩ := h
  refine (find_any p h1 h2 h2.1.symm (by have := hs.1; omega)).mono ?_
  rintro e w' ⟨y, rfl, hy, hb⟩
  exact ⟨y, rfl, hy.at, hb⟩

theorem refFind_row {w : World} {v : Value} {ss : List Sn} (h : RowOf w v ss) (p : List UInt8) (hs : Short ss) :
    Calls Try.prog 32 #[v, .string ⟨p.toArray⟩] w fun e w' => ∃ y : Nd, e = .returned (.tuple #[.agg y.cells.toArray, .bool (findL ss p).2]) ∧ NdAt w' y (findL ss p).1 ∧ Below w.heap.size w w' := by
  obtain ⟨A, c, ms, rfl, h1, h2, h3⟩ := h
  exact refFind_any p h1 h2 h2.1.symm (by have := hs.1; omega)

theorem Short.put {ss : List Sn} (h : ss.length ≤ 10000000 ∧ ∀ s ∈ ss, s.path.length ≤ 4000000000000) {x : Sn} (hx : x.path.length ≤ 4000000000000) : Short (putG Sn.path x ss) :=
  ⟨by have := putG_len Sn.path x ss; omega, putG_bound hx h.2⟩
theorem Short.gone {ss : List Sn} (h : Short ss) (p : List UInt8) : Short (goneL p ss) :=
  ⟨Nat.le_trans (List.length_filter_le _ _) h.1, fun s hs => h.2 s (List.mem_filter.1 hs).1⟩
theorem Short.belows {ss : List Sn} (h : Short ss) (p : List UInt8) : Short (belowS p ss) :=
  ⟨Nat.le_trans (List.length_filter_le _ _) h.1, fun s hs => h.2 s (List.mem_filter.1 hs).1⟩
theorem Short.tree (bs : List Int) : Short (treeL bs) := ⟨by have := tree_len bs; omega, fun s hs => by have := tree_short bs s hs; omega⟩

end Go.Proofs.Ytlbipmlbkcdmnaa

/-
  The document's Split, Join and Clean.
-/
namespace Go.Proofs.Ytlbipmlbkcdmnaa
open Go.RowKit Go.Shelf

theorem split_seg : ∀ (l : List UInt8) (m : Nat), (∀ j (h : j < l.length), j < m → l[j] ≠ 47) → m ≤ l.length → (∀ (h : m < l.length), l[m] = 47) →
    splitL l = l.take m :: (if m = l.length then [] else splitL (l.drop (m + 1)))
  | [], m, _, hm, _ => by
    obtain rfl : m = 0 := by simpa using hm
    rfl
  | b :: r, 0, _, _, h47 => by
    have hb : b = 47 := h47 (by simp)
    subst hb
    simp [splitL]
  | b :: r, m + 1, hne, hm, h47 => by
    have hb : b ≠ 47 := hne 0 (by simp) (by omega)
    have ih := split_seg r m (fun j h hj => hne (j + 1) (by simpa using h) (by omega)) (by simpa using hm) (fun h => h47 (by simpa using h))
    rw [splitL, if_neg hb, ih]
    simp only [List.take_succ_cons, List.drop_succ_cons, List.length_cons, Nat.add_right_cancel_iff]

theorem names_seg (l : List UInt8) (m : Nat) (h1 : ∀ j (h : j < l.length), j < m → l[j] ≠ 47) (h2 : m ≤ l.length) (h3 : ∀ (h : m < l.length), l[m] = 47) :
    namesL l = (if isName (l.take m) then [l.take m] else []) ++ namesL (l.drop (m + 1)) := by
  unfold namesL
  rw [split_seg l m h1 h2 h3, List.filter_cons]
  by_cases hm : m = l.length
  · rw [if_pos hm, List.drop_eq_nil_of_le (by omega)]
    split <;> rfl
  · rw [if_neg hm]
    split <;> rfl

theorem encS_one (x : List UInt8) : ∀ u ∈ [encS x], u.oneCell' = true := by
  intro u hu
  obtain rfl : u = encS x := by simpa using hu
  rfl

set_option maxRecDepth 100000 in
set_option maxHeartbeats 4000000 in
theorem refSplit_any (s : List UInt8) (hs : s.length ≤ 1000000000000) (w : World) : Calls Try.prog 57 #[.string ⟨s.toArray⟩] w fun e w' => ∃ v, e = .returned v ∧ w'.ownsRow w.heap.size 9 1 v (namesL s).length ((namesL s).map encS) ∧ Below w.heap.size w w' := by
  obtain ⟨i0, hi, hz0, hz1, hz2⟩ := info_parts Try.info9
  go_enter Try.func57, Try.ntmps57
  go_wp2_with fail
  go_loopw [3, 4, 5, 6, 7, 8, 9, 10, 11, 12, 13, 14, 15, 16, 17, 18, 19, 20, 21, 22, 23, 24, 25, 26, 27, 28, 29, 30, 31, 32, 33, 34, 35, 36, 37, 38, 39, 40] (fun v3 v4 v5 _ _ _ _ _ _ _ _ _ _ _ _ _ _ _ _ _ _ _ _ _ _ _ _ _ _ _ _ _ _ _ _ _ _ _ wr => ∃ (k f : Nat) (xs : List (List UInt8)), k ≤ s.length + 1 ∧ f ≤ k ∧ v5 = .int .i64 k ∧ v4 = .int .i64 f ∧ wr.ownsRow w.heap.size 9 1 v3 xs.length (xs.map encS) ∧ xs.length ≤ k ∧ xs ++ namesL (s.drop f) = namesL s ∧ (∀ j (h : j < s.length), f ≤ j → j < k → s[j] ≠ 47) ∧ (k = s.length + 1 → f = s.length + 1) ∧ Below w.heap.size w wr) (fun _ _ v5 _ _ _ _ _ _ _ _ _ _ _ _ _ _ _ _ _ _ _ _ _ _ _ _ _ _ _ _ _ _ _ _ _ _ _ _ => s.length + 1 - (intOf v5).toNat)
  case atStart => exact ⟨0, 0, [], by omega, Nat.le_refl _, rfl, rfl, World.ownsRow_nil _ _ _ _, Nat.le_refl _, rfl, fun j _ _ hj => absurd hj (Nat.not_lt_zero _), fun h => by omega, Below.refl _ _⟩
  case round =>
    obtain ⟨k, f, xs, hk, hf, rfl, rfl, ho, hxl, hns, hno, hend, hb⟩ := hrel
    by_cases hle : k ≤ s.length
    · have hlz : (k : Int) ≤ (s.length : Int) := by omega
      obtain ⟨A5, c5, rfl⟩ := own_form ho
      have HO := Lib.hid ho; have HB := Lib.hid hb; have HNS := Lib.hid hns; have HNO := Lib.hid hno
      clear ho hb hns hno hend
      -- a slash, or the end
      have cut : (∀ (h : k < s.length), s[k] = 47) → namesL s = xs ++ ((if isName ((s.drop f).take (k - f)) then [(s.drop f).take (k - f)] else []) ++ namesL (s.drop (k + 1))) := fun h47 => by
        rw [← HNS.out]
        congr 1
        have := names_seg (s.drop f) (k - f) (fun j h hj => by rw [List.getElem_drop]; exact HNO.out (f + j) (by simp at h; omega) (by omega) (by omega)) (by simp; omega) (fun h => by rw [List.getElem_drop]; simp only [show f + (k - f) = k by omega]; exact h47 (by simp at h; omega))
        rw [this, List.drop_drop, show f + (k - f + 1) = k + 1 by omega]
      have CUT := Lib.hid cut; clear cut
      have hext := cut_mk s f k
      have hfk0 : (f : Int) ≤ (k : Int) := by omega
      by_cases hlt : k < s.length
      · have hltz : (k : Int) < (s.length : Int) := by omega
        cases hq : ((((ByteArray.mk s.toArray)[k]'hlt).toNat : Int) == 47) with
        | false =>
          have hqn : ((((ByteArray.mk s.toArray)[k]'hlt).toNat : Int) != 47) = true := by simp [bne, hq]
          have hne : s[k] ≠ 47 := fun e => by
            have : (ByteArray.mk s.toArray)[k]'hlt = s[k] := rfl
            rw [this, e] at hq
            cases hq
          have HNE := Lib.hid hne; clear hne
          go_wp2_with fail
          go_roundw
          case rel =>
            refine ⟨k + 1, f, xs, by omega, by omega, by go_num, rfl, HO.out, by omega, HNS.out, fun j h h1 h2 => ?_, fun h => by omega, HB.out⟩
            by_cases hjk : j = k
            · subst hjk; exact HNE.out
            · exact HNO.out j h h1 (by omega)
          case measure => simp [intOf]; omega
        | true =>
          have hqn : ((((ByteArray.mk s.toArray)[k]'hlt).toNat : Int) != 47) = false := by simp [bne, hq]
          have h47 : s[k] = 47 := by
            have e : (ByteArray.mk s.toArray)[k]'hlt = s[k] := rfl
            rw [e] at hq
            have h1 : ((s[k].toNat : Nat) : Int) = 47 := by simpa using hq
            have : s[k].toNat = 47 := by omega
            exact UInt8.toNat_inj.1 this
          have HC := Lib.hid (CUT.out fun _ => h47)
          clear h47 CUT
          generalize hseg : (s.drop f).take (k - f) = seg at HC hext
          have hsl : seg.length = k - f := by rw [← hseg]; simp; omega
          by_cases hfk : f < k
          · have hfz : (f : Int) < (k : Int) := by omega
            by_cases hdot : seg = [46]
            · have hdb : (seg == [46]) = true := by simpa using hdot
              have hnm : isName seg = false := by unfold isName; simp [hdot]
              rw [hnm] at HC
              have HSEG := Lib.hid hseg
              clear hseg hsl
              subst hdot
              go_wp2_with fail
              go_roundw
              case rel => exact ⟨k + 1, k + 1, xs, by omega, Nat.le_refl _, by go_num, by go_num, HO.out, by omega, by rw [HC.out]; rfl, fun j _ h1 h2 => by omega, fun _ => by omega, HB.out⟩
              case measure => simp [intOf]; omega
            · have hdb : (seg == [46]) = false := by simpa using hdot
              have hne0 : seg ≠ [] := fun e => by rw [e] at hsl; simp at hsl; omega
              have hnm : isName seg = true := by unfold isName; simp [hdot, hne0]
              rw [hnm] at HC
              have HSEG := Lib.hid hseg
              clear hseg hsl
              go_wp2_with (at_builtin; refine wpList_append_own _ rfl _ _ 71 rfl w.heap.size 9 i0 (.string ⟨#[]⟩) 1 16 Try.underlying71 hi hz0 hz1 hz2 rfl (by decide) (.slice A5 xs.length c5) xs.length (xs.map encS) rfl (HO.out.alloc _) ⟨_, 0, none⟩ 1 1 [encS seg] rfl rfl (cells_new _ #[encS seg] 9) (encS_one seg) (by unfold maxLen; omega) (by omega) (by have := HB.out.size; simp; omega) ?_; intro v' w3 hown3 hgrow3 _; obtain ⟨A6, c6, rfl⟩ := own_form hown3; have hb3 := (HB.out.alloc HB.out.size _).grown hgrow3 (by have := HB.out.size; simp; omega) (fun j e => own_from HO.out j e))
              go_roundw
              case rel => exact ⟨k + 1, k + 1, xs ++ [seg], by omega, Nat.le_refl _, by go_num, by go_num, by simpa using hown3, by simp; omega, by rw [HC.out, List.append_assoc]; rfl, fun j _ h1 h2 => by omega, fun _ => by omega, hb3⟩
              case measure => simp [intOf]; omega
          · obtain rfl : f = k := by omega
            have hfz : ¬ (f : Int) < (f : Int) := by omega
            have hnm : isName seg = false := by
              have : seg = [] := List.eq_nil_of_length_eq_zero (by omega)
              rw [this]; rfl
            rw [hnm] at HC
            clear hseg hsl hext
            go_wp2_with fail
            go_roundw
            case rel => exact ⟨f + 1, f + 1, xs, by omega, Nat.le_refl _, by go_num, by go_num, HO.out, by omega, by rw [HC.out]; rfl, fun j _ h1 h2 => by omega, fun _ => by omega, HB.out⟩
            case measure => simp [intOf]; omega
      · have hltz : ¬ (k : Int) < (s.length : Int) := by omega
        have HC := Lib.hid (CUT.out fun h => absurd h hlt)
        clear CUT
        generalize hseg : (s.drop f).take (k - f) = seg at HC hext
        have hsl : seg.length = k - f := by rw [← hseg]; simp; omega
        by_cases hfk : f < k
        · have hfz : (f : Int) < (k : Int) := by omega
          by_cases hdot : seg = [46]
          · have hdb : (seg == [46]) = true := by simpa using hdot
            have hnm : isName seg = false := by unfold isName; simp [hdot]
            rw [hnm] at HC
            have HSEG := Lib.hid hseg
            clear hseg hsl
            subst hdot
            go_wp2_with fail
            go_roundw
            case rel => exact ⟨k + 1, k + 1, xs, by omega, Nat.le_refl _, by go_num, by go_num, HO.out, by omega, by rw [HC.out]; rfl, fun j _ h1 h2 => by omega, fun _ => by omega, HB.out⟩
            case measure => simp [intOf]; omega
          · have hdb : (seg == [46]) = false := by simpa using hdot
            have hne0 : seg ≠ [] := fun e => by rw [e] at hsl; simp at hsl; omega
            have hnm : isName seg = true := by unfold isName; simp [hdot, hne0]
            rw [hnm] at HC
            have HSEG := Lib.hid hseg
            clear hseg hsl
            go_wp2_with (at_builtin; refine wpList_append_own _ rfl _ _ 71 rfl w.heap.size 9 i0 (.string ⟨#[]⟩) 1 16 Try.underlying71 hi hz0 hz1 hz2 rfl (by decide) (.slice A5 xs.length c5) xs.length (xs.map encS) rfl (HO.out.alloc _) ⟨_, 0, none⟩ 1 1 [encS seg] rfl rfl (cells_new _ #[encS seg] 9) (encS_one seg) (by unfold maxLen; omega) (by omega) (by have := HB.out.size; simp; omega) ?_; intro v' w3 hown3 hgrow3 _; obtain ⟨A6, c6, rfl⟩ := own_form hown3; have hb3 := (HB.out.alloc HB.out.size _).grown hgrow3 (by have := HB.out.size; simp; omega) (fun j e => own_from HO.out j e))
            go_roundw
            case rel => exact ⟨k + 1, k + 1, xs ++ [seg], by omega, Nat.le_refl _, by go_num, by go_num, by simpa using hown3, by simp; omega, by rw [HC.out, List.append_assoc]; rfl, fun j _ h1 h2 => by omega, fun _ => by omega, hb3⟩
            case measure => simp [intOf]; omega
        · obtain rfl : f = k := by omega
          have hfz : ¬ (f : Int) < (f : Int) := by omega
          have hnm : isName seg = false := by
            have : seg = [] := List.eq_nil_of_length_eq_zero (by omega)
            rw [this]; rfl
          rw [hnm] at HC
          clear hseg hsl hext
          go_wp2_with fail
          go_roundw
          case rel => exact ⟨f + 1, f + 1, xs, by omega, Nat.le_refl _, by go_num, by go_num, HO.out, by omega, by rw [HC.out]; rfl, fun j _ h1 h2 => by omega, fun _ => by omega, HB.out⟩
          case measure => simp [intOf]; omega
    · obtain rfl : k = s.length + 1 := by omega
      have hlz : ¬ ((s.length + 1 : Nat) : Int) ≤ (s.length : Int) := by omega
      obtain rfl : f = s.length + 1 := hend rfl
      have hfin : xs = namesL s := by
        rw [← hns, List.drop_eq_nil_of_le (by omega)]
        simp [namesL, splitL, isName]
      subst hfin
      have HO := Lib.hid ho; clear ho
      go_wp2_with fail
      go_ret
      exact ⟨_, rfl, HO.out, hb⟩

theorem join_snoc (ys : List (List UInt8)) (y : List UInt8) : Lib.join (ys ++ [y]) [47] = if ys = [] then y else Lib.join ys [47] ++ [47] ++ y := by
  cases ys with
  | nil => simp [Lib.join_cons, Lib.joinTail]
  | cons x r =>
    rw [List.cons_append, Lib.join_cons, Lib.join_cons, if_neg (by simp)]
    simp [Lib.joinTail]

theorem join_le (xs : List (List UInt8)) (k : Nat) : (Lib.join (xs.take k) [47]).length ≤ tot xs := by
  refine Nat.le_trans (join_len _) ?_
  induction xs generalizing k with
  | nil => simp [tot]
  | cons x r ih =>
    cases k with
    | zero => simp [tot]
    | succ k => have := ih k; simp only [List.take_succ_cons, tot]; omega

set_option maxRecDepth 100000 in
set_option maxHeartbeats 4000000 in
theorem refJoin2_any {w : World} {B : Nat} {A : Option Addr} {n c : Nat} {xs : List (List UInt8)} (h : w.ownsRow B 9 1 (.slice A n c) n (xs.map encS)) (hn : n ≤ 1000000000000) (ht : tot xs ≤ 4000000000000) :
    Calls Try.prog 58 #[.slice A n c] w fun e w' => e = .returned (.string ⟨(Lib.join xs [47]).toArray⟩) ∧ Below w.heap.size w w' := by
  have hlen : n = xs.length := by have := h.1; simpa using this.symm
  have hcell : ∀ W, Below w.heap.size w W → ∀ (j : Nat) (x : List UInt8), xs[j]? = some x → ∃ g, A = some ⟨g, 0, none⟩ ∧ W.cell? ⟨g, j, none⟩ = some (.string ⟨x.toArray⟩) := fun W hW j x hx => by
    rcases h.2 with ⟨_, h0⟩ | ⟨g, cap, cur, hv, _⟩
    · have := (List.getElem?_eq_some_iff.1 hx).1
      omega
    · injection hv with hv1 _ _
      subst hv1
      have h1 := (own_below h hW).cells (g := g) rfl j (encS x) (by simp [hx])
      rw [Addr.add_lit, Nat.zero_add] at h1
      exact ⟨g, rfl, h1⟩
  have HL := Lib.hid hlen
  clear h hlen
  go_enter Try.func58, Try.ntmps58
  go_wp2_with fail
  go_loopw [3, 4, 5, 6, 7, 8, 9, 10, 11, 12, 13, 14, 15, 16, 17, 18, 19, 20] (fun v3 v4 _ _ _ _ _ _ _ _ _ _ _ _ _ _ _ _ wr => ∃ k : Nat, k ≤ n ∧ v4 = .int .i64 k ∧ v3 = .string ⟨(Lib.join (xs.take k) [47]).toArray⟩ ∧ Below w.heap.size w wr) (fun _ v4 _ _ _ _ _ _ _ _ _ _ _ _ _ _ _ _ _ => n - (intOf v4).toNat)
  case atStart => exact ⟨0, Nat.zero_le _, rfl, rfl, Below.refl _ _⟩
  case round =>
    obtain ⟨k, hk, rfl, rfl, hb⟩ := hrel
    by_cases hlt : k < n
    · have hkz : (k : Int) < (n : Int) := by omega
      obtain ⟨x, hx⟩ : ∃ x, xs[k]? = some x := ⟨_, List.getElem?_eq_getElem (by have := HL.out; omega)⟩
      obtain ⟨g, rfl, hc⟩ := hcell wr hb k x hx
      have htk : xs.take (k + 1) = xs.take k ++ [x] := by rw [List.take_add_one, hx]; rfl
      have hj := join_snoc (xs.take k) x
      rw [← htk] at hj
      have hle := join_le xs (k + 1)
      have hle0 := join_le xs k
      have hnil : (xs.take k = []) ↔ k = 0 := by
        rw [List.take_eq_nil_iff]
        constructor
        · rintro (h | h)
          · exact h
          · rw [h] at hx; simp at hx
        · exact fun h => .inl h
      generalize hJ : Lib.join (xs.take k) [47] = J at hj hle0
      generalize hJ1 : Lib.join (xs.take (k + 1)) [47] = J1 at hj hle
      have HJ := Lib.hid hJ; have HJ1 := Lib.hid hJ1
      clear hcell hx htk hJ hJ1
      rcases Nat.eq_zero_or_pos k with rfl | h0
      · rw [if_pos (hnil.2 rfl)] at hj
        subst hj
        have hJ0 : J = [] := by rw [← HJ.out]; rfl
        subst hJ0
        clear hnil
        go_wp2_with fail
        go_roundw
        case rel => exact ⟨1, by omega, rfl, by rw [HJ1.out, cat_mk]; rfl, hb⟩
        case measure => simp [intOf]; omega
      · have h0z : (0 : Int) < (k : Int) := by omega
        rw [if_neg (fun e => by have := hnil.1 e; omega)] at hj
        clear hnil
        have hc1 := cat_mk J [47]
        have hc2 := cat_mk (J ++ [47]) x
        rw [← hj] at hc2
        have hl1 : J1.length = J.length + 1 + x.length := by rw [hj]; simp; omega
        have HJJ := Lib.hid hj
        clear hj
        go_wp2_with fail
        go_roundw
        case rel => exact ⟨k + 1, by omega, by go_num, by rw [HJ1.out], hb⟩
        case measure => simp [intOf]; omega
    · obtain rfl : k = n := by omega
      rw [List.take_of_length_le (by have := HL.out; omega)]
      clear hcell
      go_wp2_with fail
      go_ret
      exact ⟨rfl, hb⟩

theorem names_short (s : List UInt8) : (namesL s).length ≤ s.length + 1 := names_length s

set_option maxRecDepth 100000 in
set_option maxHeartbeats 4000000 in
theorem refClean_any (s : List UInt8) (hs : s.length ≤ 100000000000) (w : World) : Calls Try.prog 33 #[.string ⟨s.toArray⟩] w fun e w' => e = .returned (.tuple #[.string ⟨(cleanV s).1.toArray⟩, .bool (cleanV s).2]) ∧ Below w.heap.size w w' := by
  have HSP := fun w => refSplit_any s (by omega) w
  have hnl := names_length s
  have htot : tot (namesL s) ≤ s.length + 1 := by rw [← tot_split]; exact tot_filter _ _
  have hgo : ∀ (hp : Lib.hasPrefix s [47] = false), True := fun _ => trivial
  cases s with
  | nil =>
    have hcv : cleanV [] = ([], true) := by kernel_rfl
    have hnm : namesL [] = [] := by kernel_rfl
    rw [hnm] at HSP
    rw [hcv]
    clear hnl htot
    go_enter Try.func33, Try.ntmps33
    go_wp2_with fail
    refine (HSP _).mono ?_
    rintro e w1 ⟨v, rfl, ho, hb1⟩
    obtain ⟨A1, c1, rfl⟩ := own_form ho
    have HJ := fun W (hW : Below w1.heap.size w1 W) => refJoin2_any (own_below ho hW) (by simp) (by simp [tot])
    have HO := Lib.hid ho; clear ho
    simp only [List.length_nil] at HJ ⊢
    go_wp2_with fail
    refine wp_loop_rounds 1 ?_
    rw [rounds_succ]
    go_wp2_with (go_at_call 58; refine (HJ _ (Below.refl _ _)).mono ?_; rintro e w2 ⟨rfl, hb2⟩)
    go_ret2
    exact ⟨rfl, hb1.trans (hb2.mono hb1.size)⟩
  | cons b r =>
    have h0 : 0 < (b :: r).length := by simp
    by_cases hb47 : b = 47
    · have hcv : cleanV (b :: r) = ([], false) := by
        unfold cleanV
        rw [if_pos (by rw [hb47]; simp [Lib.hasPrefix])]
      rw [hcv]
      subst hb47
      have hx0 : (ByteArray.mk ((47 : UInt8) :: r).toArray)[0]'(Nat.succ_pos _) = 47 := rfl
      clear HSP hnl htot
      go_enter Try.func33, Try.ntmps33
      go_wp2_with fail
      go_ret2
      exact ⟨rfl, Below.refl _ _⟩
    · have hcv : cleanV (b :: r) = if [46, 46] ∈ namesL (b :: r) then ([], false) else (Lib.join (namesL (b :: r)) [47], true) := by
        unfold cleanV
        rw [if_neg (by simp [Lib.hasPrefix]; exact fun e => hb47 e.symm)]
      have hbn : ((b.toNat : Int) == 47) = false := by
        simp only [beq_eq_false_iff_ne, ne_eq]
        intro e
        exact hb47 (UInt8.toNat_inj.1 (by show b.toNat = 47; omega))
      have HCV := Lib.hid hcv; clear hcv
      have hsl : ((b :: r).length : Int) = (r.length : Int) + 1 := by simp
      generalize hsq : namesL (b :: r) = xs at HSP hnl htot HCV
      have HSQ := Lib.hid hsq; clear hsq
      have h0z : (0 : Int) < ((b :: r).length : Int) := by omega
      have hx0 : (ByteArray.mk (b :: r).toArray)[0]'(Nat.succ_pos _) = b := rfl
      have htl : r.length ≤ 100000000000 := by simp at hs; omega
      clear hs
      obtain ⟨sv, hsv⟩ : ∃ sv, sv = b :: r := ⟨_, rfl⟩
      have hpos : 0 < sv.length := by rw [hsv]; exact h0
      have hbn' : ((((ByteArray.mk sv.toArray)[0]'hpos).toNat : Int) == 47) = false := by subst hsv; exact hbn
      rw [← hsv] at HSP h0z HCV hsl ⊢
      clear hsv hx0 hbn hb47 h0 HSQ
      go_enter Try.func33, Try.ntmps33
      go_wp2_with fail
      refine (HSP _).mono ?_
      rintro e w1 ⟨v, rfl, ho, hb1⟩
      obtain ⟨A1, c1, rfl⟩ := own_form ho
      have hnl2 : xs.length ≤ 1000000000000 := by simp at hnl; omega
      have htot2 : tot xs ≤ 4000000000000 := by simp at htot; omega
      have HJ := fun W (hW : Below w1.heap.size w1 W) => refJoin2_any (own_below ho hW) hnl2 htot2
      have hcell : ∀ W, Below w1.heap.size w1 W → ∀ (j : Nat) (x : List UInt8), xs[j]? = some x → ∃ g, A1 = some ⟨g, 0, none⟩ ∧ W.cell? ⟨g, j, none⟩ = some (.string ⟨x.toArray⟩) := fun W hW j x hx => by
        rcases ho.2 with ⟨_, h0⟩ | ⟨g, cap, cur, hv, _⟩
        · have := (List.getElem?_eq_some_iff.1 hx).1
          omega
        · injection hv with hv1 _ _
          subst hv1
          have h1 := (own_below ho hW).cells (g := g) rfl j (encS x) (by simp [hx])
          rw [Addr.add_lit, Nat.zero_add] at h1
          exact ⟨g, rfl, h1⟩
      have HO := Lib.hid ho; clear ho hnl htot
      generalize hnx : xs.length = n at HJ hnl2 HO ⊢
      have HNX := Lib.hid hnx; clear hnx
      clear HO
      go_wp2_with fail
      go_loopw [5, 16, 17, 18, 19, 20, 21, 22, 23, 24, 25, 26] (fun v5 _ _ _ _ _ _ _ _ _ _ _ wr => ∃ k : Nat, k ≤ n ∧ v5 = .int .i64 k ∧ Below w1.heap.size w1 wr ∧ ∀ (j : Nat) (x : List UInt8), j < k → xs[j]? = some x → x ≠ [46, 46]) (fun v5 _ _ _ _ _ _ _ _ _ _ _ _ => n - (intOf v5).toNat)
      case atStart => exact ⟨0, Nat.zero_le _, rfl, Below.refl _ _, fun j x hj => absurd hj (Nat.not_lt_zero _)⟩
      case round =>
        obtain ⟨k, hk, rfl, hbr, hbef⟩ := hrel
        by_cases hlt : k < n
        · have hkz : (k : Int) < (n : Int) := by omega
          obtain ⟨x, hx⟩ : ∃ x, xs[k]? = some x := ⟨_, List.getElem?_eq_getElem (by have := HNX.out; omega)⟩
          obtain ⟨g, rfl, hc⟩ := hcell wr hbr k x hx
          have HX := Lib.hid hx; have HBF := Lib.hid hbef
          clear hcell hx hbef HJ HSP
          by_cases hdd : x = [46, 46]
          · have hcv : cleanV sv = ([], false) := by
              rw [HCV.out, if_pos]
              rw [← hdd]
              exact List.mem_of_getElem? HX.out
            have HCV2 := Lib.hid hcv
            clear hcv
            subst hdd
            clear HX HBF HCV
            go_wp2_with fail
            go_ret2
            rw [HCV2.out]
            exact ⟨rfl, hb1.trans (hbr.mono hb1.size)⟩
          · have hdb : (x == [46, 46]) = false := by simpa using hdd
            have HDD := Lib.hid hdd
            go_wp2_with fail
            go_roundw
            case rel =>
              refine ⟨k + 1, by omega, by go_num, hbr, fun j y hj hy => ?_⟩
              by_cases hjk : j = k
              · subst hjk
                rw [HX.out] at hy
                cases hy
                exact HDD.out
              · exact HBF.out j y (by omega) hy
            case measure => simp [intOf]; omega
        · obtain rfl : k = n := by omega
          have hcv : cleanV sv = (Lib.join xs [47], true) := by
            rw [HCV.out, if_neg]
            intro hm
            obtain ⟨j, hj, e⟩ := List.getElem_of_mem hm
            exact hbef j _ (by have := HNX.out; omega) (List.getElem?_eq_getElem hj) e
          have HCV2 := Lib.hid hcv
          clear hcv hbef hcell HCV
          go_wp2_with (go_at_call 58; refine (HJ _ hbr).mono ?_; rintro e w2 ⟨rfl, hb2⟩)
          go_ret2
          rw [HCV2.out]
          exact ⟨rfl, hb1.trans ((hbr.trans (hb2.mono hbr.size)).mono hb1.size)⟩

end Go.Proofs.Ytlbipmlbkcdmnaa
