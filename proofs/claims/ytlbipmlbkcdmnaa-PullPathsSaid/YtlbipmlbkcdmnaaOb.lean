/-
  A region that draws its order, walked piece by piece: readings as soon as they may come up, and where two or more operations may turn the world next, each of them first.
-/
import Derived.Test.YtlbipmlbkcdmnaaO
namespace Go.Proofs.Ytlbipmlbkcdmnaa
open Go.RowKit

section
variable {P : Program} {ops : Array Oper} {Q : Exit → Act → World → Prop} {md : Region.Mode} {Rel : World → World → Prop}

def wpPre (P : Program) (ops : Array Oper) (Q : Exit → Act → World → Prop) (Rel : World → World → Prop) (eff : List Nat) (K : Act → World → Prop) : List Nat → Act → World → Prop
  | [], a, w => K a w
  | i :: rest, a, w => ∃ o, ops[i]? = some o ∧
    if eff.contains i then
      if Region.wanted o (yielded ops a.tmps) then o.wp P a w (fun a' w' => Rel w w' ∧ wpPre P ops Q Rel eff K rest a' w') Q else wpPre P ops Q Rel eff K rest (a.put o.dst undef) w
    else ∃ v, YieldsIf P ops (fun W => Rel w W) o v a ∧ wpPre P ops Q Rel eff K rest (a.put o.dst v) w

def marked (order : List Nat) (listed : Array Bool) : Array Bool := order.foldl (fun l i => l.setIfInBounds i true) listed

def okPre (md : Region.Mode) (ops : Array Oper) (eff : List Nat) : List Nat → Array Bool → Bool
  | [], _ => true
  | i :: rest, listed => (if eff.contains i then Region.ready md ops listed == [i] else (Region.ready md ops listed).contains i && Region.free md ops listed i) && okPre md ops eff rest (listed.setIfInBounds i true)

theorem wpAnyB_pre (hrf : ∀ w, Rel w w) (htr : ∀ a b c, Rel a b → Rel b c → Rel a c) (hs : Region.noSelect ops = true) (hQ : ∀ d v c a w, Q (.panic c) (a.put d v) w → Q (.panic c) a w) (fuel : Nat) (eff : List Nat) :
    ∀ (order : List Nat) (listed : Array Bool) (a : Act) (w : World), okPre md ops eff order listed = true → wpPre P ops Q Rel eff (fun a' w' => wpAnyB P md ops Q Rel fuel (marked order listed) a' w') order a w → wpAnyB P md ops Q Rel (order.length + fuel) listed a w := by
  intro order
  induction order with
  | nil =>
    intro listed a w _ h
    simpa [wpPre, marked] using h
  | cons i rest ih =>
    intro listed a w hok h
    obtain ⟨o, hi, h⟩ := h
    simp only [okPre, Bool.and_eq_true] at hok
    obtain ⟨hok1, hok2⟩ := hok
    rw [show (i :: rest).length + fuel = rest.length + fuel + 1 by simp; omega]
    have hm : marked (i :: rest) listed = marked rest (listed.setIfInBounds i true) := rfl
    rw [hm] at h
    by_cases he : eff.contains i = true
    · rw [if_pos he] at hok1 h
      have hr : Region.ready md ops listed = [i] := by simpa using hok1
      refine ⟨fun h0 => (by rw [h0] at hr; cases hr), ?_⟩
      rw [hr]
      intro j hj
      obtain rfl : j = i := by simpa using hj
      refine wpOp_of_wp hi ?_
      split
      · rename_i hw
        rw [if_pos hw] at h
        exact Oper.wp_mono (fun a' w' h' => ⟨h'.1, ih _ _ _ hok2 h'.2⟩) h
      · rename_i hw
        rw [if_neg hw] at h
        exact ⟨hrf _, ih _ _ _ hok2 h⟩
    · rw [if_neg he] at hok1 h
      simp only [Bool.and_eq_true] at hok1
      obtain ⟨v, hy, h⟩ := h
      exact wpAnyB_first (S := fun W => Rel w W) hrf (fun w1 w2 h1 h2 => htr _ _ _ h1 h2) hi (Region.noSelect_spec hs) (hQ o.dst v) (rest.length + fuel) listed a w
        (Region.free_spec hi hok1.2) (by simpa using hok1.1) hy (hrf _) (ih _ _ _ hok2 h)

theorem wpAnyB_pick (hrf : ∀ w, Rel w w) (fuel : Nat) (r : List Nat) (listed : Array Bool) (a : Act) (w : World) (hr : (Region.ready md ops listed == r && !r.isEmpty) = true)
    (h : ∀ i ∈ r, wpPre P ops Q Rel r (fun a' w' => wpAnyB P md ops Q Rel fuel (listed.setIfInBounds i true) a' w') [i] a w) : wpAnyB P md ops Q Rel (fuel + 1) listed a w := by
  simp only [Bool.and_eq_true, beq_iff_eq] at hr
  obtain ⟨hr, hne⟩ := hr
  refine ⟨fun h0 => (by rw [hr] at h0; rw [h0] at hne; simp at hne), ?_⟩
  rw [hr]
  intro i hi
  obtain ⟨o, ho, h1⟩ := h i hi
  rw [if_pos (by simpa using hi)] at h1
  refine wpOp_of_wp ho ?_
  split
  · rename_i hw
    rw [if_pos hw] at h1
    exact Oper.wp_mono (fun a' w' h' => ⟨h'.1, h'.2⟩) h1
  · rename_i hw
    rw [if_neg hw] at h1
    exact ⟨hrf _, h1⟩

theorem wpAnyB_end (listed : Array Bool) (a : Act) (w : World) (hr : (Region.ready md ops listed).isEmpty = true) (h : Q .normal a w) : wpAnyB P md ops Q Rel 0 listed a w :=
  ⟨by simpa using hr, h⟩

/-- The beginning: from a world of a name of its own. -/
theorem wp_region_pieces {id : Nat} {a : Act} {w : World} (Rel : World → World → Prop) (hm : P.follows .mixedOrders = true)
    (h : ∀ W, W.heap = w.heap → Below w.heap.size w W → wpAnyB P .any ops Q Rel ops.size (Array.replicate ops.size false) a W) : (Code.region id ops true).wp P Q a w :=
  wp_region_any hm (wpAny_of_B _ _ _ _ (h w.drew rfl (Below.refl _ _).drew))

theorem pieces_pre (hrf : ∀ w, Rel w w) (htr : ∀ a b c, Rel a b → Rel b c → Rel a c) (hs : Region.noSelect ops = true) (hQ : ∀ d v c a w, Q (.panic c) (a.put d v) w → Q (.panic c) a w) (n fuel : Nat) (eff order : List Nat) (listed : Array Bool) (a : Act) (w : World) (hn : (n == order.length + fuel && okPre md ops eff order listed) = true)
    (h : wpPre P ops Q Rel eff (fun a' w' => wpAnyB P md ops Q Rel fuel (marked order listed) a' w') order a w) : wpAnyB P md ops Q Rel n listed a w := by
  simp only [Bool.and_eq_true, beq_iff_eq] at hn
  rw [hn.1]
  exact wpAnyB_pre hrf htr hs hQ fuel eff order listed a w hn.2 h

theorem pick_one {r : List Nat} {K : Act → World → Prop} {k : Nat} {a : Act} {w : World} (hk : k ∈ r) : wpPre P ops Q Rel [k] K [k] a w → wpPre P ops Q Rel r K [k] a w := by
  rintro ⟨o, ho, h⟩
  refine ⟨o, ho, ?_⟩
  rw [if_pos (by simp)] at h
  rw [if_pos (by simpa using hk)]
  exact h

theorem pieces_pick2 (hrf : ∀ w, Rel w w) (i j fuel : Nat) (listed : Array Bool) (a : Act) (w : World) (hr : (Region.ready md ops listed == [i, j]) = true)
    (h1 : wpPre P ops Q Rel [i] (fun a' w' => wpAnyB P md ops Q Rel fuel (listed.setIfInBounds i true) a' w') [i] a w)
    (h2 : wpPre P ops Q Rel [j] (fun a' w' => wpAnyB P md ops Q Rel fuel (listed.setIfInBounds j true) a' w') [j] a w) : wpAnyB P md ops Q Rel (fuel + 1) listed a w := by
  refine wpAnyB_pick hrf fuel [i, j] listed a w (by simpa using hr) fun k hk => ?_
  refine pick_one hk ?_
  rcases List.mem_cons.1 hk with rfl | hk
  · exact h1
  · obtain rfl : k = j := by simpa using hk
    exact h2

theorem pieces_pick3 (hrf : ∀ w, Rel w w) (i j l fuel : Nat) (listed : Array Bool) (a : Act) (w : World) (hr : (Region.ready md ops listed == [i, j, l]) = true)
    (h1 : wpPre P ops Q Rel [i] (fun a' w' => wpAnyB P md ops Q Rel fuel (listed.setIfInBounds i true) a' w') [i] a w)
    (h2 : wpPre P ops Q Rel [j] (fun a' w' => wpAnyB P md ops Q Rel fuel (listed.setIfInBounds j true) a' w') [j] a w)
    (h3 : wpPre P ops Q Rel [l] (fun a' w' => wpAnyB P md ops Q Rel fuel (listed.setIfInBounds l true) a' w') [l] a w) : wpAnyB P md ops Q Rel (fuel + 1) listed a w := by
  refine wpAnyB_pick hrf fuel [i, j, l] listed a w (by simpa using hr) fun k hk => ?_
  refine pick_one hk ?_
  rcases List.mem_cons.1 hk with rfl | hk
  · exact h1
  · rcases List.mem_cons.1 hk with rfl | hk
    · exact h2
    · obtain rfl : k = l := by simpa using hk
      exact h3

/-- What lay below block B stays, and of what is newer all but the blocks of one type. -/
def AddsT (T : TypeId) (B : Nat) (w w' : World) : Prop := Below B w w' ∧ ∀ k, k < w.heap.size → (∀ cs f, w.heap[k]? ≠ some (.cells cs T f)) → w'.heap[k]? = w.heap[k]?
theorem AddsT.refl (T : TypeId) (B : Nat) (w : World) : AddsT T B w w := ⟨Below.refl _ _, fun _ _ _ => rfl⟩
theorem AddsT.trans {T : TypeId} {B : Nat} (a b c : World) (h : AddsT T B a b) (k : AddsT T B b c) : AddsT T B a c :=
  ⟨h.1.trans k.1, fun j hj hc => by
    have h1 := h.2 j hj hc
    have hjb : j < b.heap.size := by have := h.1.size; omega
    exact (k.2 j hjb (by rw [h1]; exact hc)).trans h1⟩
theorem AddsT.below {T : TypeId} {B : Nat} {w w' : World} (h : Below w.heap.size w w') (hB : B ≤ w.heap.size) : AddsT T B w w' := ⟨h.mono hB, fun k hk _ => h.block k hk⟩
theorem AddsT.setCell {T : TypeId} {B g i : Nat} {w : World} {v : Value} {cs : Array Value} {f : Nat × Nat} (hg : w.heap[g]? = some (.cells cs T f)) (hB : B ≤ g) : AddsT T B w (w.setCell ⟨g, i, none⟩ v) :=
  ⟨(Below.refl B w).setCell (p := ⟨g, i, none⟩) hB v, fun k _ hne => Below.heap_setCell _ _ _ _ (fun e => hne cs f (by rw [e]; exact hg))⟩
theorem AddsT.other {T U : TypeId} {B k : Nat} {w w' : World} (h : AddsT T B w w') {cs : Array Value} {f : Nat × Nat} (hk : w.heap[k]? = some (.cells cs U f)) (hU : U ≠ T) : w'.heap[k]? = some (.cells cs U f) :=
  (h.2 k (Array.getElem?_eq_some_iff.1 hk).1 (fun cs' f' e => by rw [hk] at e; injection e with e; injection e with _ e2 _; exact hU e2)).trans hk

variable {eff : List Nat} {K : Act → World → Prop} {i : Nat} {rest : List Nat} {a : Act} {w : World} {dst : Option Tmp} {op : Op} {ty : TypeId} {pos : String} {after : Array Edge} {guard : Option (Nat × Bool)}

theorem wpPre_nil (h : K a w) : wpPre P ops Q Rel eff K [] a w := h
theorem wpPre_take {v : Value} (hi : ops[i]? = some ⟨dst, op, ty, pos, after, guard⟩) (he : eff.contains i = false) (hw : Region.wanted ⟨dst, op, ty, pos, after, guard⟩ (yielded ops a.tmps) = true)
    (hr : ∀ W, Rel w W → (execOp a.eval ⟨dst, op, ty, pos, after, guard⟩).run P W = .ok (.value v) W) (h : wpPre P ops Q Rel eff K rest (a.put dst v) w) : wpPre P ops Q Rel eff K (i :: rest) a w :=
  ⟨_, hi, by rw [if_neg (by rw [he]; decide)]; exact ⟨v, .inl ⟨hw, hr⟩, h⟩⟩
theorem wpPre_skip (hi : ops[i]? = some ⟨dst, op, ty, pos, after, guard⟩) (hw : Region.wanted ⟨dst, op, ty, pos, after, guard⟩ (yielded ops a.tmps) = false) (h : wpPre P ops Q Rel eff K rest (a.put dst undef) w) : wpPre P ops Q Rel eff K (i :: rest) a w := by
  refine ⟨_, hi, ?_⟩
  split
  · rw [if_neg (by rw [hw]; decide)]; exact h
  · exact ⟨undef, .inr ⟨hw, rfl⟩, h⟩
theorem wpPre_call (hi : ops[i]? = some ⟨dst, op, ty, pos, after, guard⟩) (he : eff.contains i = true) (hw : Region.wanted ⟨dst, op, ty, pos, after, guard⟩ (yielded ops a.tmps) = true)
    (h : Oper.wp P ⟨dst, op, ty, pos, after, guard⟩ a w (fun a' w' => Rel w w' ∧ wpPre P ops Q Rel eff K rest a' w') Q) : wpPre P ops Q Rel eff K (i :: rest) a w :=
  ⟨_, hi, by rw [if_pos he, if_pos hw]; exact h⟩

end

end Go.Proofs.Ytlbipmlbkcdmnaa
