/-
  A region that draws its order, walked once: where every operation of it only adds memory, an operation that reads what is there already may be taken as soon as it may come up.
-/
import Derived.OrdersHeld
import Derived.Below
import Derived.WalkKit
namespace Go.Proofs.Ytlbipmlbkcdmnaa
open Go.RowKit

section
variable {P : Program} {ops : Array Oper} {Q : Exit → Act → World → Prop} {md : Region.Mode} {Rel : World → World → Prop}

/-- Whatever order is picked from here on, and each operation leads to a world that 'Rel' lets. -/
def wpAnyB (P : Program) (md : Region.Mode) (ops : Array Oper) (Q : Exit → Act → World → Prop) (Rel : World → World → Prop) : Nat → Array Bool → Act → World → Prop
  | 0, listed, a, w => Region.ready md ops listed = [] ∧ Q .normal a w
  | fuel + 1, listed, a, w =>
    (Region.ready md ops listed = [] → Q .normal a w) ∧
    ∀ i ∈ Region.ready md ops listed, wpOp P ops Q i (fun a' w' => Rel w w' ∧ wpAnyB P md ops Q Rel fuel (listed.setIfInBounds i true) a' w') a w

theorem wpAny_of_B : ∀ (fuel : Nat) (listed : Array Bool) (a : Act) (w : World), wpAnyB P md ops Q Rel fuel listed a w → wpAny P md ops Q fuel listed a w
  | 0, _, _, _, h => h
  | fuel + 1, _, _, _, h => ⟨h.1, fun i hi => wpOp_mono (fun a' w' h' => wpAny_of_B fuel _ a' w' h'.2) (h.2 i hi)⟩

theorem wpAnyB_first {S : World → Prop} (hrf : ∀ w, Rel w w) (hcl : ∀ w w', S w → Rel w w' → S w') {i : Nat} {oi : Oper} {v : Value} (hi : ops[i]? = some oi) (hsel : ∀ (j : Nat) (o : Oper) cs b, ops[j]? = some o → o.op ≠ .select cs b)
    (hQ : ∀ c a w, Q (.panic c) (a.put oi.dst v) w → Q (.panic c) a w) :
    ∀ (fuel : Nat) (listed : Array Bool) (a : Act) (w : World),
      (∀ j oj, ops[j]? = some oj → j ≠ i → listed.getD j true = false → (∀ e ∈ oj.after, Region.binds md e = true → e.on ≠ i) → oi.apart ops oj = true) →
      i ∈ Region.ready md ops listed → YieldsIf P ops S oi v a → S w →
      wpAnyB P md ops Q Rel fuel (listed.setIfInBounds i true) (a.put oi.dst v) w → wpAnyB P md ops Q Rel (fuel + 1) listed a w := by
  intro fuel
  induction fuel with
  | zero =>
    intro listed a w _ hr hy hS H
    refine ⟨fun h => (by rw [h] at hr; cases hr), fun j hj => ?_⟩
    by_cases hji : j = i
    · subst hji; exact hy.wpOp hi hS ⟨hrf _, H⟩
    · have := ready_mono hj hji
      rw [H.1] at this
      cases this
  | succ fuel ih =>
    intro listed a w hfree hr hy hS H
    refine ⟨fun h => (by rw [h] at hr; cases hr), fun j hj => ?_⟩
    by_cases hji : j = i
    · subst hji; exact hy.wpOp hi hS ⟨hrf _, H⟩
    · have h1 := H.2 j (ready_mono hj hji)
      obtain ⟨hjun, oj, hoj, hall⟩ := mem_ready.1 hj
      have hnot : ∀ e ∈ oj.after, Region.binds md e = true → e.on ≠ i := fun e he hb heq => by
        have h1 := hall e he hb
        have h0 := (mem_ready.1 hr).1
        rw [heq] at h1
        rcases Nat.lt_or_ge i listed.size with h' | h'
        · simp [h'] at h0 h1; rw [h0] at h1; cases h1
        · simp [Array.getElem?_eq_none h'] at h1
      have h2 := wpOp_putIf hoj (hfree j oj hoj hji hjun hnot) (fun cs b => hsel i oi cs b hi) (fun cs b => hsel j oj cs b hoj) hQ hy h1
      have hfree' : ∀ k ok, ops[k]? = some ok → k ≠ i → (listed.setIfInBounds j true).getD k true = false →
          (∀ e ∈ ok.after, Region.binds md e = true → e.on ≠ i) → oi.apart ops ok = true := fun k ok hk hki hun hno => by
        refine hfree k ok hk hki ?_ hno
        by_cases hjk : j = k
        · subst hjk; exact hjun
        · rw [getD_set_ne true hjk] at hun; exact hun
      refine wpOp_mono (fun a' w' h3 => ⟨h3.2.1, ih (listed.setIfInBounds j true) a' w' hfree' (ready_mono hr (Ne.symm hji)) h3.1 (hcl w w' hS h3.2.1) ?_⟩) h2
      rw [Array.setIfInBounds_comm _ _ hji]
      exact h3.2.2

/-- The operations in an order of the prover's own: those of 'eff' may turn the world as 'Rel' lets; all others read what is there. -/
def wpOrd (P : Program) (ops : Array Oper) (Q : Exit → Act → World → Prop) (Rel : World → World → Prop) (eff : List Nat) : List Nat → Act → World → Prop
  | [], a, w => Q .normal a w
  | i :: rest, a, w => ∃ o, ops[i]? = some o ∧
    if eff.contains i then
      if Region.wanted o (yielded ops a.tmps) then o.wp P a w (fun a' w' => Rel w w' ∧ wpOrd P ops Q Rel eff rest a' w') Q else wpOrd P ops Q Rel eff rest (a.put o.dst undef) w
    else ∃ v, YieldsIf P ops (fun W => Rel w W) o v a ∧ wpOrd P ops Q Rel eff rest (a.put o.dst v) w

/-- Is it an order in which what may turn the world comes up alone, and whatever else comes up is apart from all that might come ahead of it? -/
def okOrd (md : Region.Mode) (ops : Array Oper) (eff : List Nat) : List Nat → Array Bool → Bool
  | [], listed => (Region.ready md ops listed).isEmpty
  | i :: rest, listed => (if eff.contains i then Region.ready md ops listed == [i] else (Region.ready md ops listed).contains i && Region.free md ops listed i) && okOrd md ops eff rest (listed.setIfInBounds i true)

theorem wpOp_of_wp {i : Nat} {o : Oper} {a : Act} {w : World} {K : Act → World → Prop} (hi : ops[i]? = some o) (h : if Region.wanted o (yielded ops a.tmps) then o.wp P a w K Q else K (a.put o.dst undef) w) : wpOp P ops Q i K a w := by
  unfold wpOp
  simp only [hi]
  split
  · rename_i hw
    rw [if_pos hw] at h
    exact .inl h
  · rename_i hw
    rw [if_neg hw] at h
    exact h

theorem wpAnyB_of_ord (hrf : ∀ w, Rel w w) (htr : ∀ a b c, Rel a b → Rel b c → Rel a c) {eff : List Nat} (hs : Region.noSelect ops = true) (hQ : ∀ d v c a w, Q (.panic c) (a.put d v) w → Q (.panic c) a w) :
    ∀ (order : List Nat) (listed : Array Bool) (a : Act) (w : World), okOrd md ops eff order listed = true → wpOrd P ops Q Rel eff order a w → wpAnyB P md ops Q Rel order.length listed a w := by
  intro order
  induction order with
  | nil =>
    intro listed a w hok h
    have hr : Region.ready md ops listed = [] := by simpa [okOrd] using hok
    exact ⟨hr, h⟩
  | cons i rest ih =>
    intro listed a w hok h
    obtain ⟨o, hi, h⟩ := h
    simp only [okOrd, Bool.and_eq_true] at hok
    obtain ⟨hok1, hok2⟩ := hok
    by_cases he : eff.contains i = true
    · rw [if_pos he] at hok1 h
      have hr : Region.ready md ops listed = [i] := by simpa using hok1
      refine ⟨fun h0 => (by rw [h0] at hr; cases hr), ?_⟩
      rw [hr]
      intro j hj
      obtain rfl : j = i := by simpa using hj
      refine wpOp_of_wp hi ?_
      split
      · rename_i hw
        rw [if_pos hw] at h
        exact Oper.wp_mono (fun a' w' h' => ⟨h'.1, ih _ _ _ hok2 h'.2⟩) h
      · rename_i hw
        rw [if_neg hw] at h
        exact ⟨hrf _, ih _ _ _ hok2 h⟩
    · rw [if_neg he] at hok1 h
      simp only [Bool.and_eq_true] at hok1
      obtain ⟨v, hy, h⟩ := h
      exact wpAnyB_first (S := fun W => Rel w W) hrf (fun w1 w2 h1 h2 => htr _ _ _ h1 h2) hi (Region.noSelect_spec hs) (hQ o.dst v) rest.length listed a w
        (Region.free_spec hi hok1.2) (by simpa using hok1.1) hy (hrf _) (ih _ _ _ hok2 h)

/-- Readings ahead; then one of two operations comes up first, and each has an order of its own behind it. -/
def wpOrd2 (P : Program) (ops : Array Oper) (Q : Exit → Act → World → Prop) (Rel : World → World → Prop) (eff : List Nat) (i j : Nat) (o1 o2 : List Nat) : List Nat → Act → World → Prop
  | [], a, w => wpOrd P ops Q Rel eff (i :: o1) a w ∧ wpOrd P ops Q Rel eff (j :: o2) a w
  | k :: rest, a, w => ∃ o, ops[k]? = some o ∧ ∃ v, YieldsIf P ops (fun W => Rel w W) o v a ∧ wpOrd2 P ops Q Rel eff i j o1 o2 rest (a.put o.dst v) w

def okOrd2 (md : Region.Mode) (ops : Array Oper) (eff : List Nat) (i j : Nat) (o1 o2 : List Nat) : List Nat → Array Bool → Bool
  | [], listed => Region.ready md ops listed == [i, j] && eff.contains i && eff.contains j && okOrd md ops eff o1 (listed.setIfInBounds i true) && okOrd md ops eff o2 (listed.setIfInBounds j true) && o1.length == o2.length
  | k :: rest, listed => (Region.ready md ops listed).contains k && Region.free md ops listed k && okOrd2 md ops eff i j o1 o2 rest (listed.setIfInBounds k true)

theorem wpAnyB_of_ord2 (hrf : ∀ w, Rel w w) (htr : ∀ a b c, Rel a b → Rel b c → Rel a c) {eff : List Nat} {i j : Nat} {o1 o2 : List Nat} (hs : Region.noSelect ops = true) (hQ : ∀ d v c a w, Q (.panic c) (a.put d v) w → Q (.panic c) a w) :
    ∀ (pre : List Nat) (listed : Array Bool) (a : Act) (w : World), okOrd2 md ops eff i j o1 o2 pre listed = true → wpOrd2 P ops Q Rel eff i j o1 o2 pre a w → wpAnyB P md ops Q Rel (pre.length + (o1.length + 1)) listed a w := by
  intro pre
  induction pre with
  | nil =>
    intro listed a w hok h
    simp only [okOrd2, Bool.and_eq_true] at hok
    obtain ⟨⟨⟨⟨⟨hr, he1⟩, he2⟩, hk1⟩, hk2⟩, hl⟩ := hok
    have hr' : Region.ready md ops listed = [i, j] := by simpa using hr
    have hl' : o1.length = o2.length := by simpa using hl
    rw [show ([] : List Nat).length + (o1.length + 1) = o1.length + 1 by simp]
    obtain ⟨⟨x, hi, hx⟩, ⟨y, hj, hy⟩⟩ := h
    rw [if_pos he1] at hx
    rw [if_pos he2] at hy
    refine ⟨fun h0 => (by rw [h0] at hr'; cases hr'), ?_⟩
    rw [hr']
    intro k hk
    rcases List.mem_cons.1 hk with rfl | hk
    · refine wpOp_of_wp hi ?_
      split
      · rename_i hw
        rw [if_pos hw] at hx
        exact Oper.wp_mono (fun a' w' h' => ⟨h'.1, wpAnyB_of_ord hrf htr hs hQ o1 _ _ _ hk1 h'.2⟩) hx
      · rename_i hw
        rw [if_neg hw] at hx
        exact ⟨hrf _, wpAnyB_of_ord hrf htr hs hQ o1 _ _ _ hk1 hx⟩
    · obtain rfl : k = j := by simpa using hk
      rw [hl']
      refine wpOp_of_wp hj ?_
      split
      · rename_i hw
        rw [if_pos hw] at hy
        exact Oper.wp_mono (fun a' w' h' => ⟨h'.1, wpAnyB_of_ord hrf htr hs hQ o2 _ _ _ hk2 h'.2⟩) hy
      · rename_i hw
        rw [if_neg hw] at hy
        exact ⟨hrf _, wpAnyB_of_ord hrf htr hs hQ o2 _ _ _ hk2 hy⟩
  | cons k rest ih =>
    intro listed a w hok h
    obtain ⟨o, hi, v, hy, h⟩ := h
    simp only [okOrd2, Bool.and_eq_true] at hok
    obtain ⟨⟨hok1, hok2⟩, hok3⟩ := hok
    rw [show (k :: rest).length + (o1.length + 1) = rest.length + (o1.length + 1) + 1 by simp; omega]
    exact wpAnyB_first (S := fun W => Rel w W) hrf (fun w1 w2 h1 h2 => htr _ _ _ h1 h2) hi (Region.noSelect_spec hs) (hQ o.dst v) _ listed a w
      (Region.free_spec hi hok2) (by simpa using hok1) hy (hrf _) (ih _ _ _ hok3 h)

/-- Nothing that was there turns. -/
abbrev Adds (w w' : World) : Prop := Below w.heap.size w w'
theorem Adds.refl (w : World) : Adds w w := Below.refl _ _
theorem Adds.trans (a b c : World) (h : Adds a b) (k : Adds b c) : Adds a c := Below.trans h (Below.mono k h.size)

/-- The beginning: a region that asks the tape: from the world behind the draw, in an order of the prover's own. -/
theorem wp_region_ord {id : Nat} {a : Act} {w : World} (order eff : List Nat) (hm : P.follows .mixedOrders = true) (hs : Region.noSelect ops = true) (hlen : order.length = ops.size)
    (hQ : ∀ d v c a w, Q (.panic c) (a.put d v) w → Q (.panic c) a w) (hok : okOrd .any ops eff order (Array.replicate ops.size false) = true) (h : wpOrd P ops Q Adds eff order a w.drew) : (Code.region id ops true).wp P Q a w :=
  wp_region_any hm (wpAny_of_B _ _ _ _ (by have h1 := wpAnyB_of_ord Adds.refl Adds.trans hs hQ order _ a w.drew hok h; rwa [hlen] at h1))

/-- .. from a world of a name of its own, of which all that is said is that it is the old one behind a draw. -/
theorem wp_region_ordV {id : Nat} {a : Act} {w : World} (order eff : List Nat) (hm : P.follows .mixedOrders = true) (hs : Region.noSelect ops = true) (hlen : order.length = ops.size)
    (hQ : ∀ d v c a w, Q (.panic c) (a.put d v) w → Q (.panic c) a w) (hok : okOrd .any ops eff order (Array.replicate ops.size false) = true)
    (h : ∀ W, W.heap = w.heap → Below w.heap.size w W → wpOrd P ops Q Adds eff order a W) : (Code.region id ops true).wp P Q a w :=
  wp_region_ord order eff hm hs hlen hQ hok (h w.drew rfl (Below.refl _ _).drew)

/-- .. where what lies below block number B alone stays. -/
theorem wp_region_ordB {id : Nat} {a : Act} {w : World} (B : Nat) (order eff : List Nat) (hm : P.follows .mixedOrders = true) (hs : Region.noSelect ops = true) (hlen : order.length = ops.size)
    (hQ : ∀ d v c a w, Q (.panic c) (a.put d v) w → Q (.panic c) a w) (hok : okOrd .any ops eff order (Array.replicate ops.size false) = true) (h : wpOrd P ops Q (Below B) eff order a w.drew) : (Code.region id ops true).wp P Q a w :=
  wp_region_any hm (wpAny_of_B _ _ _ _ (by have h1 := wpAnyB_of_ord (Below.refl B) (fun _ _ _ => Below.trans) hs hQ order _ a w.drew hok h; rwa [hlen] at h1))

/-- .. where one of two operations comes up first, behind some readings. -/
theorem wp_region_ord2 {id : Nat} {a : Act} {w : World} (B : Nat) (pre : List Nat) (i : Nat) (o1 : List Nat) (j : Nat) (o2 : List Nat) (eff : List Nat) (hm : P.follows .mixedOrders = true) (hs : Region.noSelect ops = true) (hlen : pre.length + (o1.length + 1) = ops.size)
    (hQ : ∀ d v c a w, Q (.panic c) (a.put d v) w → Q (.panic c) a w) (hok : okOrd2 .any ops eff i j o1 o2 pre (Array.replicate ops.size false) = true) (h : wpOrd2 P ops Q (Below B) eff i j o1 o2 pre a w.drew) : (Code.region id ops true).wp P Q a w :=
  wp_region_any hm (wpAny_of_B _ _ _ _ (by have h1 := wpAnyB_of_ord2 (Below.refl B) (fun _ _ _ => Below.trans) hs hQ pre _ a w.drew hok h; rwa [hlen] at h1))

variable {eff : List Nat} {i : Nat} {rest : List Nat} {a : Act} {w : World} {dst : Option Tmp} {op : Op} {ty : TypeId} {pos : String} {after : Array Edge} {guard : Option (Nat × Bool)}

theorem wpOrd_nil (h : Q .normal a w) : wpOrd P ops Q Rel eff [] a w := h
theorem wpOrd_take {v : Value} (hi : ops[i]? = some ⟨dst, op, ty, pos, after, guard⟩) (he : eff.contains i = false) (hw : Region.wanted ⟨dst, op, ty, pos, after, guard⟩ (yielded ops a.tmps) = true)
    (hr : ∀ W, Rel w W → (execOp a.eval ⟨dst, op, ty, pos, after, guard⟩).run P W = .ok (.value v) W) (h : wpOrd P ops Q Rel eff rest (a.put dst v) w) : wpOrd P ops Q Rel eff (i :: rest) a w :=
  ⟨_, hi, by rw [if_neg (by rw [he]; decide)]; exact ⟨v, .inl ⟨hw, hr⟩, h⟩⟩
theorem wpOrd_skip (hi : ops[i]? = some ⟨dst, op, ty, pos, after, guard⟩) (hw : Region.wanted ⟨dst, op, ty, pos, after, guard⟩ (yielded ops a.tmps) = false) (h : wpOrd P ops Q Rel eff rest (a.put dst undef) w) : wpOrd P ops Q Rel eff (i :: rest) a w := by
  refine ⟨_, hi, ?_⟩
  split
  · rw [if_neg (by rw [hw]; decide)]; exact h
  · exact ⟨undef, .inr ⟨hw, rfl⟩, h⟩
theorem wpOrd_call (hi : ops[i]? = some ⟨dst, op, ty, pos, after, guard⟩) (he : eff.contains i = true) (hw : Region.wanted ⟨dst, op, ty, pos, after, guard⟩ (yielded ops a.tmps) = true)
    (h : Oper.wp P ⟨dst, op, ty, pos, after, guard⟩ a w (fun a' w' => Rel w w' ∧ wpOrd P ops Q Rel eff rest a' w') Q) : wpOrd P ops Q Rel eff (i :: rest) a w :=
  ⟨_, hi, by rw [if_pos he, if_pos hw]; exact h⟩
/-- An operation of 'eff' as a step law has it. -/
theorem wpOrd_step (hi : ops[i]? = some ⟨dst, op, ty, pos, after, guard⟩) (he : eff.contains i = true)
    (h : if Region.wanted ⟨dst, op, ty, pos, after, guard⟩ (yielded ops a.tmps) = true then Oper.wp P ⟨dst, op, ty, pos, after, guard⟩ a w (fun a' w' => Rel w w' ∧ wpOrd P ops Q Rel eff rest a' w') Q else wpOrd P ops Q Rel eff rest (a.put dst undef) w) :
    wpOrd P ops Q Rel eff (i :: rest) a w :=
  ⟨_, hi, by rw [if_pos he]; exact h⟩
theorem wpOrd2_take {x y : Nat} {o1 o2 : List Nat} {v : Value} (hi : ops[i]? = some ⟨dst, op, ty, pos, after, guard⟩) (hw : Region.wanted ⟨dst, op, ty, pos, after, guard⟩ (yielded ops a.tmps) = true)
    (hr : ∀ W, Rel w W → (execOp a.eval ⟨dst, op, ty, pos, after, guard⟩).run P W = .ok (.value v) W) (h : wpOrd2 P ops Q Rel eff x y o1 o2 rest (a.put dst v) w) : wpOrd2 P ops Q Rel eff x y o1 o2 (i :: rest) a w :=
  ⟨_, hi, v, .inl ⟨hw, hr⟩, h⟩

end

theorem panic_put {P : Program} {K : Act → World → Prop} {fn : Func} {R : Ending → World → Prop} : ∀ d v c a w, (Exit.then K (bodyPost P fn R)) (.panic c) (a.put d v) w → (Exit.then K (bodyPost P fn R)) (.panic c) a w := by
  intro d v c a w h
  cases d <;> exact h

end Go.Proofs.Ytlbipmlbkcdmnaa
