/-
  A region that draws its order, walked once: where every operation of it only adds memory, an operation that reads what is there already may be taken as soon as it may come up.
-/
import Derived.OrdersHeld
import Derived.Below
import Derived.WalkKit
namespace Go.Proofs.Yteejjgnpjkldiaa
open Go.RowKit

section
variable {P : Program} {ops : Array Oper} {Q : Exit → Act → World → Prop} {md : Region.Mode}

/-- Whatever order is picked from here on, and nothing that was there has turned behind each operation. -/
def wpAnyB (P : Program) (md : Region.Mode) (ops : Array Oper) (Q : Exit → Act → World → Prop) : Nat → Array Bool → Act → World → Prop
  | 0, listed, a, w => Region.ready md ops listed = [] ∧ Q .normal a w
  | fuel + 1, listed, a, w =>
    (Region.ready md ops listed = [] → Q .normal a w) ∧
    ∀ i ∈ Region.ready md ops listed, wpOp P ops Q i (fun a' w' => Below w.heap.size w w' ∧ wpAnyB P md ops Q fuel (listed.setIfInBounds i true) a' w') a w

theorem wpAny_of_B : ∀ (fuel : Nat) (listed : Array Bool) (a : Act) (w : World), wpAnyB P md ops Q fuel listed a w → wpAny P md ops Q fuel listed a w
  | 0, _, _, _, h => h
  | fuel + 1, _, _, _, h => ⟨h.1, fun i hi => wpOp_mono (fun a' w' h' => wpAny_of_B fuel _ a' w' h'.2) (h.2 i hi)⟩

theorem wpAnyB_first {S : World → Prop} (hcl : ∀ w w', S w → Below w.heap.size w w' → S w') {i : Nat} {oi : Oper} {v : Value} (hi : ops[i]? = some oi) (hsel : ∀ (j : Nat) (o : Oper) cs b, ops[j]? = some o → o.op ≠ .select cs b)
    (hQ : ∀ c a w, Q (.panic c) (a.put oi.dst v) w → Q (.panic c) a w) :
    ∀ (fuel : Nat) (listed : Array Bool) (a : Act) (w : World),
      (∀ j oj, ops[j]? = some oj → j ≠ i → listed.getD j true = false → (∀ e ∈ oj.after, Region.binds md e = true → e.on ≠ i) → oi.apart ops oj = true) →
      i ∈ Region.ready md ops listed → YieldsIf P ops S oi v a → S w →
      wpAnyB P md ops Q fuel (listed.setIfInBounds i true) (a.put oi.dst v) w → wpAnyB P md ops Q (fuel + 1) listed a w := by
  intro fuel
  induction fuel with
  | zero =>
    intro listed a w _ hr hy hS H
    refine ⟨fun h => (by rw [h] at hr; cases hr), fun j hj => ?_⟩
    by_cases hji : j = i
    · subst hji; exact hy.wpOp hi hS ⟨Below.refl _ _, H⟩
    · have := ready_mono hj hji
      rw [H.1] at this
      cases this
  | succ fuel ih =>
    intro listed a w hfree hr hy hS H
    refine ⟨fun h => (by rw [h] at hr; cases hr), fun j hj => ?_⟩
    by_cases hji : j = i
    · subst hji; exact hy.wpOp hi hS ⟨Below.refl _ _, H⟩
    · have h1 := H.2 j (ready_mono hj hji)
      obtain ⟨hjun, oj, hoj, hall⟩ := mem_ready.1 hj
      have hnot : ∀ e ∈ oj.after, Region.binds md e = true → e.on ≠ i := fun e he hb heq => by
        have h1 := hall e he hb
        have h0 := (mem_ready.1 hr).1
        rw [heq] at h1
        rcases Nat.lt_or_ge i listed.size with h' | h'
        · simp [h'] at h0 h1; rw [h0] at h1; cases h1
        · simp [Array.getElem?_eq_none h'] at h1
      have h2 := wpOp_putIf hoj (hfree j oj hoj hji hjun hnot) (fun cs b => hsel i oi cs b hi) (fun cs b => hsel j oj cs b hoj) hQ hy h1
      have hfree' : ∀ k ok, ops[k]? = some ok → k ≠ i → (listed.setIfInBounds j true).getD k true = false →
          (∀ e ∈ ok.after, Region.binds md e = true → e.on ≠ i) → oi.apart ops ok = true := fun k ok hk hki hun hno => by
        refine hfree k ok hk hki ?_ hno
        by_cases hjk : j = k
        · subst hjk; exact hjun
        · rw [getD_set_ne true hjk] at hun; exact hun
      refine wpOp_mono (fun a' w' h3 => ⟨h3.2.1, ih (listed.setIfInBounds j true) a' w' hfree' (ready_mono hr (Ne.symm hji)) h3.1 (hcl w w' hS h3.2.1) ?_⟩) h2
      rw [Array.setIfInBounds_comm _ _ hji]
      exact h3.2.2

/-- The operations in an order of the prover's own: those of 'eff' may make memory; all others read what is there. -/
def wpOrd (P : Program) (ops : Array Oper) (Q : Exit → Act → World → Prop) (eff : List Nat) : List Nat → Act → World → Prop
  | [], a, w => Q .normal a w
  | i :: rest, a, w => ∃ o, ops[i]? = some o ∧
    if eff.contains i then
      if Region.wanted o (yielded ops a.tmps) then o.wp P a w (fun a' w' => Below w.heap.size w w' ∧ wpOrd P ops Q eff rest a' w') Q else wpOrd P ops Q eff rest (a.put o.dst undef) w
    else ∃ v, YieldsIf P ops (fun W => Below w.heap.size w W) o v a ∧ wpOrd P ops Q eff rest (a.put o.dst v) w

/-- Is it an order in which what makes memory comes up alone, and whatever else comes up is apart from all that might come ahead of it? -/
def okOrd (md : Region.Mode) (ops : Array Oper) (eff : List Nat) : List Nat → Array Bool → Bool
  | [], listed => (Region.ready md ops listed).isEmpty
  | i :: rest, listed => (if eff.contains i then Region.ready md ops listed == [i] else (Region.ready md ops listed).contains i && Region.free md ops listed i) && okOrd md ops eff rest (listed.setIfInBounds i true)

theorem wpAnyB_of_ord {eff : List Nat} (hs : Region.noSelect ops = true) (hQ : ∀ d v c a w, Q (.panic c) (a.put d v) w → Q (.panic c) a w) :
    ∀ (order : List Nat) (listed : Array Bool) (a : Act) (w : World), okOrd md ops eff order listed = true → wpOrd P ops Q eff order a w → wpAnyB P md ops Q order.length listed a w := by
  intro order
  induction order with
  | nil =>
    intro listed a w hok h
    have hr : Region.ready md ops listed = [] := by simpa [okOrd] using hok
    exact ⟨hr, h⟩
  | cons i rest ih =>
    intro listed a w hok h
    obtain ⟨o, hi, h⟩ := h
    simp only [okOrd, Bool.and_eq_true] at hok
    obtain ⟨hok1, hok2⟩ := hok
    by_cases he : eff.contains i = true
    · rw [if_pos he] at hok1 h
      have hr : Region.ready md ops listed = [i] := by simpa using hok1
      refine ⟨fun h0 => (by rw [h0] at hr; cases hr), ?_⟩
      rw [hr]
      intro j hj
      obtain rfl : j = i := by simpa using hj
      unfold wpOp
      simp only [hi]
      split
      · rename_i hw
        rw [if_pos hw] at h
        exact .inl (Oper.wp_mono (fun a' w' h' => ⟨h'.1, ih _ _ _ hok2 h'.2⟩) h)
      · rename_i hw
        rw [if_neg hw] at h
        exact ⟨Below.refl _ _, ih _ _ _ hok2 h⟩
    · rw [if_neg he] at hok1 h
      simp only [Bool.and_eq_true] at hok1
      obtain ⟨v, hy, h⟩ := h
      exact wpAnyB_first (S := fun W => Below w.heap.size w W) (fun w1 w2 h1 h2 => h1.trans (h2.mono h1.size)) hi (Region.noSelect_spec hs) (hQ o.dst v) rest.length listed a w
        (Region.free_spec hi hok1.2) (by simpa using hok1.1) hy (Below.refl _ _) (ih _ _ _ hok2 h)

/-- The beginning: a region that asks the tape: from the world behind the draw, in an order of the prover's own. -/
theorem wp_region_ord {id : Nat} {a : Act} {w : World} (order eff : List Nat) (hm : P.follows .mixedOrders = true) (hs : Region.noSelect ops = true) (hlen : order.length = ops.size)
    (hQ : ∀ d v c a w, Q (.panic c) (a.put d v) w → Q (.panic c) a w) (hok : okOrd .any ops eff order (Array.replicate ops.size false) = true) (h : wpOrd P ops Q eff order a w.drew) : (Code.region id ops true).wp P Q a w :=
  wp_region_any hm (wpAny_of_B _ _ _ _ (by have h1 := wpAnyB_of_ord hs hQ order _ a w.drew hok h; rwa [hlen] at h1))

variable {eff : List Nat} {i : Nat} {rest : List Nat} {a : Act} {w : World} {dst : Option Tmp} {op : Op} {ty : TypeId} {pos : String} {after : Array Edge} {guard : Option (Nat × Bool)}

theorem wpOrd_nil (h : Q .normal a w) : wpOrd P ops Q eff [] a w := h
theorem wpOrd_take {v : Value} (hi : ops[i]? = some ⟨dst, op, ty, pos, after, guard⟩) (he : eff.contains i = false) (hw : Region.wanted ⟨dst, op, ty, pos, after, guard⟩ (yielded ops a.tmps) = true)
    (hr : ∀ W, Below w.heap.size w W → (execOp a.eval ⟨dst, op, ty, pos, after, guard⟩).run P W = .ok (.value v) W) (h : wpOrd P ops Q eff rest (a.put dst v) w) : wpOrd P ops Q eff (i :: rest) a w :=
  ⟨_, hi, by rw [if_neg (by rw [he]; decide)]; exact ⟨v, .inl ⟨hw, hr⟩, h⟩⟩
theorem wpOrd_skip (hi : ops[i]? = some ⟨dst, op, ty, pos, after, guard⟩) (hw : Region.wanted ⟨dst, op, ty, pos, after, guard⟩ (yielded ops a.tmps) = false) (h : wpOrd P ops Q eff rest (a.put dst undef) w) : wpOrd P ops Q eff (i :: rest) a w := by
  refine ⟨_, hi, ?_⟩
  split
  · rw [if_neg (by rw [hw]; decide)]; exact h
  · exact ⟨undef, .inr ⟨hw, rfl⟩, h⟩
theorem wpOrd_call (hi : ops[i]? = some ⟨dst, op, ty, pos, after, guard⟩) (he : eff.contains i = true) (hw : Region.wanted ⟨dst, op, ty, pos, after, guard⟩ (yielded ops a.tmps) = true)
    (h : Oper.wp P ⟨dst, op, ty, pos, after, guard⟩ a w (fun a' w' => Below w.heap.size w w' ∧ wpOrd P ops Q eff rest a' w') Q) : wpOrd P ops Q eff (i :: rest) a w :=
  ⟨_, hi, by rw [if_pos he, if_pos hw]; exact h⟩

end

theorem panic_put {P : Program} {K : Act → World → Prop} {fn : Func} {R : Ending → World → Prop} : ∀ d v c a w, (Exit.then K (bodyPost P fn R)) (.panic c) (a.put d v) w → (Exit.then K (bodyPost P fn R)) (.panic c) a w := by
  intro d v c a w h
  cases d <;> exact h

end Go.Proofs.Yteejjgnpjkldiaa
