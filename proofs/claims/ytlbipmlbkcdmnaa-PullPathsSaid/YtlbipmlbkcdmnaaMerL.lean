/-
  A region that draws its order, walked once, whose last operation may turn anything: what the others read is asked to stay under all but that one.
-/
import Derived.Test.YtlbipmlbkcdmnaaOb
namespace Go.Proofs.Ytlbipmlbkcdmnaa
open Go.RowKit

section
variable {P : Program} {ops : Array Oper} {Q : Exit → Act → World → Prop} {md : Region.Mode} {Rel : World → World → Prop} {z : Nat}

def wpAnyZ (P : Program) (md : Region.Mode) (ops : Array Oper) (Q : Exit → Act → World → Prop) (Rel : World → World → Prop) (z : Nat) : Nat → Array Bool → Act → World → Prop
  | 0, listed, a, w => Region.ready md ops listed = [] ∧ Q .normal a w
  | fuel + 1, listed, a, w =>
    (Region.ready md ops listed = [] → Q .normal a w) ∧
    ∀ i ∈ Region.ready md ops listed, wpOp P ops Q i (fun a' w' => (i = z ∨ Rel w w') ∧ wpAnyZ P md ops Q Rel z fuel (listed.setIfInBounds i true) a' w') a w

theorem wpAny_of_Z : ∀ (fuel : Nat) (listed : Array Bool) (a : Act) (w : World), wpAnyZ P md ops Q Rel z fuel listed a w → wpAny P md ops Q fuel listed a w
  | 0, _, _, _, h => h
  | fuel + 1, _, _, _, h => ⟨h.1, fun i hi => wpOp_mono (fun a' w' h' => wpAny_of_Z fuel _ a' w' h'.2) (h.2 i hi)⟩

/-- Whatever is listed, what it waits for is listed. -/
def Closed (md : Region.Mode) (ops : Array Oper) (l : Array Bool) : Prop := ∀ k ok, ops[k]? = some ok → l.getD k false = true → ∀ e ∈ ok.after, Region.binds md e = true → l.getD e.on false = true

theorem closed_set {l : Array Bool} {j : Nat} (h : Closed md ops l) (hj : j ∈ Region.ready md ops l) : Closed md ops (l.setIfInBounds j true) := by
  intro k ok hk hl e he hb
  obtain ⟨_, oj, hoj, hall⟩ := mem_ready.1 hj
  by_cases hkj : j = k
  · subst hkj
    rw [hk] at hoj
    cases hoj
    exact getD_set_true (hall e he hb)
  · rw [getD_set_ne false hkj] at hl
    exact getD_set_true (h k ok hk hl e he hb)

theorem closed_none (n : Nat) : Closed md ops (Array.replicate n false) := by
  intro k ok _ hl
  rcases Nat.lt_or_ge k n with h | h
  · simp [h] at hl
  · simp [h] at hl

/-- Does k wait for i? -/
def depB (md : Region.Mode) (ops : Array Oper) : Nat → Nat → Nat → Bool
  | 0, _, _ => false
  | f + 1, k, i => match ops[k]? with
    | none => false
    | some ok => ok.after.any fun e => Region.binds md e && (e.on == i || depB md ops f e.on i)

theorem dep_listed {l : Array Bool} (hC : Closed md ops l) {i : Nat} : ∀ (f k : Nat), depB md ops f k i = true → (∀ ok, ops[k]? = some ok → ∀ e ∈ ok.after, Region.binds md e = true → l.getD e.on false = true) → l.getD i false = true
  | 0, _, h, _ => by cases h
  | f + 1, k, h, hk => by
    unfold depB at h
    cases hok : ops[k]? with
    | none => rw [hok] at h; cases h
    | some ok =>
      rw [hok] at h
      simp only [Array.any_eq_true, Bool.and_eq_true, Bool.or_eq_true, beq_iff_eq] at h
      obtain ⟨n, hn, h1, h2⟩ := h
      have h3 := hk ok hok _ (Array.getElem_mem hn) h1
      rcases h2 with h2 | h2
      · rw [← h2]; exact h3
      · exact dep_listed hC f _ h2 fun o2 ho2 => hC _ o2 ho2 h3

theorem wpAnyZ_first {S : World → Prop} (hrf : ∀ w, Rel w w) (hcl : ∀ w w', S w → Rel w w' → S w') {i : Nat} {oi : Oper} {v : Value} (hi : ops[i]? = some oi) (hsel : ∀ (j : Nat) (o : Oper) cs b, ops[j]? = some o → o.op ≠ .select cs b)
    (hQ : ∀ c a w, Q (.panic c) (a.put oi.dst v) w → Q (.panic c) a w) (hz : ∀ l, Closed md ops l → z ∈ Region.ready md ops l → l.getD i false = true) :
    ∀ (fuel : Nat) (listed : Array Bool) (a : Act) (w : World), Closed md ops listed →
      (∀ j oj, ops[j]? = some oj → j ≠ i → listed.getD j true = false → (∀ e ∈ oj.after, Region.binds md e = true → e.on ≠ i) → oi.apart ops oj = true) →
      i ∈ Region.ready md ops listed → YieldsIf P ops S oi v a → S w →
      wpAnyZ P md ops Q Rel z fuel (listed.setIfInBounds i true) (a.put oi.dst v) w → wpAnyZ P md ops Q Rel z (fuel + 1) listed a w := by
  intro fuel
  induction fuel with
  | zero =>
    intro listed a w _ _ hr hy hS H
    refine ⟨fun h => (by rw [h] at hr; cases hr), fun j hj => ?_⟩
    by_cases hji : j = i
    · subst hji; exact hy.wpOp hi hS ⟨.inr (hrf _), H⟩
    · have := ready_mono hj hji
      rw [H.1] at this
      cases this
  | succ fuel ih =>
    intro listed a w hcl0 hfree hr hy hS H
    refine ⟨fun h => (by rw [h] at hr; cases hr), fun j hj => ?_⟩
    by_cases hji : j = i
    · subst hji; exact hy.wpOp hi hS ⟨.inr (hrf _), H⟩
    · have h1 := H.2 j (ready_mono hj hji)
      obtain ⟨hjun, oj, hoj, hall⟩ := mem_ready.1 hj
      have hnot : ∀ e ∈ oj.after, Region.binds md e = true → e.on ≠ i := fun e he hb heq => by
        have h1 := hall e he hb
        have h0 := (mem_ready.1 hr).1
        rw [heq] at h1
        rcases Nat.lt_or_ge i listed.size with h' | h'
        · simp [h'] at h0 h1; rw [h0] at h1; cases h1
        · simp [Array.getElem?_eq_none h'] at h1
      have hjz : j ≠ z := fun e => by
        subst e
        have h1 := hz listed hcl0 hj
        have h0 := (mem_ready.1 hr).1
        rcases Nat.lt_or_ge i listed.size with h' | h'
        · simp [h'] at h0 h1; rw [h0] at h1; cases h1
        · simp [Array.getElem?_eq_none h'] at h1
      have h2 := wpOp_putIf hoj (hfree j oj hoj hji hjun hnot) (fun cs b => hsel i oi cs b hi) (fun cs b => hsel j oj cs b hoj) hQ hy h1
      have hfree' : ∀ k ok, ops[k]? = some ok → k ≠ i → (listed.setIfInBounds j true).getD k true = false →
          (∀ e ∈ ok.after, Region.binds md e = true → e.on ≠ i) → oi.apart ops ok = true := fun k ok hk hki hun hno => by
        refine hfree k ok hk hki ?_ hno
        by_cases hjk : j = k
        · subst hjk; exact hjun
        · rw [getD_set_ne true hjk] at hun; exact hun
      refine wpOp_mono (fun a' w' h3 => ?_) h2
      have hrel : Rel w w' := h3.2.1.resolve_left hjz
      refine ⟨.inr hrel, ih (listed.setIfInBounds j true) a' w' (closed_set hcl0 hj) hfree' (ready_mono hr (Ne.symm hji)) h3.1 (hcl w w' hS hrel) ?_⟩
      rw [Array.setIfInBounds_comm _ _ hji]
      exact h3.2.2

/-- The operations in an order of the prover's own: z, the last, may turn what it likes. -/
def wpOrdZ (P : Program) (ops : Array Oper) (Q : Exit → Act → World → Prop) (Rel : World → World → Prop) (z : Nat) (eff : List Nat) : List Nat → Act → World → Prop
  | [], a, w => Q .normal a w
  | i :: rest, a, w => ∃ o, ops[i]? = some o ∧
    if eff.contains i then
      if Region.wanted o (yielded ops a.tmps) then o.wp P a w (fun a' w' => (i = z ∨ Rel w w') ∧ wpOrdZ P ops Q Rel z eff rest a' w') Q else wpOrdZ P ops Q Rel z eff rest (a.put o.dst undef) w
    else ∃ v, YieldsIf P ops (fun W => Rel w W) o v a ∧ wpOrdZ P ops Q Rel z eff rest (a.put o.dst v) w

def okOrdZ (md : Region.Mode) (ops : Array Oper) (z : Nat) (eff : List Nat) : List Nat → Array Bool → Bool
  | [], listed => (Region.ready md ops listed).isEmpty
  | i :: rest, listed => (if eff.contains i then Region.ready md ops listed == [i] else (Region.ready md ops listed).contains i && Region.free md ops listed i && depB md ops ops.size z i) && okOrdZ md ops z eff rest (listed.setIfInBounds i true)

theorem wpAnyZ_of_ord (hrf : ∀ w, Rel w w) (htr : ∀ a b c, Rel a b → Rel b c → Rel a c) {eff : List Nat} (hs : Region.noSelect ops = true) (hQ : ∀ d v c a w, Q (.panic c) (a.put d v) w → Q (.panic c) a w) :
    ∀ (order : List Nat) (listed : Array Bool) (a : Act) (w : World), Closed md ops listed → okOrdZ md ops z eff order listed = true → wpOrdZ P ops Q Rel z eff order a w → wpAnyZ P md ops Q Rel z order.length listed a w := by
  intro order
  induction order with
  | nil =>
    intro listed a w _ hok h
    have hr : Region.ready md ops listed = [] := by simpa [okOrdZ] using hok
    exact ⟨hr, h⟩
  | cons i rest ih =>
    intro listed a w hcl hok h
    obtain ⟨o, hi, h⟩ := h
    simp only [okOrdZ, Bool.and_eq_true] at hok
    obtain ⟨hok1, hok2⟩ := hok
    by_cases he : eff.contains i = true
    · rw [if_pos he] at hok1 h
      have hr : Region.ready md ops listed = [i] := by simpa using hok1
      refine ⟨fun h0 => (by rw [h0] at hr; cases hr), ?_⟩
      have hcl2 := closed_set hcl (j := i) (by rw [hr]; simp)
      rw [hr]
      intro j hj
      obtain rfl : j = i := by simpa using hj
      refine wpOp_of_wp hi ?_
      split
      · rename_i hw
        rw [if_pos hw] at h
        exact Oper.wp_mono (fun a' w' h' => ⟨h'.1, ih _ _ _ hcl2 hok2 h'.2⟩) h
      · rename_i hw
        rw [if_neg hw] at h
        exact ⟨.inr (hrf _), ih _ _ _ hcl2 hok2 h⟩
    · rw [if_neg he] at hok1 h
      simp only [Bool.and_eq_true] at hok1
      obtain ⟨v, hy, h⟩ := h
      exact wpAnyZ_first (S := fun W => Rel w W) hrf (fun w1 w2 h1 h2 => htr _ _ _ h1 h2) hi (Region.noSelect_spec hs) (hQ o.dst v) (fun l hl hz => by
          obtain ⟨_, oz, hoz, hall⟩ := mem_ready.1 hz
          exact dep_listed hl _ _ hok1.2 fun ok hok => by rw [hoz] at hok; cases hok; exact hall) rest.length listed a w hcl
        (Region.free_spec hi hok1.1.2) (by simpa using hok1.1.1) hy (hrf _) (ih _ _ _ (closed_set hcl (by simpa using hok1.1.1)) hok2 h)

/-- The beginning: from a world of a name of its own; z: the last operation. -/
theorem wp_region_ordZ {id : Nat} {a : Act} {w : World} (z : Nat) (order eff : List Nat) (hm : P.follows .mixedOrders = true) (hs : Region.noSelect ops = true) (hlen : order.length = ops.size)
    (hQ : ∀ d v c a w, Q (.panic c) (a.put d v) w → Q (.panic c) a w) (hok : okOrdZ .any ops z eff order (Array.replicate ops.size false) = true)
    (h : ∀ W, W.heap = w.heap → Below w.heap.size w W → wpOrdZ P ops Q Adds z eff order a W) : (Code.region id ops true).wp P Q a w :=
  wp_region_any hm (wpAny_of_Z _ _ _ _ (by have h1 := wpAnyZ_of_ord (z := z) Adds.refl Adds.trans hs hQ order _ a w.drew (closed_none _) hok (h w.drew rfl (Below.refl _ _).drew); rwa [hlen] at h1))

variable {eff : List Nat} {i : Nat} {rest : List Nat} {a : Act} {w : World} {dst : Option Tmp} {op : Op} {ty : TypeId} {pos : String} {after : Array Edge} {guard : Option (Nat × Bool)}

theorem wpOrdZ_nil (h : Q .normal a w) : wpOrdZ P ops Q Rel z eff [] a w := h
theorem wpOrdZ_take {v : Value} (hi : ops[i]? = some ⟨dst, op, ty, pos, after, guard⟩) (he : eff.contains i = false) (hw : Region.wanted ⟨dst, op, ty, pos, after, guard⟩ (yielded ops a.tmps) = true)
    (hr : ∀ W, Rel w W → (execOp a.eval ⟨dst, op, ty, pos, after, guard⟩).run P W = .ok (.value v) W) (h : wpOrdZ P ops Q Rel z eff rest (a.put dst v) w) : wpOrdZ P ops Q Rel z eff (i :: rest) a w :=
  ⟨_, hi, by rw [if_neg (by rw [he]; decide)]; exact ⟨v, .inl ⟨hw, hr⟩, h⟩⟩
theorem wpOrdZ_skip (hi : ops[i]? = some ⟨dst, op, ty, pos, after, guard⟩) (hw : Region.wanted ⟨dst, op, ty, pos, after, guard⟩ (yielded ops a.tmps) = false) (h : wpOrdZ P ops Q Rel z eff rest (a.put dst undef) w) : wpOrdZ P ops Q Rel z eff (i :: rest) a w := by
  refine ⟨_, hi, ?_⟩
  split
  · rw [if_neg (by rw [hw]; decide)]; exact h
  · exact ⟨undef, .inr ⟨hw, rfl⟩, h⟩
theorem wpOrdZ_call (hi : ops[i]? = some ⟨dst, op, ty, pos, after, guard⟩) (he : eff.contains i = true) (hw : Region.wanted ⟨dst, op, ty, pos, after, guard⟩ (yielded ops a.tmps) = true)
    (h : Oper.wp P ⟨dst, op, ty, pos, after, guard⟩ a w (fun a' w' => (i = z ∨ Rel w w') ∧ wpOrdZ P ops Q Rel z eff rest a' w') Q) : wpOrdZ P ops Q Rel z eff (i :: rest) a w :=
  ⟨_, hi, by rw [if_pos he, if_pos hw]; exact h⟩

end

end Go.Proofs.Ytlbipmlbkcdmnaa

/-
  As before; and operations that read no memory may come up behind the last as well.
-/
namespace Go.Proofs.Ytlbipmlbkcdmnaa
open Go.RowKit

section
variable {P : Program} {ops : Array Oper} {Q : Exit → Act → World → Prop} {md : Region.Mode} {Rel : World → World → Prop} {z : Nat}

theorem wpAnyZ_free (hrf : ∀ w, Rel w w) {i : Nat} {oi : Oper} {v : Value} (hi : ops[i]? = some oi) (hsel : ∀ (j : Nat) (o : Oper) cs b, ops[j]? = some o → o.op ≠ .select cs b)
    (hQ : ∀ c a w, Q (.panic c) (a.put oi.dst v) w → Q (.panic c) a w) :
    ∀ (fuel : Nat) (listed : Array Bool) (a : Act) (w : World),
      (∀ j oj, ops[j]? = some oj → j ≠ i → listed.getD j true = false → (∀ e ∈ oj.after, Region.binds md e = true → e.on ≠ i) → oi.apart ops oj = true) →
      i ∈ Region.ready md ops listed → YieldsIf P ops (fun _ => True) oi v a →
      wpAnyZ P md ops Q Rel z fuel (listed.setIfInBounds i true) (a.put oi.dst v) w → wpAnyZ P md ops Q Rel z (fuel + 1) listed a w := by
  intro fuel
  induction fuel with
  | zero =>
    intro listed a w _ hr hy H
    refine ⟨fun h => (by rw [h] at hr; cases hr), fun j hj => ?_⟩
    by_cases hji : j = i
    · subst hji; exact hy.wpOp hi trivial ⟨.inr (hrf _), H⟩
    · have := ready_mono hj hji
      rw [H.1] at this
      cases this
  | succ fuel ih =>
    intro listed a w hfree hr hy H
    refine ⟨fun h => (by rw [h] at hr; cases hr), fun j hj => ?_⟩
    by_cases hji : j = i
    · subst hji; exact hy.wpOp hi trivial ⟨.inr (hrf _), H⟩
    · have h1 := H.2 j (ready_mono hj hji)
      obtain ⟨hjun, oj, hoj, hall⟩ := mem_ready.1 hj
      have hnot : ∀ e ∈ oj.after, Region.binds md e = true → e.on ≠ i := fun e he hb heq => by
        have h1 := hall e he hb
        have h0 := (mem_ready.1 hr).1
        rw [heq] at h1
        rcases Nat.lt_or_ge i listed.size with h' | h'
        · simp [h'] at h0 h1; rw [h0] at h1; cases h1
        · simp [Array.getElem?_eq_none h'] at h1
      have h2 := wpOp_putIf hoj (hfree j oj hoj hji hjun hnot) (fun cs b => hsel i oi cs b hi) (fun cs b => hsel j oj cs b hoj) hQ hy h1
      have hfree' : ∀ k ok, ops[k]? = some ok → k ≠ i → (listed.setIfInBounds j true).getD k true = false →
          (∀ e ∈ ok.after, Region.binds md e = true → e.on ≠ i) → oi.apart ops ok = true := fun k ok hk hki hun hno => by
        refine hfree k ok hk hki ?_ hno
        by_cases hjk : j = k
        · subst hjk; exact hjun
        · rw [getD_set_ne true hjk] at hun; exact hun
      refine wpOp_mono (fun a' w' h3 => ?_) h2
      refine ⟨h3.2.1, ih (listed.setIfInBounds j true) a' w' hfree' (ready_mono hr (Ne.symm hji)) h3.1 ?_⟩
      rw [Array.setIfInBounds_comm _ _ hji]
      exact h3.2.2

/-- The operations in an order of the prover's own: z, the last, may turn what it likes. -/
def wpOrdY (P : Program) (ops : Array Oper) (Q : Exit → Act → World → Prop) (Rel : World → World → Prop) (z : Nat) (eff fr : List Nat) : List Nat → Act → World → Prop
  | [], a, w => Q .normal a w
  | i :: rest, a, w => ∃ o, ops[i]? = some o ∧
    if eff.contains i then
      if Region.wanted o (yielded ops a.tmps) then o.wp P a w (fun a' w' => (i = z ∨ Rel w w') ∧ wpOrdY P ops Q Rel z eff fr rest a' w') Q else wpOrdY P ops Q Rel z eff fr rest (a.put o.dst undef) w
    else ∃ v, YieldsIf P ops (fun W => fr.contains i = true ∨ Rel w W) o v a ∧ wpOrdY P ops Q Rel z eff fr rest (a.put o.dst v) w

def okOrdY (md : Region.Mode) (ops : Array Oper) (z : Nat) (eff fr : List Nat) : List Nat → Array Bool → Bool
  | [], listed => (Region.ready md ops listed).isEmpty
  | i :: rest, listed => (if eff.contains i then Region.ready md ops listed == [i] else (Region.ready md ops listed).contains i && Region.free md ops listed i && (fr.contains i || depB md ops ops.size z i)) && okOrdY md ops z eff fr rest (listed.setIfInBounds i true)

theorem wpAnyZ_of_ordY (hrf : ∀ w, Rel w w) (htr : ∀ a b c, Rel a b → Rel b c → Rel a c) {eff fr : List Nat} (hs : Region.noSelect ops = true) (hQ : ∀ d v c a w, Q (.panic c) (a.put d v) w → Q (.panic c) a w) :
    ∀ (order : List Nat) (listed : Array Bool) (a : Act) (w : World), Closed md ops listed → okOrdY md ops z eff fr order listed = true → wpOrdY P ops Q Rel z eff fr order a w → wpAnyZ P md ops Q Rel z order.length listed a w := by
  intro order
  induction order with
  | nil =>
    intro listed a w _ hok h
    have hr : Region.ready md ops listed = [] := by simpa [okOrdY] using hok
    exact ⟨hr, h⟩
  | cons i rest ih =>
    intro listed a w hcl hok h
    obtain ⟨o, hi, h⟩ := h
    simp only [okOrdY, Bool.and_eq_true] at hok
    obtain ⟨hok1, hok2⟩ := hok
    by_cases he : eff.contains i = true
    · rw [if_pos he] at hok1 h
      have hr : Region.ready md ops listed = [i] := by simpa using hok1
      refine ⟨fun h0 => (by rw [h0] at hr; cases hr), ?_⟩
      have hcl2 := closed_set hcl (j := i) (by rw [hr]; simp)
      rw [hr]
      intro j hj
      obtain rfl : j = i := by simpa using hj
      refine wpOp_of_wp hi ?_
      split
      · rename_i hw
        rw [if_pos hw] at h
        exact Oper.wp_mono (fun a' w' h' => ⟨h'.1, ih _ _ _ hcl2 hok2 h'.2⟩) h
      · rename_i hw
        rw [if_neg hw] at h
        exact ⟨.inr (hrf _), ih _ _ _ hcl2 hok2 h⟩
    · rw [if_neg he] at hok1 h
      simp only [Bool.and_eq_true] at hok1
      obtain ⟨v, hy, h⟩ := h
      by_cases hfr : fr.contains i = true
      · exact wpAnyZ_free hrf hi (Region.noSelect_spec hs) (hQ o.dst v) rest.length listed a w
          (Region.free_spec hi hok1.1.2) (by simpa using hok1.1.1) (hy.imp (fun ⟨hw, hv⟩ => ⟨hw, fun w _ => hv w (.inl hfr)⟩) id) (ih _ _ _ (closed_set hcl (by simpa using hok1.1.1)) hok2 h)
      · have hdep : depB md ops ops.size z i = true := by
          rcases Bool.or_eq_true _ _ ▸ hok1.2 with h1 | h1
          · exact absurd h1 hfr
          · exact h1
        exact wpAnyZ_first (S := fun W => Rel w W) hrf (fun w1 w2 h1 h2 => htr _ _ _ h1 h2) hi (Region.noSelect_spec hs) (hQ o.dst v) (fun l hl hz => by
          obtain ⟨_, oz, hoz, hall⟩ := mem_ready.1 hz
          exact dep_listed hl _ _ hdep fun ok hok => by rw [hoz] at hok; cases hok; exact hall) rest.length listed a w hcl
          (Region.free_spec hi hok1.1.2) (by simpa using hok1.1.1) (hy.imp (fun ⟨hw, hv⟩ => ⟨hw, fun w h => hv w (.inr h)⟩) id) (hrf _) (ih _ _ _ (closed_set hcl (by simpa using hok1.1.1)) hok2 h)

/-- The beginning: from a world of a name of its own; z: the last operation. -/
theorem wp_region_ordY {id : Nat} {a : Act} {w : World} (z : Nat) (order eff fr : List Nat) (hm : P.follows .mixedOrders = true) (hs : Region.noSelect ops = true) (hlen : order.length = ops.size)
    (hQ : ∀ d v c a w, Q (.panic c) (a.put d v) w → Q (.panic c) a w) (hok : okOrdY .any ops z eff fr order (Array.replicate ops.size false) = true)
    (h : ∀ W, W.heap = w.heap → Below w.heap.size w W → wpOrdY P ops Q Adds z eff fr order a W) : (Code.region id ops true).wp P Q a w :=
  wp_region_any hm (wpAny_of_Z _ _ _ _ (by have h1 := wpAnyZ_of_ordY (z := z) Adds.refl Adds.trans hs hQ order _ a w.drew (closed_none _) hok (h w.drew rfl (Below.refl _ _).drew); rwa [hlen] at h1))

variable {eff fr : List Nat} {i : Nat} {rest : List Nat} {a : Act} {w : World} {dst : Option Tmp} {op : Op} {ty : TypeId} {pos : String} {after : Array Edge} {guard : Option (Nat × Bool)}

theorem wpOrdY_nil (h : Q .normal a w) : wpOrdY P ops Q Rel z eff fr [] a w := h
theorem wpOrdY_take {v : Value} (hi : ops[i]? = some ⟨dst, op, ty, pos, after, guard⟩) (he : eff.contains i = false) (hf : fr.contains i = false) (hw : Region.wanted ⟨dst, op, ty, pos, after, guard⟩ (yielded ops a.tmps) = true)
    (hr : ∀ W, Rel w W → (execOp a.eval ⟨dst, op, ty, pos, after, guard⟩).run P W = .ok (.value v) W) (h : wpOrdY P ops Q Rel z eff fr rest (a.put dst v) w) : wpOrdY P ops Q Rel z eff fr (i :: rest) a w :=
  ⟨_, hi, by rw [if_neg (by rw [he]; decide)]; exact ⟨v, .inl ⟨hw, fun W hW => hr W (hW.resolve_left (by rw [hf]; decide))⟩, h⟩⟩
theorem wpOrdY_free {v : Value} (hi : ops[i]? = some ⟨dst, op, ty, pos, after, guard⟩) (he : eff.contains i = false) (hw : Region.wanted ⟨dst, op, ty, pos, after, guard⟩ (yielded ops a.tmps) = true)
    (hr : ∀ W, (execOp a.eval ⟨dst, op, ty, pos, after, guard⟩).run P W = .ok (.value v) W) (h : wpOrdY P ops Q Rel z eff fr rest (a.put dst v) w) : wpOrdY P ops Q Rel z eff fr (i :: rest) a w :=
  ⟨_, hi, by rw [if_neg (by rw [he]; decide)]; exact ⟨v, .inl ⟨hw, fun W _ => hr W⟩, h⟩⟩
theorem wpOrdY_skip (hi : ops[i]? = some ⟨dst, op, ty, pos, after, guard⟩) (hw : Region.wanted ⟨dst, op, ty, pos, after, guard⟩ (yielded ops a.tmps) = false) (h : wpOrdY P ops Q Rel z eff fr rest (a.put dst undef) w) : wpOrdY P ops Q Rel z eff fr (i :: rest) a w := by
  refine ⟨_, hi, ?_⟩
  split
  · rw [if_neg (by rw [hw]; decide)]; exact h
  · exact ⟨undef, .inr ⟨hw, rfl⟩, h⟩
theorem wpOrdY_call (hi : ops[i]? = some ⟨dst, op, ty, pos, after, guard⟩) (he : eff.contains i = true) (hw : Region.wanted ⟨dst, op, ty, pos, after, guard⟩ (yielded ops a.tmps) = true)
    (h : Oper.wp P ⟨dst, op, ty, pos, after, guard⟩ a w (fun a' w' => (i = z ∨ Rel w w') ∧ wpOrdY P ops Q Rel z eff fr rest a' w') Q) : wpOrdY P ops Q Rel z eff fr (i :: rest) a w :=
  ⟨_, hi, by rw [if_pos he, if_pos hw]; exact h⟩

end

end Go.Proofs.Ytlbipmlbkcdmnaa
