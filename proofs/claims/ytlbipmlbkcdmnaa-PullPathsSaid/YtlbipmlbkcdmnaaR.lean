/-
  A range over an iterator that keeps what it has still to give in a cell of its own.
-/
import Derived.RangeFuncNested
import Derived.RangeFuncBound
import Derived.RangeFuncCalls
import Derived.RangeFuncLeaves
import Derived.Shelf.Abstract
import Derived.Shelf.RegionOpen
import Derived.WalkKit
import Derived.OwnWalkIn
import Derived.TacticsInMore
import Derived.LoopNIn
import Derived.LoopIn
namespace Go.Proofs.Ytlbipmlbkcdmnaa
open Go.RowKit Go.Shelf

/-- All but the blocks of S lies as it lay. -/
structure Out (S : Nat → Prop) (W W' : World) : Prop where
  os : W'.os = W.os
  tape : W'.tape = W.tape
  output : W'.output = W.output
  size : W.heap.size ≤ W'.heap.size
  block : ∀ k, k < W.heap.size → ¬ S k → W'.heap[k]? = W.heap[k]?

theorem Out.put (W : World) (l : Nat) (o : Obj) : Out (· = l) W (W.putObj l o) :=
  ⟨rfl, rfl, rfl, by simp [World.putObj], fun _ _ hk => World.putObj_heap_other hk⟩
theorem Out.new (W : World) (o : Obj) : Out (fun _ => False) W (W.alloc o) :=
  ⟨rfl, rfl, rfl, by simp, fun k hk _ => Below.heap_alloc W o k hk⟩
theorem Out.wider {S T : Nat → Prop} {W W' : World} (h : Out S W W') (hs : ∀ k, S k → T k) : Out T W W' :=
  ⟨h.os, h.tape, h.output, h.size, fun k hk hn => h.block k hk fun e => hn (hs k e)⟩
theorem Out.below {S : Nat → Prop} {W W' : World} {B : Nat} (h : Out S W W') (hs : ∀ k, S k → B ≤ k) (hB : B ≤ W.heap.size) : Below B W W' :=
  ⟨h.os, h.tape, h.output, h.size, fun k hk => h.block k (by omega) fun e => by have := hs k e; omega⟩

/-- What a round's walk has to pay: the three blocks of the loop lie as they lay; what holds where it goes on, or leaves. -/
def roundSays {α : Type} (c d : Nat) (I : List α → World → Prop) (Ix : Code → List α → World → Prop) (xs : List α) (W : World) : Exit → Act → World → Prop
  | .normal, _, W' => (W'.heap[c]? = W.heap[c]? ∧ W'.heap[d]? = W.heap[d]? ∧ W'.heap[d + 1]? = W.heap[d + 1]?) ∧ I xs W'
  | .ret, _, W' => (W'.heap[d]? = W.heap[d]? ∧ W'.heap[d + 1]? = W.heap[d + 1]?) ∧ Ix .ret xs W'
  | .exit id, _, W' => (W'.heap[d]? = W.heap[d]? ∧ W'.heap[d + 1]? = W.heap[d + 1]?) ∧ Ix (.exit id) xs W'
  | .goto t, _, W' => (W'.heap[d]? = W.heap[d]? ∧ W'.heap[d + 1]? = W.heap[d + 1]?) ∧ Ix (.goto t) xs W'
  | .panic _, _, _ => False
  | .outgrown, _, _ => False

variable {F : Fence} {n : Nat} {P : Program}

/-- The rounds, as the iterator meets them. -/
def Rounds {α : Type} (F : Fence) (m : Nat) (P : Program) (l c : Nat) (encs : α → Array Value) (Sp : List α → Prop) (J Jx : List α → World → Prop) : Prop :=
  ∀ pre x W, Sp (pre ++ [x]) → J pre W → YieldAt F m P l (encs x) W fun e W' =>
    (e = .returned (.bool true) ∧ J (pre ++ [x]) W' ∧ W'.heap[c]? = W.heap[c]?) ∨ (e = .returned (.bool false) ∧ Jx (pre ++ [x]) W')

/-- What the iterator answers, whatever the rounds do: S: all has come; Sp: a round has left. -/
def Gives {α : Type} (F : Fence) (m : Nat) (P : Program) (gf : Nat) (lb : Array Value) (c : Nat) (o : Option Obj) (encs : α → Array Value) (S Sp : List α → Prop) : Prop :=
  ∀ (l : Nat) (J Jx : List α → World → Prop) (W : World), (∀ s A B, J s A → Out (· = c) A B → J s B) → (∀ s A B, Jx s A → Out (· = c) A B → Jx s B) →
    Rounds F (m - 1) P l c encs Sp J Jx → J [] W → W.heap[c]? = o →
    CallsIn F m P gf (#[.func (.yield l) #[] #[]] ++ lb) W fun e W' => (∃ v, e = .returned v) ∧ ((∃ xs, S xs ∧ J xs W') ∨ (∃ pre, Sp pre ∧ Jx pre W'))

theorem range_cell {α : Type} {g : Operand} {ps : Array Tmp} {assign body : Code} {Q : Exit → Act → World → Prop} {a : Act} {w : World} (hro : F.round = none) (h1 : 1 ≤ n)
    {gf : Nat} {lb : Array Value} (hg : a.eval g = .func (.func gf) #[] lb) (hFg : F.fn gf) (eg : ∀ args w, (callFunc gf args).run P w = .ok (.enter gf args) w)
    {encs : α → Array Value} (hps : ∀ x, (encs x).size = ps.size) {c : Nat} (hc : c < w.heap.size) {S Sp : List α → Prop} (hseq : Gives F (n - 1) P gf lb c w.heap[c]? encs S Sp)
    (I : List α → World → Prop) (Ix : Code → List α → World → Prop)
    (hI : ∀ s A B, I s A → Out (fun k => k = c ∨ k = w.heap.size ∨ k = w.heap.size + 1) A B → I s B)
    (hIx : ∀ j s A B, Ix j s A → Out (fun k => k = c ∨ k = w.heap.size ∨ k = w.heap.size + 1) A B → Ix j s B) (h0 : I [] w) (a₁ : α → Act)
    (hassign : ∀ (l : Nat) (x : α) (W : World) (K : Act → World → Prop), K (a₁ x) W →
      assign.wpIn (F.inRound l) (n - 1 - 1) P (Exit.then K (fun _ _ _ => False)) { tmps := (ps.zip (encs x)).foldl (fun t (p, v) => t.setIfInBounds p v) a.tmps, defers := [] } W)
    (hbody : ∀ (l : Nat) (pre : List α) (x : α) (W : World), Sp (pre ++ [x]) → w.heap.size + 2 ≤ W.heap.size → I pre W → body.wpIn (F.inRound l) (n - 1 - 1) P (roundSays c w.heap.size I Ix (pre ++ [x]) W) (a₁ x) W)
    (hdone : ∀ (xs : List α) (W : World), S xs → I xs W → W.heap[w.heap.size]? = some (.deferred (some [])) → Q .normal { a with defers := { target := .collected w.heap.size, args := #[] } :: a.defers } W)
    (hstop : ∀ (j : Code) (pre : List α) (W : World), Sp pre → Ix j pre W → W.heap[w.heap.size]? = some (.deferred (some [])) → j.wpIn F n P Q { a with defers := { target := .collected w.heap.size, args := #[] } :: a.defers } W) :
    (Code.rangeFunc g ps assign body).wpIn F n P Q a w := by
  refine wpIn_rangeFunc fun fn hfn => ?_
  rw [hro]
  obtain ⟨rec, hrec⟩ : ∃ rec : LoopState → Option Code → Loop, rec = fun st pe => { state := st, pending := pe, fn, tmps := a.tmps, params := ps, assign, body, defers := w.heap.size } := ⟨_, rfl⟩
  obtain ⟨d, hd⟩ : ∃ d, w.heap.size = d := ⟨_, rfl⟩
  obtain ⟨W1, hW1⟩ : ∃ W1, (w.alloc (.deferred (some []))).alloc (.loop (rec .ready none)) = W1 := ⟨_, rfl⟩
  have hO : Out (fun k => k = c ∨ k = w.heap.size ∨ k = w.heap.size + 1) w W1 := by
    rw [← hW1]
    exact ⟨rfl, rfl, rfl, by simp; omega, fun k hk _ => by rw [Below.heap_alloc _ _ _ (by simp; omega), Below.heap_alloc _ _ _ hk]⟩
  have hL : W1.heap[d + 1]? = some (.loop (rec .ready none)) := by
    have := World.alloc_heap_new (w.alloc (.deferred (some []))) (.loop (rec .ready none))
    rwa [World.size_alloc, hd, hW1] at this
  have hD : W1.heap[d]? = some (.deferred (some [])) := by
    have := World.alloc_heap_new w (.deferred (some []))
    rw [hd] at this
    rw [← hW1, Below.heap_alloc _ _ _ (by simp; omega), this]
  have hC : W1.heap[c]? = w.heap[c]? := by
    rw [← hW1, Below.heap_alloc _ _ _ (by simp; omega), Below.heap_alloc _ _ _ hc]
  refine ⟨d + 1, [{ target := .collected d, args := #[] }], W1, { target := .fn (.func gf) lb, args := #[.func (.yield (d + 1)) #[] #[]] }, W1, gf,
    #[.func (.yield (d + 1)) #[] #[]] ++ lb, W1, ?_, ?_, ?_, ?_, fun _ => h1, ?_⟩
  · rw [← hW1, ← hd, hrec]; exact run_enterLoop_outer _ _ _ _ _
  · simp only [resolve, hg]
    simp [go_sem]
  · intro f' hf'; simp [Target.leads] at hf'; subst hf'; exact hFg
  · simp [invoke, go_sem, eg]
  have far : ∀ {A B : World} {o : Option Obj} {k : Nat}, Out (· = c) A B → k ≠ c → k < A.heap.size → A.heap[k]? = o → B.heap[k]? = o := fun h hk hl e => (h.block _ hl hk).trans e
  have lt : ∀ {A : World} {o : Obj} {k : Nat}, A.heap[k]? = some o → k < A.heap.size := fun h => (Array.getElem?_eq_some_iff.1 h).1
  have wide : ∀ {A B : World}, Out (· = c) A B → Out (fun k => k = c ∨ k = w.heap.size ∨ k = w.heap.size + 1) A B := fun h => h.wider fun _ e => .inl e
  have turn : ∀ (A : World) (o : Obj), Out (fun k => k = c ∨ k = w.heap.size ∨ k = w.heap.size + 1) A (A.putObj (d + 1) o) := fun A o => (Out.put A (d + 1) o).wider fun _ e => .inr (.inr (by omega))
  refine (hseq (d + 1) (fun pre W => I pre W ∧ W.heap[d + 1]? = some (.loop (rec .ready none)) ∧ W.heap[d]? = some (.deferred (some [])))
    (fun pre W => ∃ j, Ix j pre W ∧ W.heap[d + 1]? = some (.loop (rec .done (some j))) ∧ W.heap[d]? = some (.deferred (some []))) W1 ?_ ?_ ?_ ⟨hI _ _ _ h0 hO, hL, hD⟩ hC).mono ?_
  · rintro s A B ⟨h, k1, k2⟩ ho
    exact ⟨hI _ _ _ h (wide ho), far ho (by omega) (lt k1) k1, far ho (by omega) (lt k2) k2⟩
  · rintro s A B ⟨j, h, k1, k2⟩ ho
    exact ⟨j, hIx _ _ _ _ h (wide ho), far ho (by omega) (lt k1) k1, far ho (by omega) (lt k2) k2⟩
  · rintro pre x W hsp ⟨hi, kl, kd⟩
    have hy := run_yield (P := P) (args := encs x) kl (by rw [hrec]; exact hps x)
    rw [hrec] at hy
    refine ⟨fn, _, assign, body, hy, roundIn_of_wpIn hfn (hassign _ x W _ ⟨_, run_beginRound kl (by rw [hrec]), ?_⟩)⟩
    obtain ⟨W2, hW2⟩ : ∃ W2, W.putObj (d + 1) (.loop { rec .ready none with state := .busy }) = W2 := ⟨_, rfl⟩
    have kl2 : W2.heap[d + 1]? = some (.loop { rec .ready none with state := .busy }) := by rw [← hW2]; exact World.putObj_heap_same (lt kl)
    have kd2 : W2.heap[d]? = some (.deferred (some [])) := by rw [← hW2]; exact (World.putObj_heap_other (by omega)).trans kd
    have kc2 : W2.heap[c]? = W.heap[c]? := by rw [← hW2]; exact World.putObj_heap_other (by omega)
    have hi2 : I pre W2 := by rw [← hW2]; exact hI _ _ _ hi (turn _ _)
    rw [hW2]
    refine wpIn_mono (hbody _ pre x W2 hsp (by have := lt kl2; omega) hi2) ?_
    have fin : ∀ (jump : Option Code) (W3 : World), W3.heap[w.heap.size]? = W2.heap[w.heap.size]? → W3.heap[w.heap.size + 1]? = W2.heap[w.heap.size + 1]? →
        (Instr.endRound (d + 1) jump).run P W3 = .ok (.bool jump.isNone) (W3.putObj (d + 1) (.loop (rec (if jump.isNone then .ready else .done) jump))) ∧
        (W3.putObj (d + 1) (.loop (rec (if jump.isNone then .ready else .done) jump))).heap[d + 1]? = some (.loop (rec (if jump.isNone then .ready else .done) jump)) ∧
        (W3.putObj (d + 1) (.loop (rec (if jump.isNone then .ready else .done) jump))).heap[d]? = some (.deferred (some [])) := by
      intro jump W3 e1 e2
      rw [hd] at e1 e2
      have h3 := e2.trans kl2
      have hr := run_endRound (P := P) jump h3
      refine ⟨?_, World.putObj_heap_same (lt h3), (World.putObj_heap_other (by omega)).trans (e1.trans kd2)⟩
      rw [hrec] at hr ⊢
      exact hr
    rintro e a3 W3 hp
    cases e with
    | normal =>
      obtain ⟨⟨k1, k2, k3⟩, hi3⟩ := hp
      obtain ⟨r1, r2, r3⟩ := fin none W3 k2 k3
      exact ⟨_, _, r1, .inl ⟨rfl, ⟨hI _ _ _ hi3 (turn _ _), r2, r3⟩, (World.putObj_heap_other (by omega)).trans (k1.trans kc2)⟩⟩
    | ret =>
      obtain ⟨⟨k2, k3⟩, hi3⟩ := hp
      obtain ⟨r1, r2, r3⟩ := fin (some .ret) W3 k2 k3
      exact ⟨_, _, r1, .inr ⟨rfl, .ret, hIx _ _ _ _ hi3 (turn _ _), r2, r3⟩⟩
    | exit id =>
      obtain ⟨⟨k2, k3⟩, hi3⟩ := hp
      obtain ⟨r1, r2, r3⟩ := fin (some (.exit id)) W3 k2 k3
      exact ⟨_, _, r1, .inr ⟨rfl, .exit id, hIx _ _ _ _ hi3 (turn _ _), r2, r3⟩⟩
    | goto t =>
      obtain ⟨⟨k2, k3⟩, hi3⟩ := hp
      obtain ⟨r1, r2, r3⟩ := fin (some (.goto t)) W3 k2 k3
      exact ⟨_, _, r1, .inr ⟨rfl, .goto t, hIx _ _ _ _ hi3 (turn _ _), r2, r3⟩⟩
    | panic ch => exact hp.elim
    | outgrown => exact hp.elim
  · rintro e W2 ⟨⟨v, rfl⟩, (⟨xs, hS, hi, kl, kd⟩ | ⟨pre, hSp, j, hi, kl, kd⟩)⟩
    · have r := run_endLoop (P := P) kl (by rw [hrec]; simp)
      rw [hrec] at r
      have h := hdone xs (W2.putObj (d + 1) (.loop { rec .ready none with state := .exhausted })) hS (hI _ _ _ hi (turn _ _)) (by rw [hd]; exact (World.putObj_heap_other (by omega)).trans kd)
      rw [hd, hrec] at h
      exact ⟨none, _, r, h⟩
    · have r := run_endLoop (P := P) kl (by rw [hrec]; simp)
      rw [hrec] at r
      have h := hstop j pre (W2.putObj (d + 1) (.loop { rec .done (some j) with state := .exhausted })) hSp (hIx _ _ _ _ hi (turn _ _)) (by rw [hd]; exact (World.putObj_heap_other (by omega)).trans kd)
      rw [hd, hrec] at h
      exact ⟨some j, _, r, h⟩

end Go.Proofs.Ytlbipmlbkcdmnaa
