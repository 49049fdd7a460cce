/-
  A map of one's own from texts to truths, as a function.
-/
import Derived.Test.YtlbipmlbkcdmnaaC
import Derived.Maps.OwnSet
import Derived.Maps.Views
namespace Go.Proofs.Ytlbipmlbkcdmnaa
open Go.RowKit Go.WideMaps Go.Maps Go.ChangeMaps Go.MapKept

/-- Block b is a map of at most n entries that says f. -/
def Dirs (w : World) (b n : Nat) (f : List UInt8 → Bool) : Prop :=
  ∃ D : DataW Unit, w.ownsMap Try.prog 9 (plainElem Try.prog 4) b n D ∧ ∀ k, D.atKey (.string k) (.lit (.bool false)) = .lit (.bool (f k))

def setD (f : List UInt8 → Bool) (k : List UInt8) (v : Bool) : List UInt8 → Bool := fun x => if x = k then v else f x

theorem keyT : Maps.Keyed Try.prog 9 := Maps.string_keyed Try.underlying9
theorem zero4 (w : World) : (zeroValue 4).run Try.prog w = .ok (.bool false) w := by kernel_rfl

theorem key_at {k : List UInt8} (hk : k.length ≤ 4000000000000) : keyOf Try.prog 9 (.string ⟨k.toArray⟩) = some (Lit.string k) := by
  have := keyOf_string_mk Try.underlying9 (s := ⟨k.toArray⟩) (by show k.length ≤ maxLen; unfold maxLen; omega)
  exact this

set_option maxRecDepth 100000 in
theorem dirs_made (w : World) : Dirs (w.alloc (.map #[] 0)) w.heap.size 0 (fun _ => false) :=
  ⟨.map [], World.ownsMap_made _ _ _ _, fun _ => rfl⟩

theorem bool_inv {P : Program} {e : TypeId} (he : P.underlying e = some .bool) {v : Value} {z : DataW Unit × List MemPlace} (h : plainElem P e v = some z) : ∃ x, v = .bool x ∧ z = (.lit (.bool x), []) := by
  unfold plainElem at h
  rw [he] at h
  split at h
  · cases h; exact ⟨_, rfl, rfl⟩
  · rename_i h1; cases h1
  · rename_i h1; cases h1
  · cases h

theorem dirs_look {w : World} {b n : Nat} {f : List UInt8 → Bool} (h : Dirs w b n f) {k : List UInt8} (hk : k.length ≤ 4000000000000) :
    (Instr.lookup 81 (.map (some b)) (.string ⟨k.toArray⟩) false).run Try.prog w = .ok (.bool (f k)) w := by
  obtain ⟨D, hD, hf⟩ := h
  obtain ⟨v, ps, hrun, hv⟩ := hD.lookup keyT Try.underlying81 (zero4 _) (plainElem_bool Try.underlying4 false) (key_at hk)
  obtain ⟨x, rfl, hx⟩ := bool_inv Try.underlying4 hv
  rw [hf] at hx
  simp at hx
  rw [hrun, hx.1]

theorem dirs_set {w : World} {b n : Nat} {f : List UInt8 → Bool} (h : Dirs w b n f) {k : List UInt8} (hk : k.length ≤ 4000000000000) (hn : n < 4000000000000) (v : Bool) :
    ∃ w', (Instr.mapUpdate 81 (.map (some b)) (.string ⟨k.toArray⟩) (.bool v)).run Try.prog w = .ok () w' ∧ Dirs w' b (n + 1) (setD f k v) ∧ w.grownBy w' (some b) := by
  obtain ⟨D, hD, hf⟩ := h
  obtain ⟨w', hrun, hown, hg⟩ := hD.update keyT Try.underlying81 (by unfold maxLen; omega) (key_at hk) (plainElem_bool Try.underlying4 v)
  refine ⟨w', hrun, ⟨_, hown, fun x => ?_⟩, hg⟩
  unfold setD
  split
  · rename_i e; subst e; exact Maps.atKey_put_same hD.isMap (by simp [WideAt.IsKeyLit]) _ _
  · rename_i e; rw [Maps.atKey_put_other (by intro h; cases h; exact e rfl), hf]

theorem Dirs.block {w w' : World} {b n : Nat} {f : List UInt8 → Bool} (h : Dirs w b n f) (hb : w'.heap[b]? = w.heap[b]?) : Dirs w' b n f := by
  obtain ⟨D, ⟨es, clock, h1, rest⟩, hf⟩ := h
  exact ⟨D, ⟨es, clock, hb.trans h1, rest⟩, hf⟩
theorem Dirs.lt {w : World} {b n : Nat} {f : List UInt8 → Bool} (h : Dirs w b n f) : b < w.heap.size := by
  obtain ⟨D, h1, _⟩ := h
  exact h1.lt

/-- A store into it, for the walk. -/
theorem wpList_dirs {w : World} {ops : Array Oper} {rest : List Oper} {o : Oper} {a : Act} {Q : Exit → Act → World → Prop} (hg : o.guard = none) (m x v : Operand) (hop : o.op = Op.mapUpdate 81 m x v ∨ o.op = Op.insert 81 m x v)
    (b n : Nat) (f : List UInt8 → Bool) (k : List UInt8) (y : Bool) (hm : a.eval m = .map (some b)) (hx : a.eval x = .string ⟨k.toArray⟩) (hv : a.eval v = .bool y) (h : Dirs w b n f) (hk : k.length ≤ 4000000000000) (hn : n < 4000000000000)
    (hK : ∀ w', Dirs w' b (n + 1) (setD f k y) → w.grownBy w' (some b) → wpList Try.prog ops Q rest (a.put o.dst undef) w') :
    wpList Try.prog ops Q (o :: rest) a w := by
  refine wpList_plain hg fun K' hK' => ?_
  obtain ⟨w', hrun, r1, r2⟩ := dirs_set h hk hn y
  unfold Oper.wp
  rcases hop with hop | hop <;> (simp [execOp, hop, hm, hx, hv, hrun, Result.andThen]; exact hK' _ _ (hK w' r1 r2))

/-- A node: its path, its kind, its bytes' slice, its link. -/
structure Nd where
  path : List UInt8
  kind : Int
  adr : Option Addr
  len : Nat
  cap : Nat
  link : List UInt8

def Nd.cells (x : Nd) : List Value := [.string ⟨x.path.toArray⟩, .int .u8 x.kind, .slice x.adr x.len x.cap, .string ⟨x.link.toArray⟩]

def formedL (x : Nd) : Bool :=
  (cleanV x.path).2 && (cleanV x.path).1 == x.path && !x.path.isEmpty && ((x.kind == 50) == !x.link.isEmpty) && (x.kind == 48 || x.len == 0 && (x.kind == 53 || x.kind == 50))

set_option maxRecDepth 100000 in
set_option maxHeartbeats 4000000 in
theorem formed_any (x : Nd) (hp : x.path.length ≤ 4000000000000) (w : World) : Calls Try.prog 56 #[.agg x.cells.toArray] w fun e w' => e = .returned (.bool (formedL x)) ∧ Below w.heap.size w w' := by
  have HC := fun w => clean_any x.path hp w
  have hf : formedL x = ((cleanV x.path).2 && (cleanV x.path).1 == x.path && !x.path.isEmpty && ((x.kind == 50) == !x.link.isEmpty) && (x.kind == 48 || x.len == 0 && (x.kind == 53 || x.kind == 50))) := rfl
  obtain ⟨p, k, A, n, c, l⟩ := x
  generalize cleanV p = cv at HC hf
  obtain ⟨cp, ok⟩ := cv
  dsimp only at HC hf hp
  rw [hf]
  clear hf
  unfold Nd.cells
  dsimp only
  have hw := heap_alloc_new w (.cells #[.string ⟨p.toArray⟩, .int .u8 k, .slice A n c, .string ⟨l.toArray⟩] 31)
  cases ok with
  | false =>
    go_enter Try.func56, Try.ntmps56
    go_wp2_with (go_at_call 66; refine (HC _).mono ?_; rintro e w1 ⟨rfl, hb⟩)
    go_ret
    exact ⟨rfl, ((Below.refl _ w).alloc (Nat.le_refl _) _).trans (hb.mono (by simp))⟩
  | true =>
    have HW : ∀ w1, Below (w.alloc (.cells #[.string ⟨p.toArray⟩, .int .u8 k, .slice A n c, .string ⟨l.toArray⟩] 31)).heap.size (w.alloc (.cells #[.string ⟨p.toArray⟩, .int .u8 k, .slice A n c, .string ⟨l.toArray⟩] 31)) w1 →
        w1.cell? ⟨w.heap.size, 0, none⟩ = some (.string ⟨p.toArray⟩) ∧ w1.cell? ⟨w.heap.size, 1, none⟩ = some (.int .u8 k) ∧ w1.cell? ⟨w.heap.size, 2, none⟩ = some (.slice A n c) ∧ w1.cell? ⟨w.heap.size, 3, none⟩ = some (.string ⟨l.toArray⟩) := by
      intro w1 hb
      have := (hb.block w.heap.size (by simp)).trans hw
      simp [World.cell?, this]
    go_enter Try.func56, Try.ntmps56
    go_wp2_with (go_at_call 66; refine (HC _).mono ?_; rintro e w1 ⟨rfl, hb⟩; obtain ⟨q0, q1, q2, q3⟩ := HW w1 hb)
    all_goals (go_ret; refine ⟨?_, ((Below.refl _ w).alloc (Nat.le_refl _) _).trans (hb.mono (by simp))⟩)
    all_goals clear HW HC
    all_goals simp_all
    have e1 : (k == 48) = false := by simpa using ‹¬k = 48›
    have e2 : (n == 0) = false := by simpa using ‹¬n = 0›
    simp [e1, e2]

end Go.Proofs.Ytlbipmlbkcdmnaa
