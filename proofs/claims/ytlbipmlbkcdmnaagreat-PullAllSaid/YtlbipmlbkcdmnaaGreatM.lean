
/-
  A map of one's own from texts to truths, as a function.
-/
import Derived.Test.YtlbipmlbkcdmnaaGreatC
import Derived.Maps.OwnSet
import Derived.Maps.Views
namespace Go.Proofs.YtlbipmlbkcdmnaaGreat
open Go.RowKit Go.WideMaps Go.Maps Go.ChangeMaps Go.MapKept

/-- Block b is a map of at most n entries that says f. -/
def Dirs (w : World) (b n : Nat) (f : List UInt8 → Bool) : Prop :=
  ∃ D : DataW Unit, w.ownsMap Tryz.prog 9 (plainElem Tryz.prog 4) b n D ∧ ∀ k, D.atKey (.string k) (.lit (.bool false)) = .lit (.bool (f k))

def setD (f : List UInt8 → Bool) (k : List UInt8) (v : Bool) : List UInt8 → Bool := fun x => if x = k then v else f x

theorem keyT : Maps.Keyed Tryz.prog 9 := Maps.string_keyed Tryz.underlying9
theorem zero4 (w : World) : (zeroValue 4).run Tryz.prog w = .ok (.bool false) w := by kernel_rfl

theorem key_at {k : List UInt8} (hk : k.length ≤ 4000000000000) : keyOf Tryz.prog 9 (.string ⟨k.toArray⟩) = some (Lit.string k) := by
  have := keyOf_string_mk Tryz.underlying9 (s := ⟨k.toArray⟩) (by show k.length ≤ maxLen; unfold maxLen; omega)
  exact this

set_option maxRecDepth 100000 in
theorem dirs_made (w : World) : Dirs (w.alloc (.map #[] 0)) w.heap.size 0 (fun _ => false) :=
  ⟨.map [], World.ownsMap_made _ _ _ _, fun _ => rfl⟩

theorem bool_inv {P : Program} {e : TypeId} (he : P.underlying e = some .bool) {v : Value} {z : DataW Unit × List MemPlace} (h : plainElem P e v = some z) : ∃ x, v = .bool x ∧ z = (.lit (.bool x), []) := by
  unfold plainElem at h
  rw [he] at h
  split at h
  · cases h; exact ⟨_, rfl, rfl⟩
  · rename_i h1; cases h1
  · rename_i h1; cases h1
  · cases h

theorem Dirs.block {w w' : World} {b n : Nat} {f : List UInt8 → Bool} (h : Dirs w b n f) (hb : w'.heap[b]? = w.heap[b]?) : Dirs w' b n f := by
  obtain ⟨D, ⟨es, clock, h1, rest⟩, hf⟩ := h
  exact ⟨D, ⟨es, clock, hb.trans h1, rest⟩, hf⟩
theorem Dirs.lt {w : World} {b n : Nat} {f : List UInt8 → Bool} (h : Dirs w b n f) : b < w.heap.size := by
  obtain ⟨D, h1, _⟩ := h
  exact h1.lt

/-- A node: its path, its kind, its bytes' slice, its link. -/
structure Nd where
  path : List UInt8
  kind : Int
  adr : Option Addr
  len : Nat
  cap : Nat
  link : List UInt8

def Nd.cells (x : Nd) : List Value := [.string ⟨x.path.toArray⟩, .int .u8 x.kind, .slice x.adr x.len x.cap, .string ⟨x.link.toArray⟩]

def formedL (x : Nd) : Bool :=
  (cleanV x.path).2 && (cleanV x.path).1 == x.path && !x.path.isEmpty && ((x.kind == 50) == !x.link.isEmpty) && (x.kind == 48 || x.len == 0 && (x.kind == 53 || x.kind == 50))

end Go.Proofs.YtlbipmlbkcdmnaaGreat
