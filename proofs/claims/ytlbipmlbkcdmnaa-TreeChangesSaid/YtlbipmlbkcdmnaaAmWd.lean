/-
  Slices of nodes by what they read as: the contracts, once more, in that form.
-/
import Derived.Test.YtlbipmlbkcdmnaaAjWd
namespace Go.Proofs.Ytlbipmlbkcdmnaa
open Go.RowKit Go.Shelf

/-- A slice of nodes that reads as ss. -/
def RowOf (w : World) (v : Value) (ss : List Sn) : Prop :=
  ∃ (A : Option Addr) (c : Nat) (ms : List Nd), v = .slice A ss.length c ∧ Nodes w A ms ∧ Like w ms ss ∧ (A = none → ss.length = 0)

theorem RowOf.below {w w' : World} {v : Value} {ss : List Sn} (h : RowOf w v ss) (hb : Below w.heap.size w w') : RowOf w' v ss := by
  obtain ⟨A, c, ms, rfl, h1, h2, h3⟩ := h
  exact ⟨A, c, ms, rfl, h1.below hb, h2.below hb, h3⟩

theorem row_of_own {w : World} {B : Nat} {v : Value} {m : Nat} {ms : List Nd} {ss : List Sn} (ho : w.ownsRow B 31 4 v m (cellsOf ms)) (hL : Like w ms ss) : RowOf w v ss := by
  obtain ⟨A, c, rfl⟩ := own_form ho
  obtain ⟨hm, hN⟩ := own_nodes ho
  have hl : m = ss.length := hm.trans hL.1
  subst hl
  exact ⟨A, c, ms, rfl, hN, hL, own_none ho⟩

def Short (ss : List Sn) : Prop := ss.length ≤ 2199023255489 ∧ ∀ s ∈ ss, s.path.length ≤ 140737488355328

theorem tree_row {w : World} {A : Option Addr} {n c : Nat} {bs : List Int} (h : Rd w .u8 A n bs) (hr : ∀ x ∈ bs, 0 ≤ x ∧ x < 256) (hn : n ≤ 9223372036854775807) :
    Calls Try.prog 24 #[.slice A n c] w fun e w' => ∃ v, e = .returned v ∧ RowOf w' v (treeL bs) ∧ Below w.heap.size w w' :=
  (tree_any h hr hn).mono (by
    rintro e w' ⟨v, m, ns, rfl, ho, hL, hb⟩
    exact ⟨v, rfl, row_of_own ho hL, hb⟩)

theorem put_row {w : World} {v : Value} {ss : List Sn} (h : RowOf w v ss) (x : Nd) (s : Sn) (hx : NdAt w x s) (hs : Short ss) :
    Calls Try.prog 26 #[v, .agg x.cells.toArray] w fun e w' => ∃ v', e = .returned v' ∧ RowOf w' v' (putG Sn.path s ss) ∧ Below w.heap.size w w' := by
  obtain ⟨A, c, ms, rfl, h1, h2, h3⟩ := h
  refine (put_any x s h1 h2 hx h2.1.symm hs.1 h3).mono ?_
  rintro e w' ⟨v, m, ms', rfl, ho, hL, hb⟩
  exact ⟨v, rfl, row_of_own ho hL.like, hb⟩

theorem refPut_row {w : World} {v : Value} {ss : List Sn} (h : RowOf w v ss) (x : Nd) (s : Sn) (hx : NdAt w x s) (hs : Short ss) :
    Calls Try.prog 27 #[v, .agg x.cells.toArray] w fun e w' => ∃ v', e = .returned v' ∧ RowOf w' v' (putG Sn.path s ss) ∧ Below w.heap.size w w' := by
  obtain ⟨A, c, ms, rfl, h1, h2, h3⟩ := h
  refine (refPut_any x h1 h2.1.symm (by have := hs.1; omega)).mono ?_
  rintro e w' ⟨v, m, rfl, ho, hb⟩
  exact ⟨v, rfl, row_of_own ho (like_put (hx.below hb) (h2.below hb)), hb⟩

theorem remove_row {w : World} {v : Value} {ss : List Sn} (h : RowOf w v ss) (p : List UInt8) (hp : p.length ≤ 140737488355328) (hs : Short ss) :
    Calls Try.prog 28 #[v, .string ⟨p.toArray⟩] w fun e w' => ∃ v', e = .returned v' ∧ RowOf w' v' (goneL p ss) ∧ Below w.heap.size w w' := by
  obtain ⟨A, c, ms, rfl, h1, h2, h3⟩ := h
  refine (remove_any p hp h1 h2 h2.1.symm (by have := hs.1; omega) h3).mono ?_
  rintro e w' ⟨v, m, ms', rfl, ho, hL, hb⟩
  exact ⟨v, rfl, row_of_own ho hL.like, hb⟩

theorem gone_under (p : List UInt8) (ss : List Sn) : goneL p ss = ss.filter fun x => !(x.path == p || underL x.path p) := by
  unfold goneL
  congr 1
  funext x
  rw [below_under]

theorem refRemove_row {w : World} {v : Value} {ss : List Sn} (h : RowOf w v ss) (p : List UInt8) (hp : p.length ≤ 140737488355328) (hs : Short ss) :
    Calls Try.prog 29 #[v, .string ⟨p.toArray⟩] w fun e w' => ∃ v', e = .returned v' ∧ RowOf w' v' (goneL p ss) ∧ Below w.heap.size w w' := by
  obtain ⟨A, c, ms, rfl, h1, h2, h3⟩ := h
  refine (refRemove_any p hp h1 (like_paths h2 hs.2) h2.1.symm (by have := hs.1; omega)).mono ?_
  rintro e w' ⟨v, m, rfl, ho, hb⟩
  rw [gone_under]
  exact ⟨v, rfl, row_of_own ho (like_remove (h2.below hb) p), hb⟩

def belowS (p : List UInt8) (ss : List Sn) : List Sn := ss.filter fun t => belowL t.path p

theorem below_row {w : World} {v : Value} {ss : List Sn} (h : RowOf w v ss) (p : List UInt8) (hp : p.length ≤ 140737488355328) (hs : Short ss) :
    Calls Try.prog 34 #[v, .string ⟨p.toArray⟩] w fun e w' => ∃ v', e = .returned v' ∧ RowOf w' v' (belowS p ss) ∧ Below w.heap.size w w' := by
  obtain ⟨A, c, ms, rfl, h1, h2, h3⟩ := h
  refine (below_any p hp h1 h2 h2.1.symm (by have := hs.1; omega) h3).mono ?_
  rintro e w' ⟨v, m, ms', rfl, ho, hL, hb⟩
  exact ⟨v, rfl, row_of_own ho hL.like, hb⟩

theorem refBelow_row {w : World} {v : Value} {ss : List Sn} (h : RowOf w v ss) (p : List UInt8) (hp : p.length ≤ 140737488355328) (hs : Short ss) :
    Calls Try.prog 45 #[v, .string ⟨p.toArray⟩] w fun e w' => ∃ v', e = .returned v' ∧ RowOf w' v' (belowS p ss) ∧ Below w.heap.size w w' := by
  obtain ⟨A, c, ms, rfl, h1, h2, h3⟩ := h
  refine (refBelow_any p hp h1 (like_paths h2 hs.2) h2.1.symm (by have := hs.1; omega)).mono ?_
  rintro e w' ⟨v, m, rfl, ho, hb⟩
  have e1 : belowS p ss = ss.filter fun x => underL x.path p := by
    unfold belowS
    congr 1
    funext x
    rw [below_under]
  rw [e1]
  exact ⟨v, rfl, row_of_own ho (like_below (h2.below hb) p), hb⟩

theorem same_row {w : World} {v v' : Value} {ss : List Sn} (h : RowOf w v ss) (h' : RowOf w v' ss) (hs : ss.length ≤ 2199023255500) :
    Calls Try.prog 25 #[v, v'] w fun e w' => e = .returned (.bool true) ∧ Below w.heap.size w w' := by
  obtain ⟨A, c, ms, rfl, h1, h2, h3⟩ := h
  obtain ⟨A', c', ms', rfl, h1', h2', h3'⟩ := h'
  exact sameAll_any h1 h2 h2.1.symm h1' h2' hs

theorem find_row {w : World} {v : Value} {ss : List Sn} (h : RowOf w v ss) (p : List UInt8) (hs : Short ss) :
    Calls Try.prog 35 #[v, .string ⟨p.toArray⟩] w fun e w' => ∃ y : Nd, e = .returned (.tuple #[.agg y.cells.toArray, .bool (findL ss p).2]) ∧ NdAt w' y (findL ss p).1 ∧ Below w.heap.size w w' := by
  obtain ⟨A, c, ms, rfl, h1, h2, h3⟩ := h
  refine (find_any p h1 h2 h2.1.symm (by have := hs.1; omega)).mono ?_
  rintro e w' ⟨y, rfl, hy, hb⟩
  exact ⟨y, rfl, hy.at, hb⟩

theorem refFind_row {w : World} {v : Value} {ss : List Sn} (h : RowOf w v ss) (p : List UInt8) (hs : Short ss) :
    Calls Try.prog 32 #[v, .string ⟨p.toArray⟩] w fun e w' => ∃ y : Nd, e = .returned (.tuple #[.agg y.cells.toArray, .bool (findL ss p).2]) ∧ NdAt w' y (findL ss p).1 ∧ Below w.heap.size w w' := by
  obtain ⟨A, c, ms, rfl, h1, h2, h3⟩ := h
  exact refFind_any p h1 h2 h2.1.symm (by have := hs.1; omega)

theorem Short.put {ss : List Sn} (h : ss.length ≤ 2199023255488 ∧ ∀ s ∈ ss, s.path.length ≤ 140737488355328) {x : Sn} (hx : x.path.length ≤ 140737488355328) : Short (putG Sn.path x ss) :=
  ⟨by have := putG_len Sn.path x ss; omega, putG_bound hx h.2⟩
theorem Short.gone {ss : List Sn} (h : Short ss) (p : List UInt8) : Short (goneL p ss) :=
  ⟨Nat.le_trans (List.length_filter_le _ _) h.1, fun s hs => h.2 s (List.mem_filter.1 hs).1⟩
theorem Short.belows {ss : List Sn} (h : Short ss) (p : List UInt8) : Short (belowS p ss) :=
  ⟨Nat.le_trans (List.length_filter_le _ _) h.1, fun s hs => h.2 s (List.mem_filter.1 hs).1⟩
theorem Short.tree (bs : List Int) : Short (treeL bs) := ⟨by have := tree_len bs; omega, fun s hs => by have := tree_short bs s hs; omega⟩

end Go.Proofs.Ytlbipmlbkcdmnaa
