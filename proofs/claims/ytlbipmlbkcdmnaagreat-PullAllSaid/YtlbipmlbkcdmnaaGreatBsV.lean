
/-
  Rows of members: one more; bounds of trees of members.
-/
import Derived.Test.YtlbipmlbkcdmnaaGreatBrV
import Derived.Test.YtlbipmlbkcdmnaaGreatMerP
namespace Go.Proofs.YtlbipmlbkcdmnaaGreat
open Go.RowKit Go.Shelf

theorem MemT.grown {w w' : World} {m : Mem} {pv dv v : Value} {B n : Nat} {xs : List Value} (h : MemT w m pv dv) (ho : w.ownsRow B 32 18 v n xs) (hg : w.grownBy w' v.ownBlock) : MemT w' m pv dv := by
  refine h.keeps fun g cs T hh hT => (hg.block g (Array.getElem?_eq_some_iff.1 hh).1 ?_).trans hh
  rcases ho.2 with ⟨rfl, _⟩ | ⟨g', cap, cur, rfl, _, hg', _⟩
  · simp [Value.ownBlock]
  · intro e
    simp only [Value.ownBlock, Option.some.injEq] at e
    subst e
    rw [hh] at hg'
    injection hg' with hg'
    injection hg' with _ h2 _
    exact hT h2

theorem slice48 (m : Mem) (A A' : Option Addr) (n c n' c' : Nat) (w : World) : (Instr.buildSlice 24 1 #[(0, .agg (memCells m (.slice A n c) (.slice A' n' c')).toArray)]).run Tryz.prog w =
    .ok (.slice (some ⟨w.heap.size, 0, none⟩) 1 1) (w.alloc (.cells (memCells m (.slice A n c) (.slice A' n' c')).toArray 32)) := by
  obtain ⟨i0, hi, hz0, hz1, hz2⟩ := info_parts Tryz.info32
  refine run_buildSlice w 24 32 1 _ _ i0 _ Tryz.underlying24 hi hz0 (by rw [hz1]; decide) (by rw [hz1]; decide) ?_
  rw [hz1]
  kernel_rfl

theorem tree_fits (o : Opt) : ∀ (ms : List Mem) (k : Nat) (ss : List Sn), FitsN k ss → (∀ m ∈ ms, FitsE o m) → FitsN (k + ms.length) (treeV o ss ms)
  | [], k, ss, h, _ => h
  | m :: r, k, ss, h, hf => by
    unfold treeV
    rw [List.foldl_cons, List.length_cons, show k + (r.length + 1) = (k + 1) + r.length by omega]
    exact tree_fits o r (k + 1) _ (h.one (hf m (by simp))) (fun x hx => hf x (List.mem_cons_of_mem _ hx))

end Go.Proofs.YtlbipmlbkcdmnaaGreat
