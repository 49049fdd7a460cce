/-
  SameNode of any two nodes: some answer; true where they read alike.
-/
import Derived.Test.YtlbipmlbkcdmnaaLeV
namespace Go.Proofs.Ytlbipmlbkcdmnaa
open Go.RowKit Go.Shelf

set_option maxRecDepth 100000 in
set_option maxHeartbeats 4000000 in
theorem sameW_any (x y : Nd) (t s : Sn) (w : World) (hx : NdAt w x t) (hy : NdAt w y s) : Calls Try.prog 36 #[.agg x.cells.toArray, .agg y.cells.toArray] w fun e w' => (∃ b : Bool, e = .returned (.bool b) ∧ (t = s → b = true)) ∧ Below w.heap.size w w' := by
  by_cases hts : t = s
  · subst hts
    refine (same_any x y t w hx hy).mono ?_
    rintro e w' ⟨rfl, hb⟩
    exact ⟨⟨true, rfl, fun _ => rfl⟩, hb⟩
  have hb : Below w.heap.size w ((w.alloc (.cells x.cells.toArray 31)).alloc (.cells y.cells.toArray 31)) := ((Below.refl _ w).alloc (Nat.le_refl _) _).alloc (by simp) _
  have s1 := run_str (c := x.cap) (hx.2.2.2.1.below hb)
  have s2 := run_str (c := y.cap) (hy.2.2.2.1.below hb)
  obtain ⟨p, k, A, n, c, l⟩ := x
  obtain ⟨p', k', A', n', c', l'⟩ := y
  clear hx hy
  unfold Nd.cells at *
  dsimp only at *
  have HB := Lib.hid hb; clear hb
  generalize strOfNums t.data = bx at s1
  generalize strOfNums s.data = by' at s2
  by_cases hp : p = p'
  all_goals (by_cases hk : k = k')
  all_goals (by_cases hd : bx = by')
  all_goals (by_cases hl : l = l')
  all_goals (try subst hp)
  all_goals (try subst hk)
  all_goals (try subst hd)
  all_goals (try subst hl)
  all_goals go_enter Try.func36, Try.ntmps36
  all_goals go_wp2_with fail
  all_goals first | (go_ret; exact ⟨⟨_, rfl, fun h => absurd h hts⟩, HB.out⟩) | trace_state

end Go.Proofs.Ytlbipmlbkcdmnaa
