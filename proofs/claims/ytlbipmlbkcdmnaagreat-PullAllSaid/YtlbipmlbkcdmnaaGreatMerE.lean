
/-
  The chapter's examples hold.
-/
import Derived.Test.YtlbipmlbkcdmnaaGreatMerA
namespace Go.Proofs.YtlbipmlbkcdmnaaGreat
open Go.RowKit

def nodeS : Nd := ⟨[47], 53, none, 0, 0, []⟩

theorem right_a : rightL (setD (fun _ => false) [] true) [] [nodeA] = true := by kernel_rfl
theorem right_s : rightL (setD (fun _ => false) [] true) [] [nodeS] = false := by kernel_rfl
theorem up_ab : upL [97, 47, 98] = [97] := by kernel_rfl
theorem join_b : joinL [] [98] = [98] := by kernel_rfl

end Go.Proofs.YtlbipmlbkcdmnaaGreat


/-
  TreePaths: the walk.
-/
namespace Go.Proofs.YtlbipmlbkcdmnaaGreat
open Go.RowKit

def pathsHold (p q : List UInt8) : Bool :=
  q.isEmpty || (underL (joinL p q) p && decide ((upL (joinL p q)).length < (joinL p q).length) && joinL (upL (joinL p q)) ((joinL p q).drop ((upL (joinL p q)).length + min (upL (joinL p q)).length 1)) == joinL p q && decide ((joinL p q).length ≤ 1000))

theorem paths_hold : (pathsL.all fun p => decide (p.length ≤ 1000) && pathsL.all fun q => pathsHold p q) = true := by kernel_rfl

theorem path_mem (k : Int) : pathOf k ∈ pathsL := by
  have h8 : k % 8 = 0 ∨ k % 8 = 1 ∨ k % 8 = 2 ∨ k % 8 = 3 ∨ k % 8 = 4 ∨ k % 8 = 5 ∨ k % 8 = 6 ∨ k % 8 = 7 := by omega
  unfold pathOf
  rcases h8 with h | h | h | h | h | h | h | h <;> (rw [h]; decide)

end Go.Proofs.YtlbipmlbkcdmnaaGreat
