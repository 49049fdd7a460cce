/-
  The chapter's examples hold.
-/
import Derived.Test.YtlbipmlbkcdmnaaKWd
namespace Go.Proofs.Ytlbipmlbkcdmnaa
open Go.RowKit

def nodeS : Nd := ⟨[47], 53, none, 0, 0, []⟩

theorem right_a : rightL (setD (fun _ => false) [] true) [] [nodeA] = true := by kernel_rfl
theorem right_s : rightL (setD (fun _ => false) [] true) [] [nodeS] = false := by kernel_rfl
theorem up_ab : upL [97, 47, 98] = [97] := by kernel_rfl
theorem join_b : joinL [] [98] = [98] := by kernel_rfl

set_option maxRecDepth 100000 in
set_option maxHeartbeats 4000000 in
theorem known_any (w : World) : Calls Try.prog 17 #[] w fun e w' => e = .returned (.bool true) ∧ Below w.heap.size w w' := by
  have HU : ∀ w, Calls Try.prog 19 #[.string ⟨#[97, 47, 98]⟩] w fun e w' => e = .returned (.string ⟨#[97]⟩) ∧ w' = w := fun w => by
    have := up_any [97, 47, 98] (by decide) w
    rw [up_ab] at this
    exact this
  have HJ : ∀ w, Calls Try.prog 16 #[.string ⟨#[]⟩, .string ⟨#[98]⟩] w fun e w' => e = .returned (.string ⟨#[98]⟩) ∧ w' = w := fun w => by
    have := join_any [] [98] (by decide) (by decide) w
    rw [join_b] at this
    exact this
  go_enter Try.func17, Try.ntmps17
  go_wp2_with fail
  refine (put_a w).mono ?_
  rintro e w1 ⟨v, rfl, ho, hb1⟩
  rcases ho.2 with ⟨_, h0⟩ | ⟨g, c, cur, rfl, hbg, hg, hcap, _, _, _⟩
  · cases h0
  have hcells : ∀ j u, nodeA.cells[j]? = some u → w1.cell? ⟨g, j, none⟩ = some u := fun j u h => by
    have := ho.cells (g := g) rfl j u h
    rw [Addr.add_lit] at this
    simpa using this
  have hgl : g < w1.heap.size := (Array.getElem?_eq_some_iff.1 hg).1
  have HO := Lib.hid ho; clear ho
  have HG := Lib.hid hg; clear hg
  go_wp2_with fail
  refine (findN_a g c w1 hcells hgl).mono ?_
  rintro e w2 ⟨rfl, hb2⟩
  have hk := heap_alloc_new w2 (.cells #[.string ⟨#[97]⟩, .int .u8 53, .slice none 0 0, .string ⟨#[]⟩] 31)
  unfold nodeA Nd.cells
  dsimp only
  go_wp2_with (first | (go_at_call 19; refine (HU _).mono ?_; rintro e w' ⟨rfl, rfl⟩) | (go_at_call 16; refine (HJ _).mono ?_; rintro e w' ⟨rfl, rfl⟩))
  have hb3 : Below w1.heap.size w1 (w2.alloc (.cells #[.string ⟨#[97]⟩, .int .u8 53, .slice none 0 0, .string ⟨#[]⟩] 31)) := hb2.alloc hb2.size _
  have hN : Nodes (w2.alloc (.cells #[.string ⟨#[97]⟩, .int .u8 53, .slice none 0 0, .string ⟨#[]⟩] 31)) (some ⟨g, 0, none⟩) [nodeA] := by
    refine .inr ⟨g, 0, rfl, by have := hb3.size; omega, fun j x hj => ?_⟩
    have hj0 : j = 0 := by
      have := (List.getElem?_eq_some_iff.1 hj).1
      simpa using this
    subst hj0
    obtain rfl : nodeA = x := by simpa using hj
    exact ⟨(hb3.cell (p := ⟨g, 0, none⟩) hgl).trans (hcells 0 _ rfl), (hb3.cell (p := ⟨g, 1, none⟩) hgl).trans (hcells 1 _ rfl), (hb3.cell (p := ⟨g, 2, none⟩) hgl).trans (hcells 2 _ rfl), (hb3.cell (p := ⟨g, 3, none⟩) hgl).trans (hcells 3 _ rfl)⟩
  refine (right_any (some ⟨g, 0, none⟩) 1 c [nodeA] _ rfl hN (by simp [nodeA]) (by omega)).mono ?_
  rintro e w3 ⟨rfl, hb4⟩
  rw [right_a]
  have hw3 : Below w.heap.size w w3 := hb1.trans ((hb3.trans (hb4.mono hb3.size)).mono hb1.size)
  have hS := heap_alloc_new w3 (.cells #[.string ⟨#[47]⟩, .int .u8 53, .slice none 0 0, .string ⟨#[]⟩] 31)
  have hNS : Nodes (w3.alloc (.cells #[.string ⟨#[47]⟩, .int .u8 53, .slice none 0 0, .string ⟨#[]⟩] 31)) (some ⟨w3.heap.size, 0, none⟩) [nodeS] := by
    refine .inr ⟨w3.heap.size, 0, rfl, by simp, fun j x hj => ?_⟩
    have hj0 : j = 0 := by
      have := (List.getElem?_eq_some_iff.1 hj).1
      simpa using this
    subst hj0
    obtain rfl : nodeS = x := by simpa using hj
    unfold World.cell?
    dsimp only
    rw [hS]
    exact ⟨rfl, rfl, rfl, rfl⟩
  have hS := Lib.hid hS
  go_wp2_with fail
  refine (right_any (some ⟨w3.heap.size, 0, none⟩) 1 1 [nodeS] _ rfl hNS (by simp [nodeS]) (by omega)).mono ?_
  rintro e w4 ⟨rfl, hb5⟩
  rw [right_s]
  go_wp2_with fail
  go_ret
  exact ⟨rfl, (hw3.alloc hw3.size _).trans (hb5.mono (by have := hw3.size; simp; omega))⟩

end Go.Proofs.Ytlbipmlbkcdmnaa
