/-
  The chapter's examples hold.
-/
import Derived.Test.YtlbipmlbkcdmnaaMerA
namespace Go.Proofs.Ytlbipmlbkcdmnaa
open Go.RowKit

def nodeS : Nd := ⟨[47], 53, none, 0, 0, []⟩

theorem right_a : rightL (setD (fun _ => false) [] true) [] [nodeA] = true := by kernel_rfl
theorem right_s : rightL (setD (fun _ => false) [] true) [] [nodeS] = false := by kernel_rfl
theorem up_ab : upL [97, 47, 98] = [97] := by kernel_rfl
theorem join_b : joinL [] [98] = [98] := by kernel_rfl

set_option maxRecDepth 100000 in
set_option maxHeartbeats 4000000 in
theorem known_any (w : World) : Calls Try.prog 17 #[] w fun e w' => e = .returned (.bool true) ∧ Below w.heap.size w w' := by
  have HU : ∀ w, Calls Try.prog 19 #[.string ⟨#[97, 47, 98]⟩] w fun e w' => e = .returned (.string ⟨#[97]⟩) ∧ w' = w := fun w => by
    have := up_any [97, 47, 98] (by decide) w
    rw [up_ab] at this
    exact this
  have HJ : ∀ w, Calls Try.prog 16 #[.string ⟨#[]⟩, .string ⟨#[98]⟩] w fun e w' => e = .returned (.string ⟨#[98]⟩) ∧ w' = w := fun w => by
    have := join_any [] [98] (by decide) (by decide) w
    rw [join_b] at this
    exact this
  go_enter Try.func17, Try.ntmps17
  go_wp2_with fail
  refine (put_a w).mono ?_
  rintro e w1 ⟨v, rfl, ho, hb1⟩
  rcases ho.2 with ⟨_, h0⟩ | ⟨g, c, cur, rfl, hbg, hg, hcap, _, _, _⟩
  · cases h0
  have hcells : ∀ j u, nodeA.cells[j]? = some u → w1.cell? ⟨g, j, none⟩ = some u := fun j u h => by
    have := ho.cells (g := g) rfl j u h
    rw [Addr.add_lit] at this
    simpa using this
  have hgl : g < w1.heap.size := (Array.getElem?_eq_some_iff.1 hg).1
  have HO := Lib.hid ho; clear ho
  have HG := Lib.hid hg; clear hg
  go_wp2_with fail
  refine (findN_a g c w1 hcells hgl).mono ?_
  rintro e w2 ⟨rfl, hb2⟩
  have hk := heap_alloc_new w2 (.cells #[.string ⟨#[97]⟩, .int .u8 53, .slice none 0 0, .string ⟨#[]⟩] 31)
  unfold nodeA Nd.cells
  dsimp only
  go_wp2_with (first | (go_at_call 19; refine (HU _).mono ?_; rintro e w' ⟨rfl, rfl⟩) | (go_at_call 16; refine (HJ _).mono ?_; rintro e w' ⟨rfl, rfl⟩))
  have hb3 : Below w1.heap.size w1 (w2.alloc (.cells #[.string ⟨#[97]⟩, .int .u8 53, .slice none 0 0, .string ⟨#[]⟩] 31)) := hb2.alloc hb2.size _
  have hN : Nodes (w2.alloc (.cells #[.string ⟨#[97]⟩, .int .u8 53, .slice none 0 0, .string ⟨#[]⟩] 31)) (some ⟨g, 0, none⟩) [nodeA] := by
    refine .inr ⟨g, 0, rfl, by have := hb3.size; omega, fun j x hj => ?_⟩
    have hj0 : j = 0 := by
      have := (List.getElem?_eq_some_iff.1 hj).1
      simpa using this
    subst hj0
    obtain rfl : nodeA = x := by simpa using hj
    exact ⟨(hb3.cell (p := ⟨g, 0, none⟩) hgl).trans (hcells 0 _ rfl), (hb3.cell (p := ⟨g, 1, none⟩) hgl).trans (hcells 1 _ rfl), (hb3.cell (p := ⟨g, 2, none⟩) hgl).trans (hcells 2 _ rfl), (hb3.cell (p := ⟨g, 3, none⟩) hgl).trans (hcells 3 _ rfl)⟩
  refine (right_any (some ⟨g, 0, none⟩) 1 c [nodeA] _ rfl hN (by simp [nodeA]) (by omega)).mono ?_
  rintro e w3 ⟨rfl, hb4⟩
  rw [right_a]
  have hw3 : Below w.heap.size w w3 := hb1.trans ((hb3.trans (hb4.mono hb3.size)).mono hb1.size)
  have hS := heap_alloc_new w3 (.cells #[.string ⟨#[47]⟩, .int .u8 53, .slice none 0 0, .string ⟨#[]⟩] 31)
  have hNS : Nodes (w3.alloc (.cells #[.string ⟨#[47]⟩, .int .u8 53, .slice none 0 0, .string ⟨#[]⟩] 31)) (some ⟨w3.heap.size, 0, none⟩) [nodeS] := by
    refine .inr ⟨w3.heap.size, 0, rfl, by simp, fun j x hj => ?_⟩
    have hj0 : j = 0 := by
      have := (List.getElem?_eq_some_iff.1 hj).1
      simpa using this
    subst hj0
    obtain rfl : nodeS = x := by simpa using hj
    unfold World.cell?
    dsimp only
    rw [hS]
    exact ⟨rfl, rfl, rfl, rfl⟩
  have hS := Lib.hid hS
  go_wp2_with fail
  refine (right_any (some ⟨w3.heap.size, 0, none⟩) 1 1 [nodeS] _ rfl hNS (by simp [nodeS]) (by omega)).mono ?_
  rintro e w4 ⟨rfl, hb5⟩
  rw [right_s]
  go_wp2_with fail
  go_ret
  exact ⟨rfl, (hw3.alloc hw3.size _).trans (hb5.mono (by have := hw3.size; simp; omega))⟩

end Go.Proofs.Ytlbipmlbkcdmnaa

/-
  TreePaths: the walk.
-/
namespace Go.Proofs.Ytlbipmlbkcdmnaa
open Go.RowKit

def pathsHold (p q : List UInt8) : Bool :=
  q.isEmpty || (underL (joinL p q) p && decide ((upL (joinL p q)).length < (joinL p q).length) && joinL (upL (joinL p q)) ((joinL p q).drop ((upL (joinL p q)).length + min (upL (joinL p q)).length 1)) == joinL p q && decide ((joinL p q).length ≤ 1000))

theorem paths_hold : (pathsL.all fun p => decide (p.length ≤ 1000) && pathsL.all fun q => pathsHold p q) = true := by kernel_rfl

theorem path_mem (k : Int) : pathOf k ∈ pathsL := by
  have h8 : k % 8 = 0 ∨ k % 8 = 1 ∨ k % 8 = 2 ∨ k % 8 = 3 ∨ k % 8 = 4 ∨ k % 8 = 5 ∨ k % 8 = 6 ∨ k % 8 = 7 := by omega
  unfold pathOf
  rcases h8 with h | h | h | h | h | h | h | h <;> (rw [h]; decide)

set_option maxRecDepth 100000 in
set_option maxHeartbeats 4000000 in
theorem paths_walk (a b : Int) (ha : 0 ≤ a) (ha2 : a < 256) (hb : 0 ≤ b) (hb2 : b < 256) (w : World) : Calls Try.prog 3 #[.int .u8 a, .int .u8 b] w fun e w' => e = .returned (.bool true) ∧ Below w.heap.size w w' := by
  have hall := paths_hold
  rw [List.all_eq_true] at hall
  have h1 := hall _ (path_mem a)
  have h2 := hall _ (path_mem b)
  simp only [Bool.and_eq_true, decide_eq_true_eq, List.all_eq_true] at h1 h2
  have h3 := h1.2 _ (path_mem b)
  have hpl := h1.1
  have hql := h2.1
  have HP := fun w => path_any a w ha ha2
  have HQ := fun w => path_any b w hb hb2
  clear h1 h2 hall
  generalize pathOf a = p at HP hpl h3
  generalize pathOf b = q at HQ hql h3
  have HJ := fun w => join_any p q (by omega) (by omega) w
  by_cases hq : q = []
  · subst hq
    have : joinL p [] = p := by unfold joinL; split <;> simp_all
    rw [this] at HJ
    clear h3
    go_enter Try.func3, Try.ntmps3
    go_wp2_with fail
    refine (HP _).mono ?_
    rintro e w1 ⟨rfl, hb1⟩
    go_wp2_with fail
    refine (HQ _).mono ?_
    rintro e w2 ⟨rfl, hb2⟩
    go_wp2_with (first | (go_at_call 16; refine (HJ _).mono ?_; rintro e w' ⟨rfl, rfl⟩) | (go_at_call 17; refine (known_any _).mono ?_; rintro e w3 ⟨rfl, hb3⟩))
    go_ret
    exact ⟨rfl, hb1.trans ((hb2.trans (hb3.mono hb2.size)).mono hb1.size)⟩
  · have e1 := emp hq
    unfold pathsHold at h3
    rw [e1] at h3
    simp only [Bool.false_or, Bool.and_eq_true, decide_eq_true_eq] at h3
    obtain ⟨⟨⟨k1, k2⟩, k3⟩, k4⟩ := h3
    have k5 := eq_of_beq k3
    generalize hj : joinL p q = j at HJ k1 k2 k4 k5
    have HU := fun w => up_any j (by omega) w
    have HN := fun w => under_any j p (by omega) w
    rw [k1] at HN
    generalize hu : upL j = u at HU k2 k5
    clear k1 k3
    go_enter Try.func3, Try.ntmps3
    go_wp2_with fail
    refine (HP _).mono ?_
    rintro e w1 ⟨rfl, hb1⟩
    go_wp2_with fail
    refine (HQ _).mono ?_
    rintro e w2 ⟨rfl, hb2⟩
    go_wp2_with (first | (go_at_call 16; refine (HJ _).mono ?_; clear HJ; rintro e w' ⟨rfl, rfl⟩) | (go_at_call 17; refine (known_any _).mono ?_; rintro e w3 ⟨rfl, hb3⟩) | (go_at_call 18; refine (HN _).mono ?_; rintro e w' ⟨rfl, rfl⟩) | (go_at_call 19; refine (HU _).mono ?_; rintro e w' ⟨rfl, rfl⟩))
    have hcut : (ByteArray.mk j.toArray).extract ((u.length : Int) + min (u.length : Int) 1).toNat j.length = ⟨(j.drop (u.length + min u.length 1)).toArray⟩ := by
      rw [cut_mk, show ((u.length : Int) + min (u.length : Int) 1).toNat = u.length + min u.length 1 by omega, List.take_of_length_le (by simp)]
    rw [hcut]
    refine (join_any u _ (by omega) (by simp; omega) _).mono ?_
    rintro e w4 ⟨rfl, rfl⟩
    rw [k5]
    go_wp2_with fail
    go_ret
    exact ⟨rfl, hb1.trans ((hb2.trans (hb3.mono hb2.size)).mono hb1.size)⟩

end Go.Proofs.Ytlbipmlbkcdmnaa
