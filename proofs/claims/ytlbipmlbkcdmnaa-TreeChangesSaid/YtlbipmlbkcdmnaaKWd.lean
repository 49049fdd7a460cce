/-
  The chapter's examples.
-/
import Derived.Test.YtlbipmlbkcdmnaaTWd
namespace Go.Proofs.Ytlbipmlbkcdmnaa
open Go.RowKit

theorem Try.info31 : (Try.prog.info? 31).map (fun i => (i.zero, i.size, i.bytes)) = some (some (.agg #[.string ⟨#[]⟩, .int .u8 0, .slice none 0 0, .string ⟨#[]⟩]), 4, 64) := by kernel_rfl

set_option maxRecDepth 100000 in
set_option maxHeartbeats 400000 in
theorem clone_nil (w : World) : Calls Try.prog 46 #[.slice none 0 0] w fun e w' => e = .returned (.slice none 0 0) ∧ w' = w := by
  have hrun := fun W : World => Lib.run_eql_slice_nil (P := Try.prog) W 29 5 none 0 0 0 0 Try.underlying29
  go_enter Try.func46, Try.ntmps46
  go_wp2_with fail
  go_ret
  exact ⟨rfl, rfl⟩

set_option maxRecDepth 100000 in
set_option maxHeartbeats 400000 in
theorem cloneN_nil (w : World) : Calls Try.prog 69 #[.slice none 0 0] w fun e w' => e = .returned (.slice none 0 0) ∧ w' = w := by
  have hrun := fun W : World => Lib.run_eql_slice_nil (P := Try.prog) W 28 31 none 0 0 0 0 Try.underlying28
  go_enter Try.func69, Try.ntmps69
  go_wp2_with fail
  go_ret
  exact ⟨rfl, rfl⟩

set_option maxRecDepth 100000 in
set_option maxHeartbeats 1000000 in
theorem copied_nil (w : World) : Calls Try.prog 48 #[.slice none 0 0] w fun e w' => e = .returned (.slice none 0 0) ∧ w' = w := by
  go_enter Try.func48, Try.ntmps48
  go_wp2_with (go_at_call 69; refine (cloneN_nil _).mono ?_; rintro e w' ⟨rfl, rfl⟩)
  refine wp_loop_rounds 1 ?_
  rw [rounds_succ]
  go_wp2_with fail
  go_ret
  exact ⟨rfl, rfl⟩

set_option maxRecDepth 100000 in
set_option maxHeartbeats 1000000 in
theorem index_nil (v : Value) (w : World) : Calls Try.prog 50 #[.slice none 0 0, v] w fun e w' => e = .returned (.int .i64 (-1)) ∧ w' = w := by
  go_enter Try.func50, Try.ntmps50
  go_wp2_with fail
  refine wp_loop_rounds 1 ?_
  rw [rounds_succ]
  go_wp2_with fail
  go_ret
  exact ⟨rfl, rfl⟩

set_option maxRecDepth 100000 in
set_option maxHeartbeats 1000000 in
theorem delete_nil (g : Nat) (lb : Array Value) (w : World) : Calls Try.prog 47 #[.slice none 0 0, .func (.func g) #[] lb] w fun e w' => e = .returned (.slice none 0 0) ∧ w' = w := by
  go_enter Try.func47, Try.ntmps47
  go_wp2_with (go_at_call 50; refine (index_nil _ _).mono ?_; rintro e w' ⟨rfl, rfl⟩)
  go_ret
  exact ⟨rfl, rfl⟩

set_option maxRecDepth 100000 in
set_option maxHeartbeats 4000000 in
theorem insert_nil (x : Nd) (b c : Nat) (w : World) (hx : ∀ j u, x.cells[j]? = some u → w.cell? ((⟨b, 0, none⟩ : Addr).add j) = some u) :
    Calls Try.prog 52 #[.slice none 0 0, .int .i64 0, .slice (some ⟨b, 0, none⟩) 1 c] w fun e w' => ∃ v, e = .returned v ∧ w'.ownsRow w.heap.size 31 4 v 1 x.cells ∧ Below w.heap.size w w' := by
  obtain ⟨i0, hi, hz0, hz1, hz2⟩ := info_parts Try.info31
  have h1 : ∀ u ∈ x.cells, u.oneCell' = true := by
    intro u hu
    unfold Nd.cells at hu
    simp at hu
    rcases hu with rfl | rfl | rfl | rfl <;> rfl
  go_enter Try.func52, Try.ntmps52
  go_wp2_with (at_builtin; refine wpList_append_own _ rfl _ _ 28 rfl w.heap.size 31 i0 _ 4 64 Try.underlying28 hi hz0 hz1 hz2 rfl (by decide) (.slice none 0 0) 0 [] rfl (World.ownsRow_nil _ _ _ _) ⟨b, 0, none⟩ 1 c x.cells rfl rfl hx h1 (by unfold maxLen; omega) (by omega) (Nat.le_refl _) ?_; intro v' w1 hown' hgrow _)
  go_ret
  exact ⟨v', rfl, hown', (Below.refl _ _).grown hgrow (Nat.le_refl _) (fun k e => by simp [Value.ownBlock] at e)⟩

theorem cells_new (w : World) (cs : Array Value) (t : TypeId) : ∀ j u, cs.toList[j]? = some u → (w.alloc (.cells cs t)).cell? ((⟨w.heap.size, 0, none⟩ : Addr).add j) = some u := by
  intro j u h
  rw [Addr.add_lit]
  have := heap_alloc_new w (.cells cs t)
  unfold World.cell?
  dsimp only
  rw [this]
  simpa using h

def nodeA : Nd := ⟨[97], 53, none, 0, 0, []⟩

set_option maxRecDepth 100000 in
set_option maxHeartbeats 4000000 in
theorem put_a (w : World) : Calls Try.prog 26 #[.slice none 0 0, .agg nodeA.cells.toArray] w fun e w' => ∃ v, e = .returned v ∧ w'.ownsRow w.heap.size 31 4 v 1 nodeA.cells ∧ Below w.heap.size w w' := by
  unfold nodeA Nd.cells
  dsimp only
  go_enter Try.func26, Try.ntmps26
  go_wp2_with (first
    | (go_at_call 46; refine (clone_nil _).mono ?_; rintro e w' ⟨rfl, rfl⟩)
    | (go_at_call 48; refine (copied_nil _).mono ?_; rintro e w' ⟨rfl, rfl⟩)
    | (go_at_call 47; refine (delete_nil _ _ _).mono ?_; rintro e w' ⟨rfl, rfl⟩)
    | (go_at_call 50; refine (index_nil _ _).mono ?_; rintro e w' ⟨rfl, rfl⟩)
    | (go_at_call 52; refine (insert_nil nodeA (w.heap.size + 1) 1 _ (fun j u h => by have := cells_new (w.alloc (.cells #[.string ⟨#[97]⟩, .int .u8 53, .slice none 0 0, .string ⟨#[]⟩] 31)) nodeA.cells.toArray 31 j u h; simpa [nodeA, Nd.cells] using this)).mono ?_; rintro e w' ⟨v, rfl, ho, hb⟩))
  go_ret
  exact ⟨v, rfl, own_wider ho (by simp; omega), (((Below.refl _ w).alloc (Nat.le_refl _) _).alloc (by simp) _).trans (hb.mono (by simp; omega))⟩

set_option maxHeartbeats 1000000 in
/-- Is it the path? -/
theorem is_path (x : Nd) (b : Nat) (s : List UInt8) (w : World) (hs : w.cell? ⟨b, 0, none⟩ = some (.string ⟨s.toArray⟩)) (hb : b < w.heap.size) :
    Calls Try.prog 74 #[.agg x.cells.toArray, .pointer (some ⟨b, 0, none⟩)] w fun e w' => e = .returned (.bool (x.path == s)) ∧ Below w.heap.size w w' := by
  obtain ⟨p, k, A, n, c, l⟩ := x
  unfold Nd.cells
  dsimp only
  have h2 : (w.alloc (.cells #[.string ⟨p.toArray⟩, .int .u8 k, .slice A n c, .string ⟨l.toArray⟩] 31)).cell? ⟨b, 0, none⟩ = some (.string ⟨s.toArray⟩) := (World.cell?_of_block (Below.heap_alloc w _ b hb)).trans hs
  go_enter Try.func74, Try.ntmps74
  go_wp2_with fail
  go_ret
  exact ⟨rfl, (Below.refl _ w).alloc (Nat.le_refl _) _⟩

set_option maxRecDepth 100000 in
set_option maxHeartbeats 4000000 in
theorem find_a (g c : Nat) (w : World) (hg : ∀ j u, nodeA.cells[j]? = some u → w.cell? ⟨g, j, none⟩ = some u) (hgl : g < w.heap.size) :
    Calls Try.prog 60 #[.slice (some ⟨g, 0, none⟩) 1 c, .string ⟨#[97]⟩] w fun e w' => e = .returned (.int .i64 0) ∧ Below w.heap.size w w' := by
  have HB : ∀ W, Below w.heap.size w W → W.cell? ⟨g, 0, none⟩ = some (.string ⟨#[97]⟩) ∧ W.cell? ⟨g, 1, none⟩ = some (.int .u8 53) ∧ W.cell? ⟨g, 2, none⟩ = some (.slice none 0 0) ∧ W.cell? ⟨g, 3, none⟩ = some (.string ⟨#[]⟩) := fun W hW =>
    ⟨(hW.cell (p := ⟨g, 0, none⟩) hgl).trans (hg 0 _ rfl), (hW.cell (p := ⟨g, 1, none⟩) hgl).trans (hg 1 _ rfl), (hW.cell (p := ⟨g, 2, none⟩) hgl).trans (hg 2 _ rfl), (hW.cell (p := ⟨g, 3, none⟩) hgl).trans (hg 3 _ rfl)⟩
  have hA : Below w.heap.size w (w.alloc (.cells #[.string ⟨#[97]⟩] 9)) := (Below.refl _ w).alloc (Nat.le_refl _) _
  obtain ⟨q0, q1, q2, q3⟩ := HB _ hA
  have hI : Calls Try.prog 50 #[.slice (some ⟨g, 0, none⟩) 1 c, .func (.func 74) #[] #[.pointer (some ⟨w.heap.size, 0, none⟩)]] (w.alloc (.cells #[.string ⟨#[97]⟩] 9)) fun e w' => e = .returned (.int .i64 0) ∧ Below w.heap.size w w' := by
    have hP := is_path nodeA w.heap.size [97] (w.alloc (.cells #[.string ⟨#[97]⟩] 9)) (cell_of (heap_alloc_new w (.cells #[.string ⟨#[97]⟩] 9))).1 (by simp)
    rw [show (nodeA.path == [97]) = true from rfl] at hP
    go_enter Try.func50, Try.ntmps50
    go_wp2_with fail
    refine wp_loop_rounds 1 ?_
    rw [rounds_succ]
    go_wp2_with (go_at_call 74; refine hP.mono ?_; rintro e w' ⟨rfl, hb⟩)
    go_ret
    exact ⟨rfl, hA.trans (hb.mono (by simp))⟩
  go_enter Try.func60, Try.ntmps60
  go_wp2_with (go_at_call 50; refine hI.mono ?_; rintro e w' ⟨rfl, hb⟩)
  go_ret
  exact ⟨rfl, hb⟩

set_option maxRecDepth 100000 in
set_option maxHeartbeats 4000000 in
theorem findN_a (g c : Nat) (w : World) (hg : ∀ j u, nodeA.cells[j]? = some u → w.cell? ⟨g, j, none⟩ = some u) (hgl : g < w.heap.size) :
    Calls Try.prog 35 #[.slice (some ⟨g, 0, none⟩) 1 c, .string ⟨#[97]⟩] w fun e w' => e = .returned (.tuple #[.agg nodeA.cells.toArray, .bool true]) ∧ Below w.heap.size w w' := by
  have HB : ∀ W, Below w.heap.size w W → W.cell? ⟨g, 0, none⟩ = some (.string ⟨#[97]⟩) ∧ W.cell? ⟨g, 1, none⟩ = some (.int .u8 53) ∧ W.cell? ⟨g, 2, none⟩ = some (.slice none 0 0) ∧ W.cell? ⟨g, 3, none⟩ = some (.string ⟨#[]⟩) := fun W hW =>
    ⟨(hW.cell (p := ⟨g, 0, none⟩) hgl).trans (hg 0 _ rfl), (hW.cell (p := ⟨g, 1, none⟩) hgl).trans (hg 1 _ rfl), (hW.cell (p := ⟨g, 2, none⟩) hgl).trans (hg 2 _ rfl), (hW.cell (p := ⟨g, 3, none⟩) hgl).trans (hg 3 _ rfl)⟩
  obtain ⟨z, hz⟩ : ∃ z, z = (.cells #[.string ⟨#[]⟩, .int .u8 0, .slice none 0 0, .string ⟨#[]⟩] 31 : Obj) := ⟨_, rfl⟩
  have hA : Below w.heap.size w (w.alloc z) := (Below.refl _ w).alloc (Nat.le_refl _) _
  have hF := find_a g c (w.alloc z) (fun j u h => (hA.cell (p := ⟨g, j, none⟩) hgl).trans (hg j u h)) (by simp; omega)
  have hk := heap_alloc_new w z
  rw [hz] at hF hk
  have HZ : ∀ w1, Below (w.heap.size + 1) (w.alloc (.cells #[.string ⟨#[]⟩, .int .u8 0, .slice none 0 0, .string ⟨#[]⟩] 31)) w1 → ∀ o,
      (w1.alloc o).cell? ⟨w.heap.size, 0, none⟩ = some (.string ⟨#[]⟩) ∧ (w1.alloc o).cell? ⟨w.heap.size, 1, none⟩ = some (.int .u8 0) ∧ (w1.alloc o).cell? ⟨w.heap.size, 2, none⟩ = some (.slice none 0 0) ∧ (w1.alloc o).cell? ⟨w.heap.size, 3, none⟩ = some (.string ⟨#[]⟩) ∧
      (w1.alloc o).frozen? ⟨w.heap.size, 0, none⟩ = false ∧ (w1.alloc o).frozen? ⟨w.heap.size, 1, none⟩ = false ∧ (w1.alloc o).frozen? ⟨w.heap.size, 2, none⟩ = false ∧ (w1.alloc o).frozen? ⟨w.heap.size, 3, none⟩ = false := by
    intro w1 hb o
    have h1 := (hb.block w.heap.size (by omega)).trans hk
    have h2 : (w1.alloc o).heap[w.heap.size]? = _ := (Below.heap_alloc w1 o _ (Array.getElem?_eq_some_iff.1 h1).1).trans h1
    unfold World.cell? World.frozen?
    dsimp only
    rw [h2]
    exact ⟨rfl, rfl, rfl, rfl, rfl, rfl, rfl, rfl⟩
  go_enter Try.func35, Try.ntmps35
  go_wp2_with (first | (go_at_call 60; refine hF.mono ?_; rintro e w1 ⟨rfl, hb⟩; obtain ⟨q0, q1, q2, q3⟩ := HB w1 (by rw [hz] at hA; exact hA.trans (hb.mono (by simp))); obtain ⟨c0, c1, c2, c3, f0, f1, f2, f3⟩ := HZ w1 (by simpa using hb) (.cells #[.string ⟨#[97]⟩, .int .u8 53, .slice none 0 0, .string ⟨#[]⟩] 31)) | (go_at_call 46; refine (clone_nil _).mono ?_; rintro e w' ⟨rfl, rfl⟩))
  have h1 := (hb.block w.heap.size (by simp)).trans hk
  have m0 := (Below.heap_alloc w1 (.cells #[.string ⟨#[97]⟩, .int .u8 53, .slice none 0 0, .string ⟨#[]⟩] 31) _ (Array.getElem?_eq_some_iff.1 h1).1).trans h1
  have m1 := heap_setCell_same _ w.heap.size 0 _ 31 (.string ⟨#[97]⟩) m0
  have m2 := heap_setCell_same _ w.heap.size 1 _ 31 (.int .u8 53) m1
  have m3 := heap_setCell_same _ w.heap.size 2 _ 31 (.slice none 0 0) m2
  have m4 := heap_setCell_same _ w.heap.size 3 _ 31 (.string ⟨#[]⟩) m3
  have hb5 : Below w.heap.size w (((((w1.alloc (.cells #[.string ⟨#[97]⟩, .int .u8 53, .slice none 0 0, .string ⟨#[]⟩] 31)).setCell ⟨w.heap.size, 0, none⟩ (.string ⟨#[97]⟩)).setCell ⟨w.heap.size, 1, none⟩ (.int .u8 53)).setCell ⟨w.heap.size, 2, none⟩ (.slice none 0 0)).setCell ⟨w.heap.size, 3, none⟩ (.string ⟨#[]⟩)) := by
    rw [hz] at hA
    have hb1 : Below w.heap.size w w1 := hA.trans (hb.mono (by simp))
    exact ((((hb1.alloc hb1.size _).setCell (p := ⟨w.heap.size, 0, none⟩) (Nat.le_refl _) _).setCell (p := ⟨w.heap.size, 1, none⟩) (Nat.le_refl _) _).setCell (p := ⟨w.heap.size, 2, none⟩) (Nat.le_refl _) _).setCell (p := ⟨w.heap.size, 3, none⟩) (Nat.le_refl _) _
  generalize ((((w1.alloc (.cells #[.string ⟨#[97]⟩, .int .u8 53, .slice none 0 0, .string ⟨#[]⟩] 31)).setCell ⟨w.heap.size, 0, none⟩ (.string ⟨#[97]⟩)).setCell ⟨w.heap.size, 1, none⟩ (.int .u8 53)).setCell ⟨w.heap.size, 2, none⟩ (.slice none 0 0)).setCell ⟨w.heap.size, 3, none⟩ (.string ⟨#[]⟩) = w5 at m4 hb5 ⊢
  have d0 : w5.cell? ⟨w.heap.size, 0, none⟩ = some (.string ⟨#[97]⟩) := by unfold World.cell?; dsimp only; rw [m4]; rfl
  have d1 : w5.cell? ⟨w.heap.size, 1, none⟩ = some (.int .u8 53) := by unfold World.cell?; dsimp only; rw [m4]; rfl
  have d2 : w5.cell? ⟨w.heap.size, 2, none⟩ = some (.slice none 0 0) := by unfold World.cell?; dsimp only; rw [m4]; rfl
  have d3 : w5.cell? ⟨w.heap.size, 3, none⟩ = some (.string ⟨#[]⟩) := by unfold World.cell?; dsimp only; rw [m4]; rfl
  refine bodyPost_ret (v := .tuple #[.agg nodeA.cells.toArray, .bool true]) ?_ rfl ⟨rfl, hb5⟩
  simp [results, Try.f35, go_sem, d0, d1, d2, d3, nodeA, Nd.cells]

end Go.Proofs.Ytlbipmlbkcdmnaa
