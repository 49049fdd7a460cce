
/-
  Whether a tree may be.
-/
import Derived.Test.YtlbipmlbkcdmnaaGreatM
import Derived.Maps.OwnOps
import Derived.Laws.Cover1
namespace Go.Proofs.YtlbipmlbkcdmnaaGreat
open Go.RowKit

def Nodes (w : World) (A : Option Addr) (ns : List Nd) : Prop :=
  ns = [] ∨ ∃ b off, A = some ⟨b, off, none⟩ ∧ b < w.heap.size ∧ ∀ j x, ns[j]? = some x →
    w.cell? ⟨b, off + j * 4, none⟩ = some (.string ⟨x.path.toArray⟩) ∧ w.cell? ⟨b, off + j * 4 + 1, none⟩ = some (.int .u8 x.kind) ∧
    w.cell? ⟨b, off + j * 4 + 2, none⟩ = some (.slice x.adr x.len x.cap) ∧ w.cell? ⟨b, off + j * 4 + 3, none⟩ = some (.string ⟨x.link.toArray⟩)

def rightL (f : List UInt8 → Bool) (last : List UInt8) : List Nd → Bool
  | [] => true
  | x :: r => formedL x && !(Op.bytesLess x.path last || x.path == last) && f (upL x.path) && rightL (setD f x.path (x.kind == 53)) x.path r

end Go.Proofs.YtlbipmlbkcdmnaaGreat


/-
  The chapter's examples.
-/
namespace Go.Proofs.YtlbipmlbkcdmnaaGreat
open Go.RowKit

theorem Tryz.info49 : (Tryz.prog.info? 49).map (fun i => (i.zero, i.size, i.bytes)) = some (some (.agg #[.string ⟨#[]⟩, .int .u8 0, .slice none 0 0, .string ⟨#[]⟩]), 4, 64) := by kernel_rfl

set_option maxRecDepth 100000 in
set_option maxHeartbeats 400000 in
theorem clone_nil (w : World) : Calls Tryz.prog 49 #[.slice none 0 0] w fun e w' => e = .returned (.slice none 0 0) ∧ w' = w := by
  have hrun := fun W : World => Lib.run_eql_slice_nil (P := Tryz.prog) W 22 5 none 0 0 0 0 Tryz.underlying22
  go_enter Tryz.func49, Tryz.ntmps49
  go_wp2_with fail
  go_ret
  exact ⟨rfl, rfl⟩

set_option maxRecDepth 100000 in
set_option maxHeartbeats 400000 in
theorem cloneN_nil (w : World) : Calls Tryz.prog 48 #[.slice none 0 0] w fun e w' => e = .returned (.slice none 0 0) ∧ w' = w := by
  have hrun := fun W : World => Lib.run_eql_slice_nil (P := Tryz.prog) W 34 49 none 0 0 0 0 Tryz.underlying34
  go_enter Tryz.func48, Tryz.ntmps48
  go_wp2_with fail
  go_ret
  exact ⟨rfl, rfl⟩

set_option maxRecDepth 100000 in
set_option maxHeartbeats 1000000 in
theorem copied_nil (w : World) : Calls Tryz.prog 33 #[.slice none 0 0] w fun e w' => e = .returned (.slice none 0 0) ∧ w' = w := by
  go_enter Tryz.func33, Tryz.ntmps33
  go_wp2_with (go_at_call 48; refine (cloneN_nil _).mono ?_; rintro e w' ⟨rfl, rfl⟩)
  refine wp_loop_rounds 1 ?_
  rw [rounds_succ]
  go_wp2_with fail
  go_ret
  exact ⟨rfl, rfl⟩

set_option maxRecDepth 100000 in
set_option maxHeartbeats 1000000 in
theorem index_nil (v : Value) (w : World) : Calls Tryz.prog 47 #[.slice none 0 0, v] w fun e w' => e = .returned (.int .i64 (-1)) ∧ w' = w := by
  go_enter Tryz.func47, Tryz.ntmps47
  go_wp2_with fail
  refine wp_loop_rounds 1 ?_
  rw [rounds_succ]
  go_wp2_with fail
  go_ret
  exact ⟨rfl, rfl⟩

set_option maxRecDepth 100000 in
set_option maxHeartbeats 1000000 in
theorem delete_nil (g : Nat) (lb : Array Value) (w : World) : Calls Tryz.prog 32 #[.slice none 0 0, .func (.func g) #[] lb] w fun e w' => e = .returned (.slice none 0 0) ∧ w' = w := by
  go_enter Tryz.func32, Tryz.ntmps32
  go_wp2_with (go_at_call 47; refine (index_nil _ _).mono ?_; rintro e w' ⟨rfl, rfl⟩)
  go_ret
  exact ⟨rfl, rfl⟩

set_option maxRecDepth 100000 in
set_option maxHeartbeats 4000000 in
theorem insert_nil (x : Nd) (b c : Nat) (w : World) (hx : ∀ j u, x.cells[j]? = some u → w.cell? ((⟨b, 0, none⟩ : Addr).add j) = some u) :
    Calls Tryz.prog 93 #[.slice none 0 0, .int .i64 0, .slice (some ⟨b, 0, none⟩) 1 c] w fun e w' => ∃ v, e = .returned v ∧ w'.ownsRow w.heap.size 49 4 v 1 x.cells ∧ Below w.heap.size w w' := by
  obtain ⟨i0, hi, hz0, hz1, hz2⟩ := info_parts Tryz.info49
  have h1 : ∀ u ∈ x.cells, u.oneCell' = true := by
    intro u hu
    unfold Nd.cells at hu
    simp at hu
    rcases hu with rfl | rfl | rfl | rfl <;> rfl
  go_enter Tryz.func93, Tryz.ntmps93
  go_wp2_with (at_builtin; refine wpList_append_own _ rfl _ _ 34 rfl w.heap.size 49 i0 _ 4 64 Tryz.underlying34 hi hz0 hz1 hz2 rfl (by decide) (.slice none 0 0) 0 [] rfl (World.ownsRow_nil _ _ _ _) ⟨b, 0, none⟩ 1 c x.cells rfl rfl hx h1 (by unfold maxLen; omega) (by omega) (Nat.le_refl _) ?_; intro v' w1 hown' hgrow _)
  go_ret
  exact ⟨v', rfl, hown', (Below.refl _ _).grown hgrow (Nat.le_refl _) (fun k e => by simp [Value.ownBlock] at e)⟩

theorem cells_new (w : World) (cs : Array Value) (t : TypeId) : ∀ j u, cs.toList[j]? = some u → (w.alloc (.cells cs t)).cell? ((⟨w.heap.size, 0, none⟩ : Addr).add j) = some u := by
  intro j u h
  rw [Addr.add_lit]
  have := heap_alloc_new w (.cells cs t)
  unfold World.cell?
  dsimp only
  rw [this]
  simpa using h

def nodeA : Nd := ⟨[97], 53, none, 0, 0, []⟩

set_option maxRecDepth 100000 in
set_option maxHeartbeats 4000000 in
theorem put_a (w : World) : Calls Tryz.prog 83 #[.slice none 0 0, .agg nodeA.cells.toArray] w fun e w' => ∃ v, e = .returned v ∧ w'.ownsRow w.heap.size 49 4 v 1 nodeA.cells ∧ Below w.heap.size w w' := by
  unfold nodeA Nd.cells
  dsimp only
  go_enter Tryz.func83, Tryz.ntmps83
  go_wp2_with (first
    | (go_at_call 49; refine (clone_nil _).mono ?_; rintro e w' ⟨rfl, rfl⟩)
    | (go_at_call 33; refine (copied_nil _).mono ?_; rintro e w' ⟨rfl, rfl⟩)
    | (go_at_call 32; refine (delete_nil _ _ _).mono ?_; rintro e w' ⟨rfl, rfl⟩)
    | (go_at_call 47; refine (index_nil _ _).mono ?_; rintro e w' ⟨rfl, rfl⟩)
    | (go_at_call 93; refine (insert_nil nodeA (w.heap.size + 1) 1 _ (fun j u h => by have := cells_new (w.alloc (.cells #[.string ⟨#[97]⟩, .int .u8 53, .slice none 0 0, .string ⟨#[]⟩] 49)) nodeA.cells.toArray 49 j u h; simpa [nodeA, Nd.cells] using this)).mono ?_; rintro e w' ⟨v, rfl, ho, hb⟩))
  go_ret
  exact ⟨v, rfl, own_wider ho (by simp; omega), (((Below.refl _ w).alloc (Nat.le_refl _) _).alloc (by simp) _).trans (hb.mono (by simp; omega))⟩

set_option maxHeartbeats 1000000 in
/-- Is it the path? -/
theorem is_path (x : Nd) (b : Nat) (s : List UInt8) (w : World) (hs : w.cell? ⟨b, 0, none⟩ = some (.string ⟨s.toArray⟩)) (hb : b < w.heap.size) :
    Calls Tryz.prog 90 #[.agg x.cells.toArray, .pointer (some ⟨b, 0, none⟩)] w fun e w' => e = .returned (.bool (x.path == s)) ∧ Below w.heap.size w w' := by
  obtain ⟨p, k, A, n, c, l⟩ := x
  unfold Nd.cells
  dsimp only
  have h2 : (w.alloc (.cells #[.string ⟨p.toArray⟩, .int .u8 k, .slice A n c, .string ⟨l.toArray⟩] 49)).cell? ⟨b, 0, none⟩ = some (.string ⟨s.toArray⟩) := (World.cell?_of_block (Below.heap_alloc w _ b hb)).trans hs
  go_enter Tryz.func90, Tryz.ntmps90
  go_wp2_with fail
  go_ret
  exact ⟨rfl, (Below.refl _ w).alloc (Nat.le_refl _) _⟩

set_option maxRecDepth 100000 in
set_option maxHeartbeats 4000000 in
theorem find_a (g c : Nat) (w : World) (hg : ∀ j u, nodeA.cells[j]? = some u → w.cell? ⟨g, j, none⟩ = some u) (hgl : g < w.heap.size) :
    Calls Tryz.prog 82 #[.slice (some ⟨g, 0, none⟩) 1 c, .string ⟨#[97]⟩] w fun e w' => e = .returned (.int .i64 0) ∧ Below w.heap.size w w' := by
  have HB : ∀ W, Below w.heap.size w W → W.cell? ⟨g, 0, none⟩ = some (.string ⟨#[97]⟩) ∧ W.cell? ⟨g, 1, none⟩ = some (.int .u8 53) ∧ W.cell? ⟨g, 2, none⟩ = some (.slice none 0 0) ∧ W.cell? ⟨g, 3, none⟩ = some (.string ⟨#[]⟩) := fun W hW =>
    ⟨(hW.cell (p := ⟨g, 0, none⟩) hgl).trans (hg 0 _ rfl), (hW.cell (p := ⟨g, 1, none⟩) hgl).trans (hg 1 _ rfl), (hW.cell (p := ⟨g, 2, none⟩) hgl).trans (hg 2 _ rfl), (hW.cell (p := ⟨g, 3, none⟩) hgl).trans (hg 3 _ rfl)⟩
  have hA : Below w.heap.size w (w.alloc (.cells #[.string ⟨#[97]⟩] 9)) := (Below.refl _ w).alloc (Nat.le_refl _) _
  obtain ⟨q0, q1, q2, q3⟩ := HB _ hA
  have hI : Calls Tryz.prog 47 #[.slice (some ⟨g, 0, none⟩) 1 c, .func (.func 90) #[] #[.pointer (some ⟨w.heap.size, 0, none⟩)]] (w.alloc (.cells #[.string ⟨#[97]⟩] 9)) fun e w' => e = .returned (.int .i64 0) ∧ Below w.heap.size w w' := by
    have hP := is_path nodeA w.heap.size [97] (w.alloc (.cells #[.string ⟨#[97]⟩] 9)) (cell_of (heap_alloc_new w (.cells #[.string ⟨#[97]⟩] 9))).1 (by simp)
    rw [show (nodeA.path == [97]) = true from rfl] at hP
    go_enter Tryz.func47, Tryz.ntmps47
    go_wp2_with fail
    refine wp_loop_rounds 1 ?_
    rw [rounds_succ]
    go_wp2_with (go_at_call 90; refine hP.mono ?_; rintro e w' ⟨rfl, hb⟩)
    go_ret
    exact ⟨rfl, hA.trans (hb.mono (by simp))⟩
  go_enter Tryz.func82, Tryz.ntmps82
  go_wp2_with (go_at_call 47; refine hI.mono ?_; rintro e w' ⟨rfl, hb⟩)
  go_ret
  exact ⟨rfl, hb⟩

set_option maxRecDepth 100000 in
set_option maxHeartbeats 4000000 in
theorem findN_a (g c : Nat) (w : World) (hg : ∀ j u, nodeA.cells[j]? = some u → w.cell? ⟨g, j, none⟩ = some u) (hgl : g < w.heap.size) :
    Calls Tryz.prog 71 #[.slice (some ⟨g, 0, none⟩) 1 c, .string ⟨#[97]⟩] w fun e w' => e = .returned (.tuple #[.agg nodeA.cells.toArray, .bool true]) ∧ Below w.heap.size w w' := by
  have HB : ∀ W, Below w.heap.size w W → W.cell? ⟨g, 0, none⟩ = some (.string ⟨#[97]⟩) ∧ W.cell? ⟨g, 1, none⟩ = some (.int .u8 53) ∧ W.cell? ⟨g, 2, none⟩ = some (.slice none 0 0) ∧ W.cell? ⟨g, 3, none⟩ = some (.string ⟨#[]⟩) := fun W hW =>
    ⟨(hW.cell (p := ⟨g, 0, none⟩) hgl).trans (hg 0 _ rfl), (hW.cell (p := ⟨g, 1, none⟩) hgl).trans (hg 1 _ rfl), (hW.cell (p := ⟨g, 2, none⟩) hgl).trans (hg 2 _ rfl), (hW.cell (p := ⟨g, 3, none⟩) hgl).trans (hg 3 _ rfl)⟩
  obtain ⟨z, hz⟩ : ∃ z, z = (.cells #[.string ⟨#[]⟩, .int .u8 0, .slice none 0 0, .string ⟨#[]⟩] 49 : Obj) := ⟨_, rfl⟩
  have hA : Below w.heap.size w (w.alloc z) := (Below.refl _ w).alloc (Nat.le_refl _) _
  have hF := find_a g c (w.alloc z) (fun j u h => (hA.cell (p := ⟨g, j, none⟩) hgl).trans (hg j u h)) (by simp; omega)
  have hk := heap_alloc_new w z
  rw [hz] at hF hk
  have HZ : ∀ w1, Below (w.heap.size + 1) (w.alloc (.cells #[.string ⟨#[]⟩, .int .u8 0, .slice none 0 0, .string ⟨#[]⟩] 49)) w1 → ∀ o,
      (w1.alloc o).cell? ⟨w.heap.size, 0, none⟩ = some (.string ⟨#[]⟩) ∧ (w1.alloc o).cell? ⟨w.heap.size, 1, none⟩ = some (.int .u8 0) ∧ (w1.alloc o).cell? ⟨w.heap.size, 2, none⟩ = some (.slice none 0 0) ∧ (w1.alloc o).cell? ⟨w.heap.size, 3, none⟩ = some (.string ⟨#[]⟩) ∧
      (w1.alloc o).frozen? ⟨w.heap.size, 0, none⟩ = false ∧ (w1.alloc o).frozen? ⟨w.heap.size, 1, none⟩ = false ∧ (w1.alloc o).frozen? ⟨w.heap.size, 2, none⟩ = false ∧ (w1.alloc o).frozen? ⟨w.heap.size, 3, none⟩ = false := by
    intro w1 hb o
    have h1 := (hb.block w.heap.size (by omega)).trans hk
    have h2 : (w1.alloc o).heap[w.heap.size]? = _ := (Below.heap_alloc w1 o _ (Array.getElem?_eq_some_iff.1 h1).1).trans h1
    unfold World.cell? World.frozen?
    dsimp only
    rw [h2]
    exact ⟨rfl, rfl, rfl, rfl, rfl, rfl, rfl, rfl⟩
  go_enter Tryz.func71, Tryz.ntmps71
  go_wp2_with (first | (go_at_call 82; refine hF.mono ?_; rintro e w1 ⟨rfl, hb⟩; obtain ⟨q0, q1, q2, q3⟩ := HB w1 (by rw [hz] at hA; exact hA.trans (hb.mono (by simp))); obtain ⟨c0, c1, c2, c3, f0, f1, f2, f3⟩ := HZ w1 (by simpa using hb) (.cells #[.string ⟨#[97]⟩, .int .u8 53, .slice none 0 0, .string ⟨#[]⟩] 49)) | (go_at_call 49; refine (clone_nil _).mono ?_; rintro e w' ⟨rfl, rfl⟩))
  have h1 := (hb.block w.heap.size (by simp)).trans hk
  have m0 := (Below.heap_alloc w1 (.cells #[.string ⟨#[97]⟩, .int .u8 53, .slice none 0 0, .string ⟨#[]⟩] 49) _ (Array.getElem?_eq_some_iff.1 h1).1).trans h1
  have m1 := heap_setCell_same _ w.heap.size 0 _ 49 (.string ⟨#[97]⟩) m0
  have m2 := heap_setCell_same _ w.heap.size 1 _ 49 (.int .u8 53) m1
  have m3 := heap_setCell_same _ w.heap.size 2 _ 49 (.slice none 0 0) m2
  have m4 := heap_setCell_same _ w.heap.size 3 _ 49 (.string ⟨#[]⟩) m3
  have hb5 : Below w.heap.size w (((((w1.alloc (.cells #[.string ⟨#[97]⟩, .int .u8 53, .slice none 0 0, .string ⟨#[]⟩] 49)).setCell ⟨w.heap.size, 0, none⟩ (.string ⟨#[97]⟩)).setCell ⟨w.heap.size, 1, none⟩ (.int .u8 53)).setCell ⟨w.heap.size, 2, none⟩ (.slice none 0 0)).setCell ⟨w.heap.size, 3, none⟩ (.string ⟨#[]⟩)) := by
    rw [hz] at hA
    have hb1 : Below w.heap.size w w1 := hA.trans (hb.mono (by simp))
    exact ((((hb1.alloc hb1.size _).setCell (p := ⟨w.heap.size, 0, none⟩) (Nat.le_refl _) _).setCell (p := ⟨w.heap.size, 1, none⟩) (Nat.le_refl _) _).setCell (p := ⟨w.heap.size, 2, none⟩) (Nat.le_refl _) _).setCell (p := ⟨w.heap.size, 3, none⟩) (Nat.le_refl _) _
  generalize ((((w1.alloc (.cells #[.string ⟨#[97]⟩, .int .u8 53, .slice none 0 0, .string ⟨#[]⟩] 49)).setCell ⟨w.heap.size, 0, none⟩ (.string ⟨#[97]⟩)).setCell ⟨w.heap.size, 1, none⟩ (.int .u8 53)).setCell ⟨w.heap.size, 2, none⟩ (.slice none 0 0)).setCell ⟨w.heap.size, 3, none⟩ (.string ⟨#[]⟩) = w5 at m4 hb5 ⊢
  have d0 : w5.cell? ⟨w.heap.size, 0, none⟩ = some (.string ⟨#[97]⟩) := by unfold World.cell?; dsimp only; rw [m4]; rfl
  have d1 : w5.cell? ⟨w.heap.size, 1, none⟩ = some (.int .u8 53) := by unfold World.cell?; dsimp only; rw [m4]; rfl
  have d2 : w5.cell? ⟨w.heap.size, 2, none⟩ = some (.slice none 0 0) := by unfold World.cell?; dsimp only; rw [m4]; rfl
  have d3 : w5.cell? ⟨w.heap.size, 3, none⟩ = some (.string ⟨#[]⟩) := by unfold World.cell?; dsimp only; rw [m4]; rfl
  refine bodyPost_ret (v := .tuple #[.agg nodeA.cells.toArray, .bool true]) ?_ rfl ⟨rfl, hb5⟩
  simp [results, Tryz.f71, go_sem, d0, d1, d2, d3, nodeA, Nd.cells]

end Go.Proofs.YtlbipmlbkcdmnaaGreat


/-
  Nodes in memory: what they read as; clones of them and of their bytes.
-/
namespace Go.Proofs.YtlbipmlbkcdmnaaGreat
open Go.RowKit

/-- What a slice of whole numbers reads as: nil, empty and other slices alike. -/
def Rd (w : World) (k : IntKind) (A : Option Addr) (n : Nat) (xs : List Int) : Prop :=
  xs.length = n ∧ ∀ j, j < n → ∃ ad, A = some ad ∧ w.cell? (ad.add j) = some (.int k (xs.getD j 0))

theorem rd_of_own {w : World} {B : Nat} {A : Option Addr} {n c : Nat} {xs : List Int} (h : w.ownsRow B 5 1 (.slice A n c) n (xs.map (Value.int .u8))) : Rd w .u8 A n xs := by
  have hl : xs.length = n := by simpa using h.1
  refine ⟨hl, fun j hj => ?_⟩
  rcases h.2 with ⟨_, h0⟩ | ⟨g, cap, cur, hv, _⟩
  · omega
  · injection hv with hA _ _
    subst hA
    refine ⟨⟨g, 0, none⟩, rfl, h.cells (g := g) rfl j _ ?_⟩
    simp [show j < xs.length by omega]

theorem Rd.below {w w' : World} {k : IntKind} {A : Option Addr} {n : Nat} {xs : List Int} (h : Rd w k A n xs) (hb : Below w.heap.size w w') : Rd w' k A n xs :=
  ⟨h.1, fun j hj => by
    obtain ⟨ad, hA, hc⟩ := h.2 j hj
    exact ⟨ad, hA, (hb.cell (World.block_lt_of_cell? w _ hc)).trans hc⟩⟩

theorem own_cap {w : World} {B : Nat} {e : TypeId} {size : Nat} {A : Option Addr} {n c : Nat} {xs : List Value} (h : w.ownsRow B e size (.slice A n c) n xs) : n ≤ c := by
  rcases h.2 with ⟨hv, h0⟩ | ⟨g, cap, cur, hv, hb, hg, hc, _⟩
  · omega
  · injection hv with _ _ h3; omega

theorem cells_of_rd {w : World} {A : Option Addr} {n : Nat} {xs : List Int} (h : Rd w .u8 A n xs) : ∀ j u, (xs.map (Value.int .u8))[j]? = some u → ∃ ad, A = some ad ∧ w.cell? (ad.add j) = some u := by
  intro j u hu
  have hj : j < xs.length := by
    have := (List.getElem?_eq_some_iff.1 hu).1
    simpa using this
  obtain ⟨ad, hA, hc⟩ := h.2 j (by rw [← h.1]; exact hj)
  refine ⟨ad, hA, hc.trans ?_⟩
  rw [← hu]
  simp [hj]

theorem u8_oneCell (zs : List Int) : ∀ u ∈ zs.map (Value.int .u8), u.oneCell' = true := by
  intro u hu
  obtain ⟨_, _, rfl⟩ := List.mem_map.1 hu
  rfl

theorem Tryz.info5 : (Tryz.prog.info? 5).map (fun i => (i.zero, i.size, i.bytes)) = some (some (.int .u8 0), 1, 1) := by kernel_rfl

set_option maxRecDepth 100000 in
set_option maxHeartbeats 1000000 in
/-- slices.Clone at bytes. -/
theorem clone_any {w : World} {A : Option Addr} {n c : Nat} {xs : List Int} (h : Rd w .u8 A n xs) (hn : n ≤ 4000000000000) :
    Calls Tryz.prog 49 #[.slice A n c] w fun e w' => ∃ A' c', e = .returned (.slice A' n c') ∧ w'.ownsRow w.heap.size 5 1 (.slice A' n c') n (xs.map (Value.int .u8)) ∧ Below w.heap.size w w' := by
  cases A with
  | none =>
    have h0 : n = 0 := by
      rcases Nat.eq_zero_or_pos n with h0 | h0
      · exact h0
      · obtain ⟨ad, hA, _⟩ := h.2 0 h0; cases hA
    subst h0
    have hrun := fun W : World => Lib.run_eql_slice_nil (P := Tryz.prog) W 22 5 none 0 c 0 0 Tryz.underlying22
    have HH := Lib.hid h; clear h
    go_enter Tryz.func49, Tryz.ntmps49
    go_wp2
    go_ret
    obtain rfl : xs = [] := List.eq_nil_of_length_eq_zero HH.out.1
    exact ⟨none, 0, rfl, World.ownsRow_nil _ _ _ _, Below.refl _ _⟩
  | some ad =>
    obtain ⟨i0, hi, hz0, hz1, hz2⟩ := info_parts Tryz.info5
    have hrun := fun W : World => Lib.run_eql_slice_nil (P := Tryz.prog) W 22 5 (some ad) n c 0 0 Tryz.underlying22
    have HH := Lib.hid h; clear h
    go_enter Tryz.func49, Tryz.ntmps49
    go_wp2_with (at_builtin; refine wpList_append_own _ rfl _ _ 22 rfl w.heap.size 5 i0 (.int .u8 0) 1 1 Tryz.underlying22 hi hz0 hz1 hz2 rfl (by decide) _ 0 [] rfl (World.ownsRow_made w #[] 0 (Nat.le_refl _) (by simp [maxLen]) rfl) ad n c (xs.map (Value.int .u8)) rfl (by simpa using HH.out.1) (fun j u hu => by obtain ⟨ad', hA, hc⟩ := cells_of_rd HH.out j u hu; cases hA; exact (Below.cell ((Below.refl _ w).alloc (Nat.le_refl _) _) (World.block_lt_of_cell? w _ hc)).trans hc) (u8_oneCell xs) (by unfold maxLen; omega) (by omega) (by simp) ?_; intro v' w1 hown1 hgrow1 _; simp only [Nat.zero_add, List.nil_append] at hown1; obtain ⟨A', c', rfl⟩ := own_form hown1)
    go_ret
    exact ⟨A', c', rfl, hown1, ((Below.refl _ w).alloc (Nat.le_refl _) _).grown hgrow1 (by simp) (fun k e => Nat.le_of_eq (Option.some.inj e))⟩

/-- The cells of nodes, one behind the other. -/
def cellsOf (ns : List Nd) : List Value := ns.flatMap Nd.cells

theorem cellsOf_length (ns : List Nd) : (cellsOf ns).length = ns.length * 4 := by
  induction ns with
  | nil => rfl
  | cons x r ih =>
    unfold cellsOf at ih ⊢
    rw [List.flatMap_cons, List.length_append, ih]
    simp [Nd.cells]
    omega

theorem cellsOf_at {ns : List Nd} {j i : Nat} {x : Nd} (h : ns[j]? = some x) (hi : i < 4) : (cellsOf ns)[j * 4 + i]? = x.cells[i]? := by
  induction ns generalizing j with
  | nil => simp at h
  | cons y r ih =>
    unfold cellsOf at ih ⊢
    rw [List.flatMap_cons]
    cases j with
    | zero =>
      obtain rfl : y = x := by simpa using h
      rw [List.getElem?_append_left (by simp [Nd.cells]; omega)]
      simp
    | succ j =>
      rw [List.getElem?_append_right (by simp [Nd.cells]; omega)]
      have := ih (j := j) (by simpa using h)
      rw [← this]
      simp [Nd.cells]
      congr 1
      omega

theorem cells_one (ns : List Nd) : ∀ u ∈ cellsOf ns, u.oneCell' = true := by
  intro u hu
  obtain ⟨x, _, hx⟩ := List.mem_flatMap.1 hu
  unfold Nd.cells at hx
  simp at hx
  rcases hx with rfl | rfl | rfl | rfl <;> rfl

theorem own_nodes {w : World} {B : Nat} {A : Option Addr} {n c : Nat} {ns : List Nd} (h : w.ownsRow B 49 4 (.slice A n c) n (cellsOf ns)) : n = ns.length ∧ Nodes w A ns := by
  have hl : n = ns.length := by
    have h1 := h.1
    rw [cellsOf_length] at h1
    omega
  refine ⟨hl, ?_⟩
  rcases h.2 with ⟨_, h0⟩ | ⟨g, cap, cur, hv, hb, hg, _⟩
  · exact .inl (List.eq_nil_of_length_eq_zero (by omega))
  · injection hv with hA _ _
    subst hA
    refine .inr ⟨g, 0, rfl, (Array.getElem?_eq_some_iff.1 hg).1, fun j x hj => ?_⟩
    have hc : ∀ i v, i < 4 → x.cells[i]? = some v → w.cell? ⟨g, 0 + j * 4 + i, none⟩ = some v := fun i v hi hv => by
      have := h.cells (g := g) rfl (j * 4 + i) v ((cellsOf_at hj hi).trans hv)
      rw [Addr.add_lit] at this
      rw [show 0 + j * 4 + i = 0 + (j * 4 + i) by omega]
      exact this
    exact ⟨hc 0 _ (by omega) rfl, hc 1 _ (by omega) rfl, hc 2 _ (by omega) rfl, hc 3 _ (by omega) rfl⟩

end Go.Proofs.YtlbipmlbkcdmnaaGreat


/-
  Nodes in new memory.
-/
namespace Go.Proofs.YtlbipmlbkcdmnaaGreat
open Go.RowKit

/-- A node as it is read. -/
structure Sn where
  path : List UInt8
  kind : Int
  data : List Int
  link : List UInt8

/-- What the cells of a node say. -/
def NdAt (w : World) (x : Nd) (s : Sn) : Prop :=
  x.path = s.path ∧ x.kind = s.kind ∧ x.link = s.link ∧ Rd w .u8 x.adr x.len s.data ∧ x.len ≤ x.cap ∧ x.len ≤ 4000000000000

def Like (w : World) (ns : List Nd) (ss : List Sn) : Prop :=
  ns.length = ss.length ∧ ∀ (j : Nat) (x : Nd) (s : Sn), ns[j]? = some x → ss[j]? = some s → NdAt w x s

/-- A node whose bytes lie in memory of one's own, from block B on. -/
def NdOwn (w : World) (B : Nat) (x : Nd) (s : Sn) : Prop :=
  x.path = s.path ∧ x.kind = s.kind ∧ x.link = s.link ∧ w.ownsRow B 5 1 (.slice x.adr x.len x.cap) x.len (s.data.map (Value.int .u8)) ∧ x.len ≤ 4000000000000
def LikeO (w : World) (B : Nat) (ns : List Nd) (ss : List Sn) : Prop :=
  ns.length = ss.length ∧ ∀ (j : Nat) (x : Nd) (s : Sn), ns[j]? = some x → ss[j]? = some s → NdOwn w B x s

theorem own_below {w w' : World} {B : Nat} {e : TypeId} {size : Nat} {v : Value} {n : Nat} {xs : List Value} (h : w.ownsRow B e size v n xs) (hb : Below w.heap.size w w') : w'.ownsRow B e size v n xs :=
  own_stays h fun k _ hk => hb.block k hk

/-- A row of one's own stays while a block of another element's type is turned. -/
theorem own_other {w w' : World} {B : Nat} {e e' : TypeId} {size : Nat} {v : Value} {n g : Nat} {xs : List Value} (h : w.ownsRow B e size v n xs) {cs : Array Value} {f : Nat × Nat} (hg : w.heap[g]? = some (.cells cs e' f)) (hne : e ≠ e')
    (hk : ∀ k, k < w.heap.size → k ≠ g → w'.heap[k]? = w.heap[k]?) : w'.ownsRow B e size v n xs := by
  obtain ⟨h1, h2⟩ := h
  refine ⟨h1, ?_⟩
  rcases h2 with h2 | ⟨g', cap, cur, rfl, hb, hg', rest⟩
  · exact .inl h2
  · refine .inr ⟨g', cap, cur, rfl, hb, (hk g' (Array.getElem?_eq_some_iff.1 hg').1 (fun e1 => ?_)).trans hg', rest⟩
    subst e1
    rw [hg] at hg'
    injection hg' with hg'
    injection hg' with _ ht _
    exact hne ht.symm

theorem NdOwn.at {w : World} {B : Nat} {x : Nd} {s : Sn} (h : NdOwn w B x s) : NdAt w x s :=
  ⟨h.1, h.2.1, h.2.2.1, rd_of_own h.2.2.2.1, own_cap h.2.2.2.1, h.2.2.2.2⟩
theorem LikeO.like {w : World} {B : Nat} {ns : List Nd} {ss : List Sn} (h : LikeO w B ns ss) : Like w ns ss := ⟨h.1, fun j x s hx hs => (h.2 j x s hx hs).at⟩
theorem NdOwn.below {w w' : World} {B : Nat} {x : Nd} {s : Sn} (h : NdOwn w B x s) (hb : Below w.heap.size w w') : NdOwn w' B x s :=
  ⟨h.1, h.2.1, h.2.2.1, own_below h.2.2.2.1 hb, h.2.2.2.2⟩
theorem NdOwn.wider {w : World} {B B' : Nat} {x : Nd} {s : Sn} (h : NdOwn w B x s) (hb : B' ≤ B) : NdOwn w B' x s :=
  ⟨h.1, h.2.1, h.2.2.1, own_wider h.2.2.2.1 hb, h.2.2.2.2⟩
theorem LikeO.below {w w' : World} {B : Nat} {ns : List Nd} {ss : List Sn} (h : LikeO w B ns ss) (hb : Below w.heap.size w w') : LikeO w' B ns ss :=
  ⟨h.1, fun j x s hx hs => (h.2 j x s hx hs).below hb⟩
/-- .. while the block of nodes is turned. -/
theorem NdOwn.other {w w' : World} {B g : Nat} {x : Nd} {s : Sn} (h : NdOwn w B x s) {cs : Array Value} {f : Nat × Nat} (hg : w.heap[g]? = some (.cells cs 49 f)) (hk : ∀ k, k < w.heap.size → k ≠ g → w'.heap[k]? = w.heap[k]?) : NdOwn w' B x s :=
  ⟨h.1, h.2.1, h.2.2.1, own_other h.2.2.2.1 hg (by decide) hk, h.2.2.2.2⟩

theorem NdAt.below {w w' : World} {x : Nd} {s : Sn} (h : NdAt w x s) (hb : Below w.heap.size w w') : NdAt w' x s :=
  ⟨h.1, h.2.1, h.2.2.1, h.2.2.2.1.below hb, h.2.2.2.2⟩
theorem Like.below {w w' : World} {ns : List Nd} {ss : List Sn} (h : Like w ns ss) (hb : Below w.heap.size w w') : Like w' ns ss :=
  ⟨h.1, fun j x s hx hs => (h.2 j x s hx hs).below hb⟩
theorem Nodes.below {w w' : World} {A : Option Addr} {ns : List Nd} (h : Nodes w A ns) (hb : Below w.heap.size w w') : Nodes w' A ns := by
  rcases h with h | ⟨b, off, rfl, hl, hc⟩
  · exact .inl h
  · refine .inr ⟨b, off, rfl, by have := hb.size; omega, fun j x hj => ?_⟩
    obtain ⟨a0, a1, a2, a3⟩ := hc j x hj
    exact ⟨(hb.cell (p := ⟨b, off + j * 4, none⟩) hl).trans a0, (hb.cell (p := ⟨b, off + j * 4 + 1, none⟩) hl).trans a1, (hb.cell (p := ⟨b, off + j * 4 + 2, none⟩) hl).trans a2, (hb.cell (p := ⟨b, off + j * 4 + 3, none⟩) hl).trans a3⟩

theorem nodes_cells {w : World} {A : Option Addr} {ns : List Nd} (h : Nodes w A ns) : ∀ j u, (cellsOf ns)[j]? = some u → ∃ ad, A = some ad ∧ w.cell? (ad.add j) = some u := by
  intro j u hu
  have hj := (List.getElem?_eq_some_iff.1 hu).1
  rw [cellsOf_length] at hj
  rcases h with rfl | ⟨b, off, rfl, hl, hc⟩
  · simp at hj
  · have hq : j / 4 < ns.length := by omega
    have hx : ns[j / 4]? = some ns[j / 4] := List.getElem?_eq_getElem hq
    have hm : j % 4 < 4 := by omega
    have he : j / 4 * 4 + j % 4 = j := by omega
    have := cellsOf_at hx hm
    rw [he, hu] at this
    obtain ⟨a0, a1, a2, a3⟩ := hc _ _ hx
    refine ⟨_, rfl, ?_⟩
    rw [Addr.add_lit, ← he, ← Nat.add_assoc]
    generalize ns[j / 4] = x at this a0 a1 a2 a3
    have h4 : j % 4 = 0 ∨ j % 4 = 1 ∨ j % 4 = 2 ∨ j % 4 = 3 := by omega
    rcases h4 with h4 | h4 | h4 | h4 <;> rw [h4] at this ⊢ <;> (have := Option.some.inj this; subst this; assumption)

set_option maxRecDepth 100000 in
set_option maxHeartbeats 1000000 in
/-- slices.Clone at nodes. -/
theorem cloneN_any {w : World} {A : Option Addr} {n c : Nat} {ns : List Nd} (h : Nodes w A ns) (hl : n = ns.length) (hn : n ≤ 1000000000000) (hnil : A = none → n = 0) :
    Calls Tryz.prog 48 #[.slice A n c] w fun e w' => ∃ A' c', e = .returned (.slice A' n c') ∧ w'.ownsRow w.heap.size 49 4 (.slice A' n c') n (cellsOf ns) ∧ Below w.heap.size w w' := by
  cases A with
  | none =>
    obtain rfl := hnil rfl
    obtain rfl : ns = [] := List.eq_nil_of_length_eq_zero hl.symm
    have hrun := fun W : World => Lib.run_eql_slice_nil (P := Tryz.prog) W 34 49 none 0 c 0 0 Tryz.underlying34
    clear h hl hnil
    go_enter Tryz.func48, Tryz.ntmps48
    go_wp2
    go_ret
    exact ⟨none, 0, rfl, World.ownsRow_nil _ _ _ _, Below.refl _ _⟩
  | some ad =>
    obtain ⟨i0, hi, hz0, hz1, hz2⟩ := info_parts Tryz.info49
    have hrun := fun W : World => Lib.run_eql_slice_nil (P := Tryz.prog) W 34 49 (some ad) n c 0 0 Tryz.underlying34
    have HH := Lib.hid h; clear h
    have HL := Lib.hid hl; clear hl
    clear hnil
    go_enter Tryz.func48, Tryz.ntmps48
    go_wp2_with (at_builtin; refine wpList_append_own _ rfl _ _ 34 rfl w.heap.size 49 i0 _ 4 64 Tryz.underlying34 hi hz0 hz1 hz2 rfl (by decide) _ 0 [] rfl (World.ownsRow_made w #[] 0 (Nat.le_refl _) (by simp [maxLen]) rfl) ad n c (cellsOf ns) rfl (by rw [cellsOf_length, HL.out]) (fun j u hu => by obtain ⟨ad', hA, hc⟩ := nodes_cells HH.out j u hu; cases hA; exact (Below.cell ((Below.refl _ w).alloc (Nat.le_refl _) _) (World.block_lt_of_cell? w _ hc)).trans hc) (cells_one ns) (by unfold maxLen; omega) (by omega) (by simp) ?_; intro v' w1 hown1 hgrow1 _; simp only [Nat.zero_add, List.nil_append] at hown1; obtain ⟨A', c', rfl⟩ := own_form hown1)
    go_ret
    exact ⟨A', c', rfl, hown1, ((Below.refl _ w).alloc (Nat.le_refl _) _).grown hgrow1 (by simp) (fun k e => Nat.le_of_eq (Option.some.inj e))⟩

/-- A node's slice of bytes is exchanged. -/
theorem cellsOf_set {ns : List Nd} {j : Nat} {x : Nd} (h : ns[j]? = some x) (A : Option Addr) (l c : Nat) :
    (cellsOf ns).set (j * 4 + 2) (.slice A l c) = cellsOf (ns.set j { x with adr := A, len := l, cap := c }) := by
  induction ns generalizing j with
  | nil => simp at h
  | cons y r ih =>
    unfold cellsOf at ih ⊢
    rw [List.flatMap_cons]
    cases j with
    | zero =>
      obtain rfl : y = x := by simpa using h
      simp [Nd.cells]
    | succ j =>
      have := ih (j := j) (by simpa using h)
      rw [List.set_append_right _ _ (by simp [Nd.cells]; omega), List.set_cons_succ, List.flatMap_cons, ← this]
      simp [Nd.cells]
      congr 1
      omega

end Go.Proofs.YtlbipmlbkcdmnaaGreat


/-
  Nodes in new memory: copied.
-/
namespace Go.Proofs.YtlbipmlbkcdmnaaGreat
open Go.RowKit

theorem Rd.setSlice {w : World} {A : Option Addr} {n : Nat} {xs : List Int} (h : Rd w .u8 A n xs) {p : Addr} {B : Option Addr} {m d : Nat} (hp : w.cell? p = some (.slice B m d)) (v : Value) : Rd (w.setCell p v) .u8 A n xs := by
  refine ⟨h.1, fun j hj => ?_⟩
  obtain ⟨ad, hA, hc⟩ := h.2 j hj
  refine ⟨ad, hA, ?_⟩
  rw [World.cell?_setCell_other _ _ _ _ (fun e => by rw [e] at hp; rw [hp] at hc; cases hc)]
  exact hc

theorem NdAt.setSlice {w : World} {x : Nd} {s : Sn} (h : NdAt w x s) {p : Addr} {B : Option Addr} {m d : Nat} (hp : w.cell? p = some (.slice B m d)) (v : Value) : NdAt (w.setCell p v) x s :=
  ⟨h.1, h.2.1, h.2.2.1, h.2.2.2.1.setSlice hp v, h.2.2.2.2⟩

set_option maxRecDepth 100000 in
set_option maxHeartbeats 4000000 in
theorem copied_any {w : World} {A : Option Addr} {n c : Nat} {ns : List Nd} {ss : List Sn} (h : Nodes w A ns) (hL : Like w ns ss) (hl : n = ns.length) (hn : n ≤ 1000000000000) (hnil : A = none → n = 0) :
    Calls Tryz.prog 33 #[.slice A n c] w fun e w' => ∃ A' c' ns', e = .returned (.slice A' n c') ∧ w'.ownsRow w.heap.size 49 4 (.slice A' n c') n (cellsOf ns') ∧ LikeO w' w.heap.size ns' ss ∧ Below w.heap.size w w' := by
  have HC := cloneN_any (c := c) h hl hn hnil
  clear h hl
  go_enter Tryz.func33, Tryz.ntmps33
  go_wp2_with fail
  refine HC.mono ?_
  rintro e w1 ⟨A', c', rfl, ho1, hb1⟩
  have hL1 := hL.below hb1
  go_wp2_with fail
  go_loopw [4, 5, 10, 11, 12, 13, 14, 15, 16, 17, 18, 19, 20, 21, 22] (fun _ _ i _ _ _ _ _ _ _ _ _ _ _ _ wr => ∃ (k : Nat) (ms : List Nd), k ≤ n ∧ i = .int .i64 k ∧ wr.ownsRow w.heap.size 49 4 (.slice A' n c') n (cellsOf ms) ∧ Like wr ms ss ∧ (∀ (j : Nat) (x : Nd) (s : Sn), j < k → ms[j]? = some x → ss[j]? = some s → NdOwn wr w.heap.size x s) ∧ Below w.heap.size w wr)
    (fun _ _ i _ _ _ _ _ _ _ _ _ _ _ _ _ => n - (intOf i).toNat)
  case atStart => exact ⟨0, ns, Nat.zero_le _, rfl, ho1, hL1, fun j _ _ hj => absurd hj (Nat.not_lt_zero _), hb1⟩
  case round =>
    obtain ⟨k, ms, hk, rfl, ho, hLk, hOk, hb⟩ := hrel
    by_cases hlt : k < n
    · have hkz : (k : Int) < (n : Int) := by omega
      obtain ⟨hml, hnd⟩ := own_nodes ho
      rcases ho.2 with ⟨_, h0⟩ | ⟨g, cap, cur, hv, hgb, hg, hcap, _⟩
      · omega
      injection hv with hv1 _ hv3
      subst hv1; subst hv3
      have hgl := (Array.getElem?_eq_some_iff.1 hg).1
      obtain ⟨x, hx⟩ : ∃ x, ms[k]? = some x := ⟨_, List.getElem?_eq_getElem (by omega)⟩
      obtain ⟨s, hs⟩ : ∃ s, ss[k]? = some s := ⟨_, List.getElem?_eq_getElem (by have := hLk.1; omega)⟩
      have hxs := hLk.2 k x s hx hs
      have cellAt : ∀ i v, i < 4 → x.cells[i]? = some v → wr.cell? ⟨g, k * 4 + i, none⟩ = some v := fun i v hi hv => by
        have := ho.cells (g := g) rfl (k * 4 + i) v ((cellsOf_at hx hi).trans hv)
        rw [Addr.add_lit] at this
        simpa using this
      have x0 : wr.cell? ⟨g, k * 4, none⟩ = some (.string ⟨x.path.toArray⟩) := cellAt 0 _ (by omega) rfl
      have x1 : wr.cell? ⟨g, k * 4 + 1, none⟩ = some (.int .u8 x.kind) := cellAt 1 _ (by omega) rfl
      have x2 : wr.cell? ⟨g, k * 4 + 2, none⟩ = some (.slice x.adr x.len x.cap) := cellAt 2 _ (by omega) rfl
      have x3 : wr.cell? ⟨g, k * 4 + 3, none⟩ = some (.string ⟨x.link.toArray⟩) := cellAt 3 _ (by omega) rfl
      have hbA : Below wr.heap.size wr (wr.alloc (.cells #[.string ⟨x.path.toArray⟩, .int .u8 x.kind, .slice x.adr x.len x.cap, .string ⟨x.link.toArray⟩] 49)) := (Below.refl _ wr).alloc (Nat.le_refl _) _
      have HCl := clone_any (c := x.cap) (hxs.2.2.2.1.below hbA) hxs.2.2.2.2.2
      have HO := Lib.hid ho; clear ho
      have HG := Lib.hid hg; clear hg
      have HM := Lib.hid hml; clear hml
      have HF : ∀ w2, Below (wr.heap.size + 1) (wr.alloc (.cells #[.string ⟨x.path.toArray⟩, .int .u8 x.kind, .slice x.adr x.len x.cap, .string ⟨x.link.toArray⟩] 49)) w2 → w2.cell? ⟨g, k * 4 + 2, none⟩ = some (.slice x.adr x.len x.cap) ∧ w2.frozen? ⟨g, k * 4 + 2, none⟩ = false ∧ Below wr.heap.size wr w2 := by
        intro w2 h2
        have h3 : Below wr.heap.size wr w2 := hbA.trans (h2.mono (by omega))
        exact ⟨(h3.cell (p := ⟨g, k * 4 + 2, none⟩) hgl).trans x2, (h3.frozen (p := ⟨g, k * 4 + 2, none⟩) hgl).trans (HO.out.frozenAt _), h3⟩
      go_wp2_with (go_at_call 49; refine HCl.mono ?_; rintro e w2 ⟨A2, c2, rfl, hr2, hb2⟩; obtain ⟨d2, f2, hb3⟩ := HF w2 (by simpa using hb2))
      go_roundw
      case rel =>
        have hown2 : w2.ownsRow w.heap.size 49 4 (.slice (some ⟨g, 0, none⟩) n c') n (cellsOf ms) := own_stays HO.out fun j _ hj => hb3.block j hj
        obtain ⟨o1, g1⟩ := hown2.stored (k * 4 + 2) (.slice A2 x.len c2)
        rw [cellsOf_set hx] at o1
        have hg2 := (hb3.block g hgl).trans HG.out
        have hsz := hb.size
        have hNew : NdOwn (w2.setCell ⟨g, k * 4 + 2, none⟩ (.slice A2 x.len c2)) w.heap.size { x with adr := A2, len := x.len, cap := c2 } s :=
          NdOwn.other (g := g) ⟨hxs.1, hxs.2.1, hxs.2.2.1, own_wider hr2 (by simp; omega), hxs.2.2.2.2.2⟩ hg2 (fun j _ hj => Below.heap_setCell _ _ _ _ hj)
        refine ⟨k + 1, _, by omega, by go_num, o1, ⟨by rw [List.length_set]; exact hLk.1, fun j y t hy ht => ?_⟩, fun j y t hjk1 hy ht => ?_, (hb.trans (hb3.mono hb.size)).setCell (p := ⟨g, k * 4 + 2, none⟩) hgb _⟩
        · by_cases hjk : j = k
          · subst hjk
            rw [List.getElem?_set_self (by have := HM.out; omega)] at hy
            rw [hs] at ht
            cases hy; cases ht
            exact hNew.at
          · rw [List.getElem?_set_ne (Ne.symm hjk)] at hy
            exact ((hLk.2 j y t hy ht).below hb3).setSlice d2 _
        · by_cases hjk : j = k
          · subst hjk
            rw [List.getElem?_set_self (by have := HM.out; omega)] at hy
            rw [hs] at ht
            cases hy; cases ht
            exact hNew
          · rw [List.getElem?_set_ne (Ne.symm hjk)] at hy
            exact ((hOk j y t (by omega) hy ht).below hb3).other hg2 (fun j _ hj => Below.heap_setCell _ _ _ _ hj)
      case measure => simp [intOf]; omega
    · obtain rfl : k = n := by omega
      go_wp2_with fail
      go_ret
      refine ⟨A', c', ms, rfl, ho, ⟨hLk.1, fun j x s hx hs => hOk j x s ?_ hx hs⟩, hb⟩
      have := (List.getElem?_eq_some_iff.1 hx).1
      have := (own_nodes ho).1
      omega

end Go.Proofs.YtlbipmlbkcdmnaaGreat
