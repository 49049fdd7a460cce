/-
  A tree of choices: what it is.
-/
import Derived.Test.YtlbipmlbkcdmnaaMerD
import Derived.Test.YtlbipmlbkcdmnaaMerE
import Derived.Test.YtlbipmlbkcdmnaaOb
import Derived.Deep.CutRange
namespace Go.Proofs.Ytlbipmlbkcdmnaa
open Go.RowKit Go.Shelf

def kindsA : List Int := [48, 53, 53, 50]
def kindsB : List Int := [53, 53, 50, 53]
def kindA (b : Int) : Int := kindsA.getD (b / 8 % 4).toNat 0
def kindB (b : Int) : Int := kindsB.getD (b / 8 % 4).toNat 0
def kindOf (b : Int) : Int := if pathOf b = [97] ∨ pathOf b = [97, 47, 98] then kindB b else kindA b
def nodeOf (b : Int) : Sn := ⟨pathOf b, kindOf b, if kindOf b = 48 then [b] else [], if kindOf b = 50 then [97] else []⟩
def treeStep (t : List Sn) (b : Int) : List Sn :=
  if pathOf b = [] ∨ (b < 250 ∧ ((findL t (upL (pathOf b))).2 = false ∨ (findL t (upL (pathOf b))).1.kind ≠ 53)) then t else putG Sn.path (nodeOf b) t
def treeL (bs : List Int) : List Sn := (bs.take 14).foldl treeStep []

theorem treeL_snoc {bs : List Int} {k : Nat} {x : Int} (h14 : k < 14) (hx : bs[k]? = some x) : treeL (bs.take (k + 1)) = treeStep (treeL (bs.take k)) x := by
  unfold treeL
  rw [List.take_take, List.take_take, show min 14 (k + 1) = k + 1 by omega, show min 14 k = k by omega, List.take_add_one, hx, List.foldl_append]
  rfl

theorem node_stored {w : World} {g : Nat} {a b c d : Value} (h : w.heap[g]? = some (.cells #[a, b, c, d] 31 (0, 0))) (a' b' c' d' : Value) :
    ((((w.setCell ⟨g, 0, none⟩ a').setCell ⟨g, 1, none⟩ b').setCell ⟨g, 2, none⟩ c').setCell ⟨g, 3, none⟩ d').heap[g]? = some (.cells #[a', b', c', d'] 31 (0, 0)) ∧
    (∀ B, B ≤ g → AddsT 31 B w ((((w.setCell ⟨g, 0, none⟩ a').setCell ⟨g, 1, none⟩ b').setCell ⟨g, 2, none⟩ c').setCell ⟨g, 3, none⟩ d')) ∧
    (∀ B w0, Below B w0 w → B ≤ g → Below B w0 ((((w.setCell ⟨g, 0, none⟩ a').setCell ⟨g, 1, none⟩ b').setCell ⟨g, 2, none⟩ c').setCell ⟨g, 3, none⟩ d')) := by
  have m1 := heap_setCell_same _ g 0 _ 31 a' h
  have m2 := heap_setCell_same _ g 1 _ 31 b' m1
  have m3 := heap_setCell_same _ g 2 _ 31 c' m2
  have m4 := heap_setCell_same _ g 3 _ 31 d' m3
  refine ⟨m4, fun B hB => ?_, fun B w0 hb hB => (((hb.setCell (p := ⟨g, 0, none⟩) hB _).setCell (p := ⟨g, 1, none⟩) hB _).setCell (p := ⟨g, 2, none⟩) hB _).setCell (p := ⟨g, 3, none⟩) hB _⟩
  exact ((AddsT.trans _ _ _ (AddsT.trans _ _ _ (AddsT.trans _ _ _ (AddsT.setCell h hB) (AddsT.setCell m1 hB)) (AddsT.setCell m2 hB)) (AddsT.setCell m3 hB)))

theorem kind_cell {x : Int} {q : Nat} (hq : x / 8 % 4 = q) {w : World} {g : Nat} (h : w.heap[g]? = some (.cells #[.int .u8 48, .int .u8 53, .int .u8 53, .int .u8 50] 5 (0, 0))) : w.cell? ⟨g, q, none⟩ = some (.int .u8 (kindA x)) := by
  have h4 : q = 0 ∨ q = 1 ∨ q = 2 ∨ q = 3 := by omega
  unfold World.cell? kindA
  dsimp only
  rw [h, hq]
  rcases h4 with rfl | rfl | rfl | rfl <;> rfl

theorem kindB_cell {x : Int} {q : Nat} (hq : x / 8 % 4 = q) {w : World} {g : Nat} (h : w.heap[g]? = some (.cells #[.int .u8 53, .int .u8 53, .int .u8 50, .int .u8 53] 5 (0, 0))) : w.cell? ⟨g, q, none⟩ = some (.int .u8 (kindB x)) := by
  have h4 : q = 0 ∨ q = 1 ∨ q = 2 ∨ q = 3 := by omega
  unfold World.cell? kindB
  dsimp only
  rw [h, hq]
  rcases h4 with rfl | rfl | rfl | rfl <;> rfl

set_option maxRecDepth 100000 in
set_option maxHeartbeats 8000000 in
theorem tree_any {w : World} {A : Option Addr} {n c : Nat} {bs : List Int} (h : Rd w .u8 A n bs) (hr : ∀ x ∈ bs, 0 ≤ x ∧ x < 256) (hn : n ≤ 9223372036854775807) :
    Calls Try.prog 24 #[.slice A n c] w fun e w' => ∃ v m ns, e = .returned v ∧ w'.ownsRow w.heap.size 31 4 v m (cellsOf ns) ∧ Like w' ns (treeL bs) ∧ Below w.heap.size w w' := by
  go_enter Try.func24, Try.ntmps24
  go_wp2_with fail
  go_loopw [3, 4, 5, 6, 7, 8, 9, 10, 11, 12, 13, 14, 15, 16, 17, 18, 19, 20, 21, 22, 23, 24, 25, 26, 27, 28, 29, 30, 31, 32, 33, 34, 35, 36, 37, 38, 39, 40, 41, 42, 43, 44, 45, 46, 47, 48, 49, 50, 51, 52, 53, 54, 55, 56, 57, 58, 59, 60, 61, 62, 63, 64, 65, 66, 67, 68, 69, 70, 71, 72, 73, 74, 75, 76, 77, 78, 79, 80, 81, 82, 83, 84, 85, 86, 87, 88, 89, 90, 91, 92, 93] (fun v i _ _ _ _ _ _ _ _ _ _ _ _ _ _ _ _ _ _ _ _ _ _ _ _ _ _ _ _ _ _ _ _ _ _ _ _ _ _ _ _ _ _ _ _ _ _ _ _ _ _ _ _ _ _ _ _ _ _ _ _ _ _ _ _ _ _ _ _ _ _ _ _ _ _ _ _ _ _ _ _ _ _ _ _ _ _ _ _ _ wr => ∃ (k : Nat) (ns : List Nd), k ≤ n ∧ k ≤ 14 ∧ i = .int .i64 k ∧ wr.ownsRow w.heap.size 31 4 v ns.length (cellsOf ns) ∧ ns.length ≤ k ∧ Like wr ns (treeL (bs.take k)) ∧ Below w.heap.size w wr)
    (fun _ i _ _ _ _ _ _ _ _ _ _ _ _ _ _ _ _ _ _ _ _ _ _ _ _ _ _ _ _ _ _ _ _ _ _ _ _ _ _ _ _ _ _ _ _ _ _ _ _ _ _ _ _ _ _ _ _ _ _ _ _ _ _ _ _ _ _ _ _ _ _ _ _ _ _ _ _ _ _ _ _ _ _ _ _ _ _ _ _ _ _ => n - (intOf i).toNat)
  case atStart => exact ⟨0, [], Nat.zero_le _, by omega, rfl, World.ownsRow_nil _ _ _ _, Nat.le_refl _, ⟨rfl, fun j x s hx => by simp at hx⟩, Below.refl _ _⟩
  case round =>
    obtain ⟨k, ns, hk, hk14, rfl, ho, hml, hL, hb⟩ := hrel
    by_cases hlt : k < n
    · have hkz : (k : Int) < (n : Int) := by omega
      by_cases h14 : k < 14
      · have h14z : (k : Int) < 14 := by omega
        obtain ⟨ad, rfl, hck⟩ := h.2 k hlt
        obtain ⟨x, hx⟩ : ∃ x, bs[k]? = some x := ⟨_, List.getElem?_eq_getElem (by have := h.1; omega)⟩
        have hgd : bs.getD k 0 = x := by simp [hx]
        rw [hgd] at hck
        obtain ⟨hx0, hx1⟩ := hr x (List.mem_of_getElem? hx)
        have HP := fun w => path_any x w hx0 hx1
        have HC : ∀ W, Below w.heap.size w W → W.cell? (ad.add k) = some (.int .u8 x) := fun W hW => (hW.cell (World.block_lt_of_cell? w _ hck)).trans hck
        have HR := Lib.hid hb
        obtain ⟨q, hqx⟩ : ∃ q : Nat, x / 8 % 4 = (q : Int) := ⟨(x / 8 % 4).toNat, by omega⟩
        have hq4 : (q : Int) < 4 := by omega
        have hqt : (IntKind.u8.wrap (x.tdiv 8)).tmod 4 = (q : Int) := by
          rw [Int.tdiv_eq_ediv_of_nonneg hx0, show IntKind.u8.wrap (x / 8) = x / 8 by rw [IntKind.wrap_u8]; omega, Int.tmod_eq_emod_of_nonneg (by omega)]
          exact hqx
        go_wp2_with fail
        -- region 5
        go_cut [5] from 8 to 93 (fun p wx => ∃ g, p = .pointer (some ⟨g, 0, none⟩) ∧ wr.heap.size ≤ g ∧ wx.heap[g]? = some (.cells #[.string ⟨(pathOf x).toArray⟩, .int .u8 (kindA x), .slice none 0 0, .string ⟨#[]⟩] 31 (0, 0)) ∧ Below wr.heap.size wr wx)
        case first =>
          refine wp_region_pieces (AddsT 31 wr.heap.size) (by kernel_rfl) ?_
          intro W0 hW0 hB0
          have HB0 := Lib.hid hB0
          clear hW0 hB0
          refine pieces_pre (AddsT.refl _ _) AddsT.trans (by kernel_rfl) (fun d _ _ _ _ h => by cases d <;> exact h) _ 7 [] [0, 1, 2, 3, 6, 7, 8, 9, 10, 11] _ _ _ (by kernel_rfl) ?_
          have uc : ∀ W, AddsT 31 wr.heap.size W0 W → W.cell? (ad.add k) = some (.int .u8 x) := fun W hW => HC W (HR.out.trans ((HB0.out.trans hW.1).mono HR.out.size))
          repeat (first | (refine wpPre_take (v := ?_) rfl rfl rfl (fun W hW => ?_) ?_; rotate_left; (focus (go_simp; with_reducible rfl)); simp only [Act.put, List.setIfInBounds_toArray, List.set_cons_succ, List.set_cons_zero]) | (refine wpPre_skip rfl rfl ?_; simp only [Act.put, List.setIfInBounds_toArray, List.set_cons_succ, List.set_cons_zero]))
          refine wpPre_nil ?_
          refine pieces_pick3 (AddsT.refl _ _) 4 5 15 6 _ _ _ (by kernel_rfl) ?_ ?_ ?_
          · refine wpPre_call rfl rfl rfl ?_
            go_simp
            refine (HP _).mono ?_
            rintro e W1 ⟨rfl, hb1⟩
            have HB1 := Lib.hid (HB0.out.trans (hb1.mono HB0.out.size))
            refine ⟨AddsT.below hb1 HB0.out.size, ?_⟩
            refine wpPre_nil ?_
            refine pieces_pick2 (AddsT.refl _ _) 5 15 5 _ _ _ (by kernel_rfl) ?_ ?_
            · refine wpPre_call rfl rfl rfl ?_
              go_simp
              obtain ⟨W2, hW2⟩ : ∃ W, W = W1.alloc (.cells #[.int .u8 48, .int .u8 53, .int .u8 53, .int .u8 50] 5) := ⟨_, rfl⟩
              rw [← hW2]
              have hb2 : Below W1.heap.size W1 W2 := by rw [hW2]; exact (Below.refl _ _).alloc (Nat.le_refl _) _
              have hK2 : W2.heap[W1.heap.size]? = some (.cells #[.int .u8 48, .int .u8 53, .int .u8 53, .int .u8 50] 5 (0, 0)) := by rw [hW2]; exact heap_alloc_new W1 _
              clear hW2
              have HB2 := Lib.hid (HB1.out.trans (hb2.mono HB1.out.size))
              refine ⟨AddsT.below hb2 HB1.out.size, ?_⟩
              refine wpPre_nil ?_
              refine pieces_pre (AddsT.refl _ _) AddsT.trans (by kernel_rfl) (fun d _ _ _ _ h => by cases d <;> exact h) _ 2 [] [12, 13, 14] _ _ _ (by kernel_rfl) ?_
              have uc : ∀ W, AddsT 31 wr.heap.size W2 W → W.cell? (ad.add k) = some (.int .u8 x) := fun W hW => HC W (HR.out.trans ((HB2.out.trans hW.1).mono HR.out.size))
              have uk : ∀ W, AddsT 31 wr.heap.size W2 W → W.cell? ⟨W1.heap.size, q, none⟩ = some (.int .u8 (kindA x)) := fun W hW => kind_cell hqx (hW.other hK2 (by decide))
              repeat (first | (refine wpPre_take (v := ?_) rfl rfl rfl (fun W hW => ?_) ?_; rotate_left; (focus (go_simp; with_reducible rfl)); simp only [Act.put, List.setIfInBounds_toArray, List.set_cons_succ, List.set_cons_zero]) | (refine wpPre_skip rfl rfl ?_; simp only [Act.put, List.setIfInBounds_toArray, List.set_cons_succ, List.set_cons_zero]))
              refine wpPre_nil ?_
              refine pieces_pre (AddsT.refl _ _) AddsT.trans (by kernel_rfl) (fun d _ _ _ _ h => by cases d <;> exact h) _ 1 [15] [15] _ _ _ (by kernel_rfl) ?_
              refine wpPre_call rfl rfl rfl ?_
              go_simp
              obtain ⟨W3, hW3⟩ : ∃ W, W = W2.alloc (.cells #[.string ⟨#[]⟩, .int .u8 0, .slice none 0 0, .string ⟨#[]⟩] 31) := ⟨_, rfl⟩
              rw [← hW3]
              have hb3 : Below W2.heap.size W2 W3 := by rw [hW3]; exact (Below.refl _ _).alloc (Nat.le_refl _) _
              have hN3 : W3.heap[W2.heap.size]? = some (.cells #[.string ⟨#[]⟩, .int .u8 0, .slice none 0 0, .string ⟨#[]⟩] 31 (0, 0)) := by rw [hW3]; exact heap_alloc_new W2 _
              clear hW3
              have HB3 := Lib.hid (HB2.out.trans (hb3.mono HB2.out.size))
              have hNle : wr.heap.size ≤ W2.heap.size := HB2.out.size
              have hK3 := (hb3.block _ (Array.getElem?_eq_some_iff.1 hK2).1).trans hK2
              refine ⟨AddsT.below hb3 HB2.out.size, ?_⟩
              refine wpPre_nil ?_
              refine pieces_pre (AddsT.refl _ _) AddsT.trans (by kernel_rfl) (fun d _ _ _ _ h => by cases d <;> exact h) _ 0 [16] [16] _ _ _ (by kernel_rfl) ?_
              obtain ⟨d0, d1, d2, d3⟩ := node_cells hN3
              obtain ⟨e0, e1, e2, e3⟩ := node_frozen hN3
              refine wpPre_call rfl rfl rfl ?_
              go_simp
              obtain ⟨r1, r2, r3⟩ := node_stored hN3 (.string ⟨(pathOf x).toArray⟩) (.int .u8 (kindA x)) (.slice none 0 0) (.string ⟨#[]⟩)
              refine ⟨r2 _ hNle, ?_⟩
              refine wpPre_nil ?_
              refine wpAnyB_end _ _ _ (by kernel_rfl) ?_
              go_wp2_with fail
              go_meet
              exact ⟨_, rfl, hNle, r1, r3 _ _ HB3.out hNle⟩
            · refine wpPre_call rfl rfl rfl ?_
              go_simp
              obtain ⟨W2, hW2⟩ : ∃ W, W = W1.alloc (.cells #[.string ⟨#[]⟩, .int .u8 0, .slice none 0 0, .string ⟨#[]⟩] 31) := ⟨_, rfl⟩
              rw [← hW2]
              have hb2 : Below W1.heap.size W1 W2 := by rw [hW2]; exact (Below.refl _ _).alloc (Nat.le_refl _) _
              have hN2 : W2.heap[W1.heap.size]? = some (.cells #[.string ⟨#[]⟩, .int .u8 0, .slice none 0 0, .string ⟨#[]⟩] 31 (0, 0)) := by rw [hW2]; exact heap_alloc_new W1 _
              clear hW2
              have HB2 := Lib.hid (HB1.out.trans (hb2.mono HB1.out.size))
              have hNle : wr.heap.size ≤ W1.heap.size := HB1.out.size
              refine ⟨AddsT.below hb2 HB1.out.size, ?_⟩
              refine wpPre_nil ?_
              refine pieces_pre (AddsT.refl _ _) AddsT.trans (by kernel_rfl) (fun d _ _ _ _ h => by cases d <;> exact h) _ 4 [5] [5] _ _ _ (by kernel_rfl) ?_
              refine wpPre_call rfl rfl rfl ?_
              go_simp
              obtain ⟨W3, hW3⟩ : ∃ W, W = W2.alloc (.cells #[.int .u8 48, .int .u8 53, .int .u8 53, .int .u8 50] 5) := ⟨_, rfl⟩
              rw [← hW3]
              have hb3 : Below W2.heap.size W2 W3 := by rw [hW3]; exact (Below.refl _ _).alloc (Nat.le_refl _) _
              have hK3 : W3.heap[W2.heap.size]? = some (.cells #[.int .u8 48, .int .u8 53, .int .u8 53, .int .u8 50] 5 (0, 0)) := by rw [hW3]; exact heap_alloc_new W2 _
              clear hW3
              have HB3 := Lib.hid (HB2.out.trans (hb3.mono HB2.out.size))
              have hN3 := (hb3.block _ (Array.getElem?_eq_some_iff.1 hN2).1).trans hN2
              refine ⟨AddsT.below hb3 HB2.out.size, ?_⟩
              refine wpPre_nil ?_
              refine pieces_pre (AddsT.refl _ _) AddsT.trans (by kernel_rfl) (fun d _ _ _ _ h => by cases d <;> exact h) _ 1 [] [12, 13, 14] _ _ _ (by kernel_rfl) ?_
              have uc : ∀ W, AddsT 31 wr.heap.size W3 W → W.cell? (ad.add k) = some (.int .u8 x) := fun W hW => HC W (HR.out.trans ((HB3.out.trans hW.1).mono HR.out.size))
              have uk : ∀ W, AddsT 31 wr.heap.size W3 W → W.cell? ⟨W2.heap.size, q, none⟩ = some (.int .u8 (kindA x)) := fun W hW => kind_cell hqx (hW.other hK3 (by decide))
              repeat (first | (refine wpPre_take (v := ?_) rfl rfl rfl (fun W hW => ?_) ?_; rotate_left; (focus (go_simp; with_reducible rfl)); simp only [Act.put, List.setIfInBounds_toArray, List.set_cons_succ, List.set_cons_zero]) | (refine wpPre_skip rfl rfl ?_; simp only [Act.put, List.setIfInBounds_toArray, List.set_cons_succ, List.set_cons_zero]))
              refine wpPre_nil ?_
              refine pieces_pre (AddsT.refl _ _) AddsT.trans (by kernel_rfl) (fun d _ _ _ _ h => by cases d <;> exact h) _ 0 [16] [16] _ _ _ (by kernel_rfl) ?_
              obtain ⟨d0, d1, d2, d3⟩ := node_cells hN3
              obtain ⟨e0, e1, e2, e3⟩ := node_frozen hN3
              refine wpPre_call rfl rfl rfl ?_
              go_simp
              obtain ⟨r1, r2, r3⟩ := node_stored hN3 (.string ⟨(pathOf x).toArray⟩) (.int .u8 (kindA x)) (.slice none 0 0) (.string ⟨#[]⟩)
              refine ⟨r2 _ hNle, ?_⟩
              refine wpPre_nil ?_
              refine wpAnyB_end _ _ _ (by kernel_rfl) ?_
              go_wp2_with fail
              go_meet
              exact ⟨_, rfl, hNle, r1, r3 _ _ HB3.out hNle⟩
          · refine wpPre_call rfl rfl rfl ?_
            go_simp
            obtain ⟨W1, hW1⟩ : ∃ W, W = W0.alloc (.cells #[.int .u8 48, .int .u8 53, .int .u8 53, .int .u8 50] 5) := ⟨_, rfl⟩
            rw [← hW1]
            have hb1 : Below W0.heap.size W0 W1 := by rw [hW1]; exact (Below.refl _ _).alloc (Nat.le_refl _) _
            have hK1 : W1.heap[W0.heap.size]? = some (.cells #[.int .u8 48, .int .u8 53, .int .u8 53, .int .u8 50] 5 (0, 0)) := by rw [hW1]; exact heap_alloc_new W0 _
            clear hW1
            have HB1 := Lib.hid (HB0.out.trans (hb1.mono HB0.out.size))
            refine ⟨AddsT.below hb1 HB0.out.size, ?_⟩
            refine wpPre_nil ?_
            refine pieces_pre (AddsT.refl _ _) AddsT.trans (by kernel_rfl) (fun d _ _ _ _ h => by cases d <;> exact h) _ 4 [] [12, 13] _ _ _ (by kernel_rfl) ?_
            have uc : ∀ W, AddsT 31 wr.heap.size W1 W → W.cell? (ad.add k) = some (.int .u8 x) := fun W hW => HC W (HR.out.trans ((HB1.out.trans hW.1).mono HR.out.size))
            have uk : ∀ W, AddsT 31 wr.heap.size W1 W → W.cell? ⟨W0.heap.size, q, none⟩ = some (.int .u8 (kindA x)) := fun W hW => kind_cell hqx (hW.other hK1 (by decide))
            repeat (first | (refine wpPre_take (v := ?_) rfl rfl rfl (fun W hW => ?_) ?_; rotate_left; (focus (go_simp; with_reducible rfl)); simp only [Act.put, List.setIfInBounds_toArray, List.set_cons_succ, List.set_cons_zero]) | (refine wpPre_skip rfl rfl ?_; simp only [Act.put, List.setIfInBounds_toArray, List.set_cons_succ, List.set_cons_zero]))
            refine wpPre_nil ?_
            refine pieces_pick2 (AddsT.refl _ _) 4 15 3 _ _ _ (by kernel_rfl) ?_ ?_
            · refine wpPre_call rfl rfl rfl ?_
              go_simp
              refine (HP _).mono ?_
              rintro e W2 ⟨rfl, hb2⟩
              have HB2 := Lib.hid (HB1.out.trans (hb2.mono HB1.out.size))
              have hK2 := (hb2.block _ (Array.getElem?_eq_some_iff.1 hK1).1).trans hK1
              refine ⟨AddsT.below hb2 HB1.out.size, ?_⟩
              refine wpPre_nil ?_
              refine pieces_pre (AddsT.refl _ _) AddsT.trans (by kernel_rfl) (fun d _ _ _ _ h => by cases d <;> exact h) _ 2 [] [14] _ _ _ (by kernel_rfl) ?_
              have uc : ∀ W, AddsT 31 wr.heap.size W2 W → W.cell? (ad.add k) = some (.int .u8 x) := fun W hW => HC W (HR.out.trans ((HB2.out.trans hW.1).mono HR.out.size))
              repeat (first | (refine wpPre_take (v := ?_) rfl rfl rfl (fun W hW => ?_) ?_; rotate_left; (focus (go_simp; with_reducible rfl)); simp only [Act.put, List.setIfInBounds_toArray, List.set_cons_succ, List.set_cons_zero]) | (refine wpPre_skip rfl rfl ?_; simp only [Act.put, List.setIfInBounds_toArray, List.set_cons_succ, List.set_cons_zero]))
              refine wpPre_nil ?_
              refine pieces_pre (AddsT.refl _ _) AddsT.trans (by kernel_rfl) (fun d _ _ _ _ h => by cases d <;> exact h) _ 1 [15] [15] _ _ _ (by kernel_rfl) ?_
              refine wpPre_call rfl rfl rfl ?_
              go_simp
              obtain ⟨W3, hW3⟩ : ∃ W, W = W2.alloc (.cells #[.string ⟨#[]⟩, .int .u8 0, .slice none 0 0, .string ⟨#[]⟩] 31) := ⟨_, rfl⟩
              rw [← hW3]
              have hb3 : Below W2.heap.size W2 W3 := by rw [hW3]; exact (Below.refl _ _).alloc (Nat.le_refl _) _
              have hN3 : W3.heap[W2.heap.size]? = some (.cells #[.string ⟨#[]⟩, .int .u8 0, .slice none 0 0, .string ⟨#[]⟩] 31 (0, 0)) := by rw [hW3]; exact heap_alloc_new W2 _
              clear hW3
              have HB3 := Lib.hid (HB2.out.trans (hb3.mono HB2.out.size))
              have hNle : wr.heap.size ≤ W2.heap.size := HB2.out.size
              have hK3 := (hb3.block _ (Array.getElem?_eq_some_iff.1 hK2).1).trans hK2
              refine ⟨AddsT.below hb3 HB2.out.size, ?_⟩
              refine wpPre_nil ?_
              refine pieces_pre (AddsT.refl _ _) AddsT.trans (by kernel_rfl) (fun d _ _ _ _ h => by cases d <;> exact h) _ 0 [16] [16] _ _ _ (by kernel_rfl) ?_
              obtain ⟨d0, d1, d2, d3⟩ := node_cells hN3
              obtain ⟨e0, e1, e2, e3⟩ := node_frozen hN3
              refine wpPre_call rfl rfl rfl ?_
              go_simp
              obtain ⟨r1, r2, r3⟩ := node_stored hN3 (.string ⟨(pathOf x).toArray⟩) (.int .u8 (kindA x)) (.slice none 0 0) (.string ⟨#[]⟩)
              refine ⟨r2 _ hNle, ?_⟩
              refine wpPre_nil ?_
              refine wpAnyB_end _ _ _ (by kernel_rfl) ?_
              go_wp2_with fail
              go_meet
              exact ⟨_, rfl, hNle, r1, r3 _ _ HB3.out hNle⟩
            · refine wpPre_call rfl rfl rfl ?_
              go_simp
              obtain ⟨W2, hW2⟩ : ∃ W, W = W1.alloc (.cells #[.string ⟨#[]⟩, .int .u8 0, .slice none 0 0, .string ⟨#[]⟩] 31) := ⟨_, rfl⟩
              rw [← hW2]
              have hb2 : Below W1.heap.size W1 W2 := by rw [hW2]; exact (Below.refl _ _).alloc (Nat.le_refl _) _
              have hN2 : W2.heap[W1.heap.size]? = some (.cells #[.string ⟨#[]⟩, .int .u8 0, .slice none 0 0, .string ⟨#[]⟩] 31 (0, 0)) := by rw [hW2]; exact heap_alloc_new W1 _
              clear hW2
              have HB2 := Lib.hid (HB1.out.trans (hb2.mono HB1.out.size))
              have hNle : wr.heap.size ≤ W1.heap.size := HB1.out.size
              have hK2 := (hb2.block _ (Array.getElem?_eq_some_iff.1 hK1).1).trans hK1
              refine ⟨AddsT.below hb2 HB1.out.size, ?_⟩
              refine wpPre_nil ?_
              refine pieces_pre (AddsT.refl _ _) AddsT.trans (by kernel_rfl) (fun d _ _ _ _ h => by cases d <;> exact h) _ 2 [4] [4] _ _ _ (by kernel_rfl) ?_
              refine wpPre_call rfl rfl rfl ?_
              go_simp
              refine (HP _).mono ?_
              rintro e W3 ⟨rfl, hb3⟩
              have HB3 := Lib.hid (HB2.out.trans (hb3.mono HB2.out.size))
              have hK3 := (hb3.block _ (Array.getElem?_eq_some_iff.1 hK2).1).trans hK2
              have hN3 := (hb3.block _ (Array.getElem?_eq_some_iff.1 hN2).1).trans hN2
              refine ⟨AddsT.below hb3 HB2.out.size, ?_⟩
              refine wpPre_nil ?_
              refine pieces_pre (AddsT.refl _ _) AddsT.trans (by kernel_rfl) (fun d _ _ _ _ h => by cases d <;> exact h) _ 1 [] [14] _ _ _ (by kernel_rfl) ?_
              have uc : ∀ W, AddsT 31 wr.heap.size W3 W → W.cell? (ad.add k) = some (.int .u8 x) := fun W hW => HC W (HR.out.trans ((HB3.out.trans hW.1).mono HR.out.size))
              repeat (first | (refine wpPre_take (v := ?_) rfl rfl rfl (fun W hW => ?_) ?_; rotate_left; (focus (go_simp; with_reducible rfl)); simp only [Act.put, List.setIfInBounds_toArray, List.set_cons_succ, List.set_cons_zero]) | (refine wpPre_skip rfl rfl ?_; simp only [Act.put, List.setIfInBounds_toArray, List.set_cons_succ, List.set_cons_zero]))
              refine wpPre_nil ?_
              refine pieces_pre (AddsT.refl _ _) AddsT.trans (by kernel_rfl) (fun d _ _ _ _ h => by cases d <;> exact h) _ 0 [16] [16] _ _ _ (by kernel_rfl) ?_
              obtain ⟨d0, d1, d2, d3⟩ := node_cells hN3
              obtain ⟨e0, e1, e2, e3⟩ := node_frozen hN3
              refine wpPre_call rfl rfl rfl ?_
              go_simp
              obtain ⟨r1, r2, r3⟩ := node_stored hN3 (.string ⟨(pathOf x).toArray⟩) (.int .u8 (kindA x)) (.slice none 0 0) (.string ⟨#[]⟩)
              refine ⟨r2 _ hNle, ?_⟩
              refine wpPre_nil ?_
              refine wpAnyB_end _ _ _ (by kernel_rfl) ?_
              go_wp2_with fail
              go_meet
              exact ⟨_, rfl, hNle, r1, r3 _ _ HB3.out hNle⟩
          · refine wpPre_call rfl rfl rfl ?_
            go_simp
            obtain ⟨W1, hW1⟩ : ∃ W, W = W0.alloc (.cells #[.string ⟨#[]⟩, .int .u8 0, .slice none 0 0, .string ⟨#[]⟩] 31) := ⟨_, rfl⟩
            rw [← hW1]
            have hb1 : Below W0.heap.size W0 W1 := by rw [hW1]; exact (Below.refl _ _).alloc (Nat.le_refl _) _
            have hN1 : W1.heap[W0.heap.size]? = some (.cells #[.string ⟨#[]⟩, .int .u8 0, .slice none 0 0, .string ⟨#[]⟩] 31 (0, 0)) := by rw [hW1]; exact heap_alloc_new W0 _
            clear hW1
            have HB1 := Lib.hid (HB0.out.trans (hb1.mono HB0.out.size))
            have hNle : wr.heap.size ≤ W0.heap.size := HB0.out.size
            refine ⟨AddsT.below hb1 HB0.out.size, ?_⟩
            refine wpPre_nil ?_
            refine pieces_pick2 (AddsT.refl _ _) 4 5 5 _ _ _ (by kernel_rfl) ?_ ?_
            · refine wpPre_call rfl rfl rfl ?_
              go_simp
              refine (HP _).mono ?_
              rintro e W2 ⟨rfl, hb2⟩
              have HB2 := Lib.hid (HB1.out.trans (hb2.mono HB1.out.size))
              have hN2 := (hb2.block _ (Array.getElem?_eq_some_iff.1 hN1).1).trans hN1
              refine ⟨AddsT.below hb2 HB1.out.size, ?_⟩
              refine wpPre_nil ?_
              refine pieces_pre (AddsT.refl _ _) AddsT.trans (by kernel_rfl) (fun d _ _ _ _ h => by cases d <;> exact h) _ 4 [5] [5] _ _ _ (by kernel_rfl) ?_
              refine wpPre_call rfl rfl rfl ?_
              go_simp
              obtain ⟨W3, hW3⟩ : ∃ W, W = W2.alloc (.cells #[.int .u8 48, .int .u8 53, .int .u8 53, .int .u8 50] 5) := ⟨_, rfl⟩
              rw [← hW3]
              have hb3 : Below W2.heap.size W2 W3 := by rw [hW3]; exact (Below.refl _ _).alloc (Nat.le_refl _) _
              have hK3 : W3.heap[W2.heap.size]? = some (.cells #[.int .u8 48, .int .u8 53, .int .u8 53, .int .u8 50] 5 (0, 0)) := by rw [hW3]; exact heap_alloc_new W2 _
              clear hW3
              have HB3 := Lib.hid (HB2.out.trans (hb3.mono HB2.out.size))
              have hN3 := (hb3.block _ (Array.getElem?_eq_some_iff.1 hN2).1).trans hN2
              refine ⟨AddsT.below hb3 HB2.out.size, ?_⟩
              refine wpPre_nil ?_
              refine pieces_pre (AddsT.refl _ _) AddsT.trans (by kernel_rfl) (fun d _ _ _ _ h => by cases d <;> exact h) _ 1 [] [12, 13, 14] _ _ _ (by kernel_rfl) ?_
              have uc : ∀ W, AddsT 31 wr.heap.size W3 W → W.cell? (ad.add k) = some (.int .u8 x) := fun W hW => HC W (HR.out.trans ((HB3.out.trans hW.1).mono HR.out.size))
              have uk : ∀ W, AddsT 31 wr.heap.size W3 W → W.cell? ⟨W2.heap.size, q, none⟩ = some (.int .u8 (kindA x)) := fun W hW => kind_cell hqx (hW.other hK3 (by decide))
              repeat (first | (refine wpPre_take (v := ?_) rfl rfl rfl (fun W hW => ?_) ?_; rotate_left; (focus (go_simp; with_reducible rfl)); simp only [Act.put, List.setIfInBounds_toArray, List.set_cons_succ, List.set_cons_zero]) | (refine wpPre_skip rfl rfl ?_; simp only [Act.put, List.setIfInBounds_toArray, List.set_cons_succ, List.set_cons_zero]))
              refine wpPre_nil ?_
              refine pieces_pre (AddsT.refl _ _) AddsT.trans (by kernel_rfl) (fun d _ _ _ _ h => by cases d <;> exact h) _ 0 [16] [16] _ _ _ (by kernel_rfl) ?_
              obtain ⟨d0, d1, d2, d3⟩ := node_cells hN3
              obtain ⟨e0, e1, e2, e3⟩ := node_frozen hN3
              refine wpPre_call rfl rfl rfl ?_
              go_simp
              obtain ⟨r1, r2, r3⟩ := node_stored hN3 (.string ⟨(pathOf x).toArray⟩) (.int .u8 (kindA x)) (.slice none 0 0) (.string ⟨#[]⟩)
              refine ⟨r2 _ hNle, ?_⟩
              refine wpPre_nil ?_
              refine wpAnyB_end _ _ _ (by kernel_rfl) ?_
              go_wp2_with fail
              go_meet
              exact ⟨_, rfl, hNle, r1, r3 _ _ HB3.out hNle⟩
            · refine wpPre_call rfl rfl rfl ?_
              go_simp
              obtain ⟨W2, hW2⟩ : ∃ W, W = W1.alloc (.cells #[.int .u8 48, .int .u8 53, .int .u8 53, .int .u8 50] 5) := ⟨_, rfl⟩
              rw [← hW2]
              have hb2 : Below W1.heap.size W1 W2 := by rw [hW2]; exact (Below.refl _ _).alloc (Nat.le_refl _) _
              have hK2 : W2.heap[W1.heap.size]? = some (.cells #[.int .u8 48, .int .u8 53, .int .u8 53, .int .u8 50] 5 (0, 0)) := by rw [hW2]; exact heap_alloc_new W1 _
              clear hW2
              have HB2 := Lib.hid (HB1.out.trans (hb2.mono HB1.out.size))
              have hN2 := (hb2.block _ (Array.getElem?_eq_some_iff.1 hN1).1).trans hN1
              refine ⟨AddsT.below hb2 HB1.out.size, ?_⟩
              refine wpPre_nil ?_
              refine pieces_pre (AddsT.refl _ _) AddsT.trans (by kernel_rfl) (fun d _ _ _ _ h => by cases d <;> exact h) _ 3 [] [12, 13] _ _ _ (by kernel_rfl) ?_
              have uc : ∀ W, AddsT 31 wr.heap.size W2 W → W.cell? (ad.add k) = some (.int .u8 x) := fun W hW => HC W (HR.out.trans ((HB2.out.trans hW.1).mono HR.out.size))
              have uk : ∀ W, AddsT 31 wr.heap.size W2 W → W.cell? ⟨W1.heap.size, q, none⟩ = some (.int .u8 (kindA x)) := fun W hW => kind_cell hqx (hW.other hK2 (by decide))
              repeat (first | (refine wpPre_take (v := ?_) rfl rfl rfl (fun W hW => ?_) ?_; rotate_left; (focus (go_simp; with_reducible rfl)); simp only [Act.put, List.setIfInBounds_toArray, List.set_cons_succ, List.set_cons_zero]) | (refine wpPre_skip rfl rfl ?_; simp only [Act.put, List.setIfInBounds_toArray, List.set_cons_succ, List.set_cons_zero]))
              refine wpPre_nil ?_
              refine pieces_pre (AddsT.refl _ _) AddsT.trans (by kernel_rfl) (fun d _ _ _ _ h => by cases d <;> exact h) _ 2 [4] [4] _ _ _ (by kernel_rfl) ?_
              refine wpPre_call rfl rfl rfl ?_
              go_simp
              refine (HP _).mono ?_
              rintro e W3 ⟨rfl, hb3⟩
              have HB3 := Lib.hid (HB2.out.trans (hb3.mono HB2.out.size))
              have hK3 := (hb3.block _ (Array.getElem?_eq_some_iff.1 hK2).1).trans hK2
              have hN3 := (hb3.block _ (Array.getElem?_eq_some_iff.1 hN2).1).trans hN2
              refine ⟨AddsT.below hb3 HB2.out.size, ?_⟩
              refine wpPre_nil ?_
              refine pieces_pre (AddsT.refl _ _) AddsT.trans (by kernel_rfl) (fun d _ _ _ _ h => by cases d <;> exact h) _ 1 [] [14] _ _ _ (by kernel_rfl) ?_
              have uc : ∀ W, AddsT 31 wr.heap.size W3 W → W.cell? (ad.add k) = some (.int .u8 x) := fun W hW => HC W (HR.out.trans ((HB3.out.trans hW.1).mono HR.out.size))
              repeat (first | (refine wpPre_take (v := ?_) rfl rfl rfl (fun W hW => ?_) ?_; rotate_left; (focus (go_simp; with_reducible rfl)); simp only [Act.put, List.setIfInBounds_toArray, List.set_cons_succ, List.set_cons_zero]) | (refine wpPre_skip rfl rfl ?_; simp only [Act.put, List.setIfInBounds_toArray, List.set_cons_succ, List.set_cons_zero]))
              refine wpPre_nil ?_
              refine pieces_pre (AddsT.refl _ _) AddsT.trans (by kernel_rfl) (fun d _ _ _ _ h => by cases d <;> exact h) _ 0 [16] [16] _ _ _ (by kernel_rfl) ?_
              obtain ⟨d0, d1, d2, d3⟩ := node_cells hN3
              obtain ⟨e0, e1, e2, e3⟩ := node_frozen hN3
              refine wpPre_call rfl rfl rfl ?_
              go_simp
              obtain ⟨r1, r2, r3⟩ := node_stored hN3 (.string ⟨(pathOf x).toArray⟩) (.int .u8 (kindA x)) (.slice none 0 0) (.string ⟨#[]⟩)
              refine ⟨r2 _ hNle, ?_⟩
              refine wpPre_nil ?_
              refine wpAnyB_end _ _ _ (by kernel_rfl) ?_
              go_wp2_with fail
              go_meet
              exact ⟨_, rfl, hNle, r1, r3 _ _ HB3.out hNle⟩
        case rest =>
          obtain ⟨g, rfl, hgle, hg, hbc⟩ := hcut
          have HCC : ∀ W, Below wr.heap.size wr W → W.cell? (ad.add k) = some (.int .u8 x) := fun W hW => HC W (HR.out.trans (hW.mono HR.out.size))
          have HLL := Lib.hid hL
          have HOO := Lib.hid ho
          clear hL ho HC HP hck
          go_upto_region 6 with fail
          obtain ⟨d0, d1, d2, d3⟩ := node_cells hg
          go_cut [40] from 8 to 93 (fun t wx => t = .bool (pathOf x == [97] || pathOf x == [97, 47, 98]) ∧ wx = wc)
          case first =>
            by_cases h1 : pathOf x = [97]
            · have h1b : (pathOf x == [97]) = true := by simpa using h1
              go_wp2_with fail
              go_meet
              exact ⟨by simp [h1b], rfl⟩
            · have h1b : (pathOf x == [97]) = false := by simpa using h1
              by_cases h2 : pathOf x = [97, 47, 98]
              · have h2b : (pathOf x == [97, 47, 98]) = true := by simpa using h2
                go_wp2_with fail
                go_meet
                exact ⟨by simp [h2b], rfl⟩
              · have h2b : (pathOf x == [97, 47, 98]) = false := by simpa using h2
                go_wp2_with fail
                go_meet
                exact ⟨by simp [h1b, h2b], rfl⟩
          case rest =>
          obtain ⟨rfl, rfl⟩ := hcut
          have hkd : kindOf x = if (pathOf x == [97] || pathOf x == [97, 47, 98]) = true then kindB x else kindA x := by
            unfold kindOf
            simp only [Bool.or_eq_true, beq_iff_eq]
          generalize (pathOf x == [97] || pathOf x == [97, 47, 98]) = bA at hkd ⊢
          clear d0 d1 d2 d3
          go_upto_if 40 with fail
          go_cut [] from 8 to 93 (fun wx => wx.heap[g]? = some (.cells #[.string ⟨(pathOf x).toArray⟩, .int .u8 (kindOf x), .slice none 0 0, .string ⟨#[]⟩] 31 (0, 0)) ∧ Below wr.heap.size wr wx)
          case first =>
            cases bA with
            | false =>
              go_wp2_with fail
              go_meet
              rw [hkd]
              exact ⟨hg, hbc⟩
            | true =>
              have hgl : g < wc.heap.size := (Array.getElem?_eq_some_iff.1 hg).1
              obtain ⟨W1, hW1⟩ : ∃ W, W = wc.alloc (.cells #[.int .u8 53, .int .u8 53, .int .u8 50, .int .u8 53] 5) := ⟨_, rfl⟩
              have hb1 : Below wc.heap.size wc W1 := by rw [hW1]; exact (Below.refl _ _).alloc (Nat.le_refl _) _
              have hB1 : Below wr.heap.size wr W1 := hbc.trans (hb1.mono hbc.size)
              have hg1 := (hb1.block g hgl).trans hg
              have hk1 : W1.cell? ⟨wc.heap.size, q, none⟩ = some (.int .u8 (kindB x)) := kindB_cell hqx (by rw [hW1]; exact heap_alloc_new _ _)
              obtain ⟨d0, d1, d2, d3⟩ := node_cells hg1
              obtain ⟨e0, e1, e2, e3⟩ := node_frozen hg1
              have hc1 := HCC W1 hB1
              have hm := heap_setCell_same _ g 1 _ 31 (.int .u8 (kindB x)) hg
              have hm2 : ((wc.setCell ⟨g, 1, none⟩ (.int .u8 (kindB x))).alloc (.cells #[.int .u8 53, .int .u8 53, .int .u8 50, .int .u8 53] 5)).heap[g]? = some (.cells #[.string ⟨(pathOf x).toArray⟩, .int .u8 (kindB x), .slice none 0 0, .string ⟨#[]⟩] 31 (0, 0)) := by
                rw [Below.heap_alloc _ _ _ (by simpa [World.setCell] using hgl)]
                exact hm
              have hB2 : Below wr.heap.size wr ((wc.setCell ⟨g, 1, none⟩ (.int .u8 (kindB x))).alloc (.cells #[.int .u8 53, .int .u8 53, .int .u8 50, .int .u8 53] 5)) := (hbc.setCell (p := ⟨g, 1, none⟩) hgle _).alloc (by have := hbc.size; simpa [World.setCell] using this) _
              rw [hW1] at hk1 d0 d1 d2 d3 e0 e1 e2 e3 hc1
              clear hW1 hb1 hB1 hg1
              have HM := Lib.hid hm2
              have HB2 := Lib.hid hB2
              clear hm hm2 hB2
              go_wp2_with fail
              go_meet
              rw [hkd, if_pos trivial]
              exact ⟨HM.out, HB2.out⟩
          case rest =>
          obtain ⟨hg2, hb2⟩ := hcut
          clear hkd hg hbc
          generalize hK : kindOf x = K at hg2
          obtain ⟨d0, d1, d2, d3⟩ := node_cells hg2
          go_upto_if 53 with fail
          go_cut [] from 8 to 93 (fun wx => ∃ A l c, wx.heap[g]? = some (.cells #[.string ⟨(pathOf x).toArray⟩, .int .u8 K, .slice A l c, .string ⟨#[]⟩] 31 (0, 0)) ∧ Rd wx .u8 A l (if K = 48 then [x] else []) ∧ l ≤ c ∧ l ≤ 1 ∧ Below wr.heap.size wr wx)
          case first =>
            by_cases h48 : K = 48
            · have h48b : (K == 48) = true := by simpa using h48
              have hgl : g < wc.heap.size := (Array.getElem?_eq_some_iff.1 hg2).1
              have hc1 := HCC wc hb2
              obtain ⟨e0, e1, e2, e3⟩ := node_frozen hg2
              have hm := heap_setCell_same _ g 2 _ 31 (.slice (some ⟨wc.heap.size, 0, none⟩) 1 1) hg2
              have hzs : (wc.setCell ⟨g, 2, none⟩ (.slice (some ⟨wc.heap.size, 0, none⟩) 1 1)).heap.size = wc.heap.size := by simp [World.setCell]
              have hm2 : ((wc.setCell ⟨g, 2, none⟩ (.slice (some ⟨wc.heap.size, 0, none⟩) 1 1)).alloc (.cells #[.int .u8 x] 5)).heap[g]? = some (.cells #[.string ⟨(pathOf x).toArray⟩, .int .u8 K, .slice (some ⟨wc.heap.size, 0, none⟩) 1 1, .string ⟨#[]⟩] 31 (0, 0)) := by
                rw [Below.heap_alloc _ _ _ (by rw [hzs]; exact hgl)]
                exact hm
              have hB2 : Below wr.heap.size wr ((wc.setCell ⟨g, 2, none⟩ (.slice (some ⟨wc.heap.size, 0, none⟩) 1 1)).alloc (.cells #[.int .u8 x] 5)) := (hb2.setCell (p := ⟨g, 2, none⟩) hgle _).alloc (by rw [hzs]; exact hb2.size) _
              have hn2 := heap_alloc_new (wc.setCell ⟨g, 2, none⟩ (.slice (some ⟨wc.heap.size, 0, none⟩) 1 1)) (.cells #[.int .u8 x] 5)
              rw [hzs] at hn2
              have hR2 := (cell_of hn2).1
              have HM := Lib.hid hm2
              have HB2 := Lib.hid hB2
              have HR2 := Lib.hid hR2
              clear hm hm2 hB2 hn2 hR2 hzs
              go_wp2_with fail
              go_meet
              refine ⟨_, _, _, HM.out, ⟨by simp [h48], fun j hj => ?_⟩, by decide, by decide, HB2.out⟩
              obtain rfl : j = 0 := by omega
              refine ⟨_, rfl, ?_⟩
              simp only [h48, if_pos]
              exact HR2.out
            · have h48b : (K == 48) = false := by simpa using h48
              go_wp2_with fail
              go_meet
              rw [if_neg h48]
              exact ⟨_, _, _, hg2, ⟨rfl, fun j hj => absurd hj (Nat.not_lt_zero _)⟩, Nat.le_refl _, by omega, hb2⟩
          case rest =>
          obtain ⟨A1, l1, c1, hg3, hrd, hlc, hl1, hb3⟩ := hcut
          clear hg2 hb2 d0 d1 d2 d3
          obtain ⟨d0, d1, d2, d3⟩ := node_cells hg3
          obtain ⟨e0, e1, e2, e3⟩ := node_frozen hg3
          go_upto_if 62 with fail
          go_cut [] from 8 to 93 (fun wx => ∃ y : Nd, wx.heap[g]? = some (.cells y.cells.toArray 31 (0, 0)) ∧ NdAt wx y (nodeOf x) ∧ Below wr.heap.size wr wx)
          case first =>
            by_cases h50 : K = 50
            · have h50b : (K == 50) = true := by simpa using h50
              have hm := heap_setCell_same _ g 3 _ 31 (.string ⟨#[97]⟩) hg3
              have hB2 : Below wr.heap.size wr (wc.setCell ⟨g, 3, none⟩ (.string ⟨#[97]⟩)) := hb3.setCell (p := ⟨g, 3, none⟩) hgle _
              have hR2 : Rd (wc.setCell ⟨g, 3, none⟩ (.string ⟨#[97]⟩)) .u8 A1 l1 (if K = 48 then [x] else []) := by
                rw [h50] at hrd ⊢
                have h0 : l1 = 0 := hrd.1.symm
                subst h0
                exact ⟨rfl, fun j hj => absurd hj (Nat.not_lt_zero _)⟩
              have HM := Lib.hid hm
              have HB2 := Lib.hid hB2
              have HR2 := Lib.hid hR2
              clear hm hB2 hR2
              go_wp2_with fail
              go_meet
              exact ⟨⟨pathOf x, K, A1, l1, c1, [97]⟩, HM.out, ⟨rfl, hK.symm, by simp [nodeOf, hK, h50], by simp only [nodeOf, hK]; exact HR2.out, hlc, Nat.le_trans hl1 (by decide)⟩, HB2.out⟩
            · have h50b : (K == 50) = false := by simpa using h50
              go_wp2_with fail
              go_meet
              exact ⟨⟨pathOf x, K, A1, l1, c1, []⟩, hg3, ⟨rfl, hK.symm, by simp [nodeOf, hK, h50], by simp only [nodeOf, hK]; exact hrd, hlc, Nat.le_trans hl1 (by decide)⟩, hb3⟩
          case rest =>
          obtain ⟨y, hgy, hyn, hb4⟩ := hcut
          clear hg3 hrd hb3 d0 d1 d2 d3 e0 e1 e2 e3 hlc hl1
          obtain ⟨d0, d1, d2, d3⟩ := node_cells hgy
          obtain ⟨i0, hi, hz0, hz1, hz2⟩ := info_parts Try.info31
          have hyp : y.path = pathOf x := hyn.1
          rw [hyp] at d0
          have hpl : (pathOf x).length ≤ 1000 := by
            have h1 := paths_hold
            rw [List.all_eq_true] at h1
            have h2 := h1 _ (path_mem x)
            simp only [Bool.and_eq_true, decide_eq_true_eq] at h2
            exact h2.1
          have HU := fun w => refUp_any (pathOf x) (by omega) w
          have hB4 : Below w.heap.size w wc := HR.out.trans (hb4.mono HR.out.size)
          have hOc := own_below HOO.out hb4
          have hLc := HLL.out.below hb4
          obtain ⟨A5, c5, rfl⟩ := own_form hOc
          have hF : ∀ W, Below wc.heap.size wc W → Calls Try.prog 32 #[.slice A5 ns.length c5, .string ⟨(upL (pathOf x)).toArray⟩] W fun e w' => ∃ z : Nd, e = .returned (.tuple #[.agg z.cells.toArray, .bool (findL (treeL (bs.take k)) (upL (pathOf x))).2]) ∧ NdAt w' z (findL (treeL (bs.take k)) (upL (pathOf x))).1 ∧ Below W.heap.size W w' := fun W hW =>
            refFind_any _ ((own_nodes hOc).2.below hW) (hLc.below hW) rfl (by omega)
          have HCC4 : ∀ W, Below wc.heap.size wc W → W.cell? (ad.add k) = some (.int .u8 x) := fun W hW => HCC W (hb4.trans (hW.mono hb4.size))
          have hstep : treeL (bs.take (k + 1)) = treeStep (treeL (bs.take k)) x := treeL_snoc h14 hx
          have HST := Lib.hid hstep; clear hstep HCC
          have HGY := Lib.hid hgy; have HYN := Lib.hid hyn; have HB4 := Lib.hid hB4; have HOC := Lib.hid hOc; have HLC := Lib.hid hLc
          clear hgy hyn hyp hB4 hOc hLc hb4 HLL HOO HR
          have hgl : g < wc.heap.size := (Array.getElem?_eq_some_iff.1 HGY.out).1
          unfold Nd.cells at hF
          unfold treeStep at HST
          generalize findL (treeL (bs.take k)) (upL (pathOf x)) = fd at HST hF
          obtain ⟨fs, fb⟩ := fd
          dsimp only at HST hF
          go_upto_region 13 with (first | (go_at_call 21; refine (HU _).mono ?_; rintro e w5 ⟨rfl, hb5⟩) | (go_at_call 32; refine (hF _ hb5).mono ?_; rintro e w6 ⟨z, rfl, hz, hb6⟩))
          obtain ⟨W7, hW7⟩ : ∃ W, W = w6.alloc (.cells #[.string ⟨z.path.toArray⟩, .int .u8 z.kind, .slice z.adr z.len z.cap, .string ⟨z.link.toArray⟩] 31) := ⟨_, rfl⟩
          rw [← hW7]
          have hz7 : W7.heap[w6.heap.size]? = some (.cells #[.string ⟨z.path.toArray⟩, .int .u8 z.kind, .slice z.adr z.len z.cap, .string ⟨z.link.toArray⟩] 31 (0, 0)) := by rw [hW7]; exact heap_alloc_new _ _
          have hb7 : Below wc.heap.size wc W7 := by rw [hW7]; exact (hb5.trans (hb6.mono hb5.size)).alloc (by have := hb5.size; have := hb6.size; omega) _
          clear hW7
          have hkz2 : fs.kind = z.kind := hz.2.1.symm
          rw [hkz2] at HST
          clear hz hkz2 hF hb5
          generalize w6.heap.size = g6 at hz7 ⊢
          have hgy7 := (hb7.block g hgl).trans HGY.out
          have hc7 := HCC4 W7 hb7
          have HY7 := Lib.hid (HYN.out.below hb7)
          have HB7 := Lib.hid (HB4.out.trans (hb7.mono HB4.out.size))
          have HO7 := Lib.hid (own_below HOC.out hb7)
          have HL7 := Lib.hid (HLC.out.below hb7)
          have HGG := Lib.hid hgy7
          obtain ⟨v0, v1, v2, v3⟩ := node_cells hz7
          have hyp : y.path = pathOf x := HY7.out.1
          unfold Nd.cells at hgy7
          obtain ⟨d0, d1, d2, d3⟩ := node_cells hgy7
          have d0' := d0
          rw [hyp] at d0
          clear hb6 hb7 hz7 hgy7 HCC4 HYN HB4 HOC HLC
          generalize z.kind = zk at HST v1
          clear v0 v2 v3
          go_cut [90] from 8 to 93 (fun t wx => t = .bool (decide (pathOf x = [] ∨ (x < 250 ∧ (fb = false ∨ zk ≠ 53)))) ∧ wx = W7)
          case first =>
            by_cases hp0 : pathOf x = []
            · rw [hp0] at d0
              go_wp2_with fail
              go_meet
              exact ⟨by simp [hp0], rfl⟩
            · have he0 := emp hp0
              have hp0b : (pathOf x == []) = false := by simpa using hp0
              by_cases h250 : x < 250
              · cases fb with
                | false =>
                  go_wp2_with fail
                  go_meet
                  exact ⟨by simp [h250], rfl⟩
                | true =>
                  by_cases h53 : zk = 53
                  · have h53b : (zk == 53) = true := by simpa using h53
                    have h53c : (zk != 53) = false := by simpa using h53
                    go_wp2_with fail
                    go_meet
                    exact ⟨by simp [hp0, h53], rfl⟩
                  · have h53b : (zk == 53) = false := by simpa using h53
                    have h53c : (zk != 53) = true := by simpa using h53
                    go_wp2_with fail
                    go_meet
                    exact ⟨by simp [h250, h53], rfl⟩
              · go_wp2_with fail
                go_meet
                exact ⟨by simp [hp0]; intro h; omega, rfl⟩
          case rest =>
          obtain ⟨rfl, rfl⟩ := hcut
          have HST2 := HST.out
          clear HST
          by_cases hsk : pathOf x = [] ∨ (x < 250 ∧ (fb = false ∨ zk ≠ 53))
          · rw [if_pos hsk] at HST2
            rw [decide_eq_true hsk]
            have HST := Lib.hid HST2
            clear HST2 hsk d0 d0' d1 d2 d3 hc7 v1
            go_wp2_with fail
            go_roundw
            case rel => exact ⟨k + 1, ns, by omega, by omega, by go_num, HO7.out, by omega, by rw [HST.out]; exact HL7.out, HB7.out⟩
            case measure => simp [intOf]; omega
          · rw [if_neg hsk] at HST2
            rw [decide_eq_false hsk]
            have HST := Lib.hid HST2
            clear HST2 hsk
            have HPUT := refPut_any (c := c5) (A := A5) y (own_nodes HO7.out).2 rfl (by omega)
            unfold Nd.cells at HPUT
            rw [hyp] at HPUT
            clear d0' hc7 v1 hyp
            go_wp2_with (go_at_call 27; refine HPUT.mono ?_; rintro e w8 ⟨v8, m8, rfl, ho8, hb8⟩; obtain ⟨A8, c8, rfl⟩ := own_form ho8; have hm8 := (own_nodes ho8).1; subst hm8; have ho8' := own_wider ho8 HB7.out.size)
            go_roundw
            case rel =>
              have hL8 := like_put (HY7.out.below hb8) (HL7.out.below hb8)
              exact ⟨k + 1, _, by omega, by omega, by go_num, ho8', by have := putG_len Nd.path y ns; omega, by rw [HST.out]; exact hL8, HB7.out.trans (hb8.mono HB7.out.size)⟩
            case measure => simp [intOf]; omega
      · obtain rfl : k = 14 := by omega
        have hT : treeL (bs.take 14) = treeL bs := by unfold treeL; rw [List.take_take]; rfl
        have h14z : ¬ ((14 : Nat) : Int) < 14 := by omega
        have HO := Lib.hid ho
        clear ho
        go_wp2_with fail
        go_ret
        rw [hT] at hL
        first | exact ⟨_, rfl, _, ns, HO.out, hL, hb⟩ | exact ⟨_, _, ns, rfl, HO.out, hL, hb⟩
    · obtain rfl : k = n := by omega
      have hT : treeL (bs.take k) = treeL bs := by rw [List.take_of_length_le (by have := h.1; omega)]
      have HO := Lib.hid ho
      clear ho
      go_wp2_with fail
      go_ret
      rw [hT] at hL
      first | exact ⟨_, rfl, _, ns, HO.out, hL, hb⟩ | exact ⟨_, _, ns, rfl, HO.out, hL, hb⟩

end Go.Proofs.Ytlbipmlbkcdmnaa

/-
  Trees of choices: no path twice; how many are below, are it, and are else.
-/
namespace Go.Proofs.Ytlbipmlbkcdmnaa
open Go.RowKit Go.Shelf

/-- No path twice. -/
def Once (ss : List Sn) : Prop := (ss.map Sn.path).Nodup

theorem putG_mem {x : Sn} {p : List UInt8} : ∀ {ss : List Sn}, p ∈ (putG Sn.path x ss).map Sn.path → p = x.path ∨ p ∈ ss.map Sn.path
  | [], h => by simp [putG] at h; exact .inl h
  | y :: r, h => by
    rw [putG] at h
    split at h
    · rcases putG_mem h with h | h
      · exact .inl h
      · exact .inr (by simp only [List.map_cons, List.mem_cons]; exact .inr h)
    · split at h
      · simp only [List.map_cons, List.mem_cons] at h
        rcases h with h | h | h
        · exact .inl h
        · exact .inr (by simp [h])
        · right
          obtain ⟨z, hz, rfl⟩ := List.mem_map.1 h
          exact List.mem_map.2 ⟨z, List.mem_cons_of_mem _ ((List.mem_filter.1 hz).1), rfl⟩
      · simp only [List.map_cons, List.mem_cons] at h
        rcases h with h | h
        · exact .inr (by simp [h])
        · rcases putG_mem h with h | h
          · exact .inl h
          · exact .inr (by simp only [List.map_cons, List.mem_cons]; exact .inr h)

theorem Once.put (x : Sn) : ∀ {ss : List Sn}, Once ss → Once (putG Sn.path x ss)
  | [], _ => by simp [Once, putG]
  | y :: r, h => by
    unfold Once at h
    rw [List.map_cons, List.nodup_cons] at h
    have ih := Once.put x (ss := r) h.2
    rw [putG]
    split
    · exact ih
    · rename_i hne
      have hyx : ¬ y.path = x.path := by simpa using hne
      split
      · unfold Once
        rw [List.map_cons, List.map_cons, List.nodup_cons, List.nodup_cons]
        refine ⟨?_, ?_, ?_⟩
        · intro hm
          rcases List.mem_cons.1 hm with hm | hm
          · exact hyx hm.symm
          · obtain ⟨z, hz, e⟩ := List.mem_map.1 hm
            have := (List.mem_filter.1 hz).2
            simp [e] at this
        · intro hm
          obtain ⟨z, hz, e⟩ := List.mem_map.1 hm
          exact h.1 (List.mem_map.2 ⟨z, (List.mem_filter.1 hz).1, e⟩)
        · exact List.Nodup.sublist (List.Sublist.map _ List.filter_sublist) h.2
      · unfold Once
        rw [List.map_cons, List.nodup_cons]
        refine ⟨fun hm => ?_, ih⟩
        rcases putG_mem hm with hm | hm
        · exact hyx hm
        · exact h.1 hm

theorem Once.step {ss : List Sn} (h : Once ss) (b : Int) : Once (treeStep ss b) := by
  unfold treeStep
  split
  · exact h
  · exact h.put _
theorem Once.tree (bs : List Int) : Once (treeL bs) := by
  unfold treeL
  have : ∀ (l : List Int) (t : List Sn), Once t → Once (l.foldl treeStep t) := by
    intro l
    induction l with
    | nil => intro t h; exact h
    | cons b r ih => intro t h; exact ih _ (h.step b)
  exact this _ _ (by simp [Once])

theorem putG_bound {x : Sn} {m : Nat} (hx : x.path.length ≤ m) {ss : List Sn} (h : ∀ s ∈ ss, s.path.length ≤ m) : ∀ s ∈ putG Sn.path x ss, s.path.length ≤ m := by
  intro s hs
  rcases putG_mem (List.mem_map.2 ⟨s, hs, rfl⟩) with e | e
  · rw [e]; exact hx
  · obtain ⟨z, hz, e⟩ := List.mem_map.1 e
    rw [← e]; exact h z hz

theorem path_short (k : Int) : (pathOf k).length ≤ 1000 := by
  have h1 := paths_hold
  rw [List.all_eq_true] at h1
  have h2 := h1 _ (path_mem k)
  simp only [Bool.and_eq_true, decide_eq_true_eq] at h2
  exact h2.1

theorem tree_short (bs : List Int) : ∀ s ∈ treeL bs, s.path.length ≤ 1000 := by
  unfold treeL
  have : ∀ (l : List Int) (t : List Sn), (∀ s ∈ t, s.path.length ≤ 1000) → ∀ s ∈ l.foldl treeStep t, s.path.length ≤ 1000 := by
    intro l
    induction l with
    | nil => intro t h; exact h
    | cons b r ih =>
      intro t h
      refine ih _ ?_
      unfold treeStep
      split
      · exact h
      · exact putG_bound (path_short b) h
  exact this _ _ (by simp)

theorem tree_len (bs : List Int) : (treeL bs).length ≤ 14 := by
  unfold treeL
  have : ∀ (l : List Int) (t : List Sn), (l.foldl treeStep t).length ≤ t.length + l.length := by
    intro l
    induction l with
    | nil => intro t; simp
    | cons b r ih =>
      intro t
      have h1 := ih (treeStep t b)
      have h2 : (treeStep t b).length ≤ t.length + 1 := by
        unfold treeStep
        split
        · omega
        · exact putG_len _ _ _
      simp only [List.foldl_cons, List.length_cons]
      omega
  have h := this (bs.take 14) []
  simp at h
  omega

theorem under_self (p : List UInt8) (hp : p ≠ []) : underL p p = false := by
  unfold underL
  simp [hp]

theorem find_isSome {ss : List Sn} {p : List UInt8} (hp : p ≠ []) : (findL ss p).2 = (ss.any fun s => s.path == p) := by
  unfold findL
  rw [if_neg hp]
  cases hf : ss.find? (fun t => t.path == p) with
  | none =>
    rw [List.find?_eq_none] at hf
    simp only [Bool.false_eq, List.any_eq_false]
    exact hf
  | some t =>
    have h1 := List.find?_some hf
    have h2 := List.mem_of_find?_eq_some hf
    simp only [Bool.true_eq, List.any_eq_true]
    exact ⟨t, h2, h1⟩

theorem none_of_notin {p : List UInt8} : ∀ {r : List Sn}, p ∉ r.map Sn.path → (r.any fun s => s.path == p) = false := by
  intro r h
  rw [List.any_eq_false]
  intro z hz e
  exact h (List.mem_map.2 ⟨z, hz, by simpa using e⟩)

/-- What is below, what is it, what is else. -/
theorem parts (p : List UInt8) (hp : p ≠ []) : ∀ {ss : List Sn}, Once ss →
    (ss.filter fun s => belowL s.path p).length + (if (findL ss p).2 = true then 1 else 0) + (ss.filter fun s => !(s.path == p || belowL s.path p)).length = ss.length := by
  intro ss
  rw [find_isSome hp]
  induction ss with
  | nil => intro _; rfl
  | cons y r ih =>
    intro h
    unfold Once at h
    rw [List.map_cons, List.nodup_cons] at h
    have hr := ih h.2
    rw [List.filter_cons, List.filter_cons, List.any_cons]
    by_cases he : y.path = p
    · have h1 : (y.path == p) = true := by simpa using he
      have h2 : belowL y.path p = false := by rw [below_under, he]; exact under_self p hp
      have h3 : (r.any fun s => s.path == p) = false := none_of_notin (by rw [← he]; exact h.1)
      rw [h3] at hr
      rw [h1, h2, h3]
      simp at hr ⊢
      omega
    · have h1 : (y.path == p) = false := by simpa using he
      rw [h1]
      cases h2 : belowL y.path p with
      | true =>
        simp at hr ⊢
        omega
      | false =>
        simp at hr ⊢
        omega

theorem all_below (ss : List Sn) : (ss.filter fun s => belowL s.path []) = ss := by
  rw [List.filter_eq_self]
  intro s _
  rfl

theorem own_none {w : World} {B : Nat} {e : TypeId} {size : Nat} {A : Option Addr} {n c : Nat} {xs : List Value} (h : w.ownsRow B e size (.slice A n c) n xs) (hA : A = none) : n = 0 := by
  rcases h.2 with ⟨_, h0⟩ | ⟨g, cap, cur, hv, _⟩
  · exact h0
  · rw [hA] at hv
    injection hv with h1 _ _
    cases h1

end Go.Proofs.Ytlbipmlbkcdmnaa

/-
  The walk of the law TreeParts.
-/
namespace Go.Proofs.Ytlbipmlbkcdmnaa
open Go.RowKit Go.Shelf

set_option maxRecDepth 100000 in
set_option maxHeartbeats 1000000 in
theorem parts_walk {A : Option Addr} {n c : Nat} {bs : List Int} {k : Int} (w : World) (h : Rd w .u8 A n bs) (hr : ∀ x ∈ bs, 0 ≤ x ∧ x < 256) (hn : n ≤ 9223372036854775807) (hk0 : 0 ≤ k) (hk : k < 256) :
    Calls Try.prog 7 #[.slice A n c, .int .u8 k] w fun e w' => e = .returned (.bool true) ∧ Below w.heap.size w w' := by
  have HT := tree_any (c := c) h hr hn
  have HP := fun w => path_any k w hk0 hk
  have hps := path_short k
  have hOnce := Once.tree bs
  have hlen := tree_len bs
  clear h hr
  generalize treeL bs = t at HT hOnce hlen
  generalize pathOf k = p at HP hps
  go_enter Try.func7, Try.ntmps7
  go_wp2_with fail
  refine HT.mono ?_
  rintro e w1 ⟨v, m, ns, rfl, ho, hL, hb1⟩
  obtain ⟨A1, c1, rfl⟩ := own_form ho
  obtain ⟨hm, hN⟩ := own_nodes ho
  have hnil := own_none ho
  have HMT := Lib.hid (show m = t.length by rw [hm]; exact hL.1)
  have HM := Lib.hid hm
  clear hm
  go_wp2_with fail
  refine (HP _).mono ?_
  rintro e w2 ⟨rfl, hb2⟩
  have hN2 := hN.below hb2
  have hL2 := hL.below hb2
  have hB2 := hb1.trans (hb2.mono hb1.size)
  have HB2 := Lib.hid hB2
  clear ho hN hL hb1 hb2 hB2
  have HBL : ∀ W, Below w2.heap.size w2 W → Calls Try.prog 34 #[.slice A1 m c1, .string ⟨p.toArray⟩] W fun e w' => ∃ A5 c5, e = .returned (.slice A5 (t.filter fun s => belowL s.path p).length c5) ∧ Below W.heap.size W w' := fun W hW =>
    (below_any p (by omega) (hN2.below hW) (hL2.below hW) HM.out (by have := HMT.out; omega) hnil).mono (by
      rintro e w' ⟨v5, m5, ms5, rfl, ho5, hL5, hb5⟩
      obtain ⟨A5, c5, rfl⟩ := own_form ho5
      obtain ⟨hm5, _⟩ := own_nodes ho5
      exact ⟨A5, c5, by rw [hm5, hL5.1], hb5⟩)
  have HRM : ∀ W, Below w2.heap.size w2 W → Calls Try.prog 28 #[.slice A1 m c1, .string ⟨p.toArray⟩] W fun e w' => ∃ A5 c5, e = .returned (.slice A5 (t.filter fun s => !(s.path == p || belowL s.path p)).length c5) ∧ Below W.heap.size W w' := fun W hW =>
    (remove_any p (by omega) (hN2.below hW) (hL2.below hW) HM.out (by have := HMT.out; omega) hnil).mono (by
      rintro e w' ⟨v5, m5, ms5, rfl, ho5, hL5, hb5⟩
      obtain ⟨A5, c5, rfl⟩ := own_form ho5
      obtain ⟨hm5, _⟩ := own_nodes ho5
      exact ⟨A5, c5, by rw [hm5, hL5.1], hb5⟩)
  have HFD : ∀ W, Below w2.heap.size w2 W → Calls Try.prog 35 #[.slice A1 m c1, .string ⟨p.toArray⟩] W fun e w' => ∃ y : Nd, e = .returned (.tuple #[.agg y.cells.toArray, .bool (findL t p).2]) ∧ Below W.heap.size W w' := fun W hW =>
    (find_any p (hN2.below hW) (hL2.below hW) HM.out (by have := HMT.out; omega)).mono (by
      rintro e w' ⟨y, rfl, _, hb5⟩
      exact ⟨y, rfl, hb5⟩)
  clear hN2 hL2 hnil
  by_cases hp : p = []
  · subst hp
    rw [all_below, ← HMT.out] at HBL
    go_wp2_with (first | (go_at_call 17; refine (known_any _).mono ?_; rintro e w3 ⟨rfl, hb3⟩) | (go_at_call 34; refine (HBL _ hb3).mono ?_; rintro e w4 ⟨A5, c5, rfl, hb4⟩))
    go_ret
    exact ⟨rfl, HB2.out.trans ((hb3.trans (hb4.mono hb3.size)).mono HB2.out.size)⟩
  · have he := emp hp
    have hpb : (p == []) = false := by simpa using hp
    have hpt := parts p hp hOnce
    rw [← HMT.out] at hpt
    have hm14 : m ≤ 14 := by have := HMT.out; omega
    have h1 : (t.filter fun s => belowL s.path p).length ≤ 14 := by omega
    have h2 : (t.filter fun s => !(s.path == p || belowL s.path p)).length ≤ 14 := by omega
    generalize (t.filter fun s => belowL s.path p).length = x1 at hpt h1 HBL
    generalize (t.filter fun s => !(s.path == p || belowL s.path p)).length = x2 at hpt h2 HRM
    clear hOnce hpb
    unfold Nd.cells at HFD
    cases hf : (findL t p).2 with
    | true =>
      rw [hf] at hpt HFD
      rw [if_pos rfl] at hpt
      have hq : ((x1 : Int) + 1 + (x2 : Int) == (m : Int)) = true := by simp; omega
      have HPT := Lib.hid hpt; clear hpt hf
      go_wp2_with (first
        | (go_at_call 35; refine (HFD _ (Below.refl _ _)).mono ?_; rintro e w3 ⟨y, rfl, hb3⟩)
        | (go_at_call 17; refine (known_any _).mono ?_; rintro e w4 ⟨rfl, hb4⟩; have hB4 := (hb3.alloc hb3.size _).trans (hb4.mono (by have := hb3.size; simp; omega)))
        | (go_at_call 34; refine (HBL _ hB4).mono ?_; rintro e w5 ⟨A5, c5, rfl, hb5⟩; have hB5 := hB4.trans (hb5.mono hB4.size))
        | (go_at_call 28; refine (HRM _ hB5).mono ?_; rintro e w6 ⟨A6, c6, rfl, hb6⟩; have hB6 := hB5.trans (hb6.mono hB5.size)))
      go_ret
      exact ⟨rfl, HB2.out.trans (hB6.mono HB2.out.size)⟩
    | false =>
      rw [hf] at hpt HFD
      rw [if_neg (by decide)] at hpt
      have hq : ((x1 : Int) + (x2 : Int) == (m : Int)) = true := by simp; omega
      have HPT := Lib.hid hpt; clear hpt hf
      go_wp2_with (first
        | (go_at_call 35; refine (HFD _ (Below.refl _ _)).mono ?_; rintro e w3 ⟨y, rfl, hb3⟩)
        | (go_at_call 17; refine (known_any _).mono ?_; rintro e w4 ⟨rfl, hb4⟩; have hB4 := (hb3.alloc hb3.size _).trans (hb4.mono (by have := hb3.size; simp; omega)))
        | (go_at_call 34; refine (HBL _ hB4).mono ?_; rintro e w5 ⟨A5, c5, rfl, hb5⟩; have hB5 := hB4.trans (hb5.mono hB4.size))
        | (go_at_call 28; refine (HRM _ hB5).mono ?_; rintro e w6 ⟨A6, c6, rfl, hb6⟩; have hB6 := hB5.trans (hb6.mono hB5.size)))
      go_ret
      exact ⟨rfl, HB2.out.trans (hB6.mono HB2.out.size)⟩

end Go.Proofs.Ytlbipmlbkcdmnaa
