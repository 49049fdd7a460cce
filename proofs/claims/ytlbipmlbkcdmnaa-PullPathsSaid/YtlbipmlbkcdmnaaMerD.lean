/-
  The document's Put.
-/
import Derived.Test.YtlbipmlbkcdmnaaMerC
import Derived.Laws.Cover1
namespace Go.Proofs.Ytlbipmlbkcdmnaa
open Go.RowKit Go.Shelf

def gtL (a b : List UInt8) : Bool := !(Op.bytesLess a b || a == b)

/-- One more in its place, or in place of one. -/
def putG {α : Type} (pa : α → List UInt8) (x : α) : List α → List α
  | [] => [x]
  | y :: r => if pa y == pa x then putG pa x r else if gtL (pa y) (pa x) then x :: y :: r.filter (fun z => !(pa z == pa x)) else y :: putG pa x r

theorem putG_len {α : Type} (pa : α → List UInt8) (x : α) (l : List α) : (putG pa x l).length ≤ l.length + 1 := by
  induction l with
  | nil => simp [putG]
  | cons y r ih =>
    unfold putG
    split
    · simp; omega
    · split
      · have := List.length_filter_le (fun z => !(pa z == pa x)) r
        simp; omega
      · simp; omega

/-- What is still to do, in the document's loop. -/
def putRest (x : Nd) (laid : Bool) (rest : List Nd) : List Nd := if laid then rest.filter (fun z => !(z.path == x.path)) else putG Nd.path x rest

set_option maxRecDepth 100000 in
set_option maxHeartbeats 8000000 in
theorem refPut_any {w : World} {A : Option Addr} {n c : Nat} {ns : List Nd} (x : Nd) (h : Nodes w A ns) (hl : n = ns.length) (hn : n ≤ 1000000000000) :
    Calls Try.prog 27 #[.slice A n c, .agg x.cells.toArray] w fun e w' => ∃ v m, e = .returned v ∧ w'.ownsRow w.heap.size 31 4 v m (cellsOf (putG Nd.path x ns)) ∧ Below w.heap.size w w' := by
  obtain ⟨i0, hi, hz0, hz1, hz2⟩ := info_parts Try.info31
  have HL := Lib.hid hl; clear hl
  obtain ⟨w0, hw0⟩ : ∃ w0, w0 = w.alloc (.cells x.cells.toArray 31) := ⟨_, rfl⟩
  have hb0 : Below w.heap.size w w0 := by rw [hw0]; exact (Below.refl _ w).alloc (Nat.le_refl _) _
  have hz0' : w0.heap.size = w.heap.size + 1 := by rw [hw0]; simp
  have hx0 := heap_alloc_new w (.cells x.cells.toArray 31)
  rw [← hw0] at hx0
  have hN0 := h.below hb0
  clear h
  have HX : ∀ W, Below w0.heap.size w0 W → W.cell? ⟨w.heap.size, 0, none⟩ = some (.string ⟨x.path.toArray⟩) ∧ W.cell? ⟨w.heap.size, 1, none⟩ = some (.int .u8 x.kind) ∧ W.cell? ⟨w.heap.size, 2, none⟩ = some (.slice x.adr x.len x.cap) ∧ W.cell? ⟨w.heap.size, 3, none⟩ = some (.string ⟨x.link.toArray⟩) := fun W hW =>
    node_cells ((hW.block w.heap.size (by omega)).trans hx0)
  unfold Nd.cells at hw0 hx0 ⊢
  go_enter Try.func27, Try.ntmps27
  go_wp2_with fail
  rw [← hw0]
  clear hw0
  go_loopw [5, 6, 7, 8, 9, 10, 11, 12, 13, 14, 15, 16, 17, 18, 19, 20, 21, 22, 23, 24, 25, 26, 27, 28, 29, 30, 31, 32, 33, 34, 35, 36, 37, 38, 39, 40, 41, 42, 43, 44] (fun v b i _ _ _ _ _ _ _ _ _ _ _ _ _ _ _ _ _ _ _ _ _ _ _ _ _ _ _ _ _ _ _ _ _ _ _ _ _ wr => ∃ (k : Nat) (laid : Bool) (ms : List Nd), k ≤ n ∧ i = .int .i64 k ∧ b = .bool laid ∧ wr.ownsRow w0.heap.size 31 4 v ms.length (cellsOf ms) ∧ ms.length ≤ k + laid.toNat ∧ ms ++ putRest x laid (ns.drop k) = putG Nd.path x ns ∧ Below w0.heap.size w0 wr)
    (fun _ _ i _ _ _ _ _ _ _ _ _ _ _ _ _ _ _ _ _ _ _ _ _ _ _ _ _ _ _ _ _ _ _ _ _ _ _ _ _ _ => n - (intOf i).toNat)
  case atStart => exact ⟨0, false, [], Nat.zero_le _, rfl, rfl, World.ownsRow_nil _ _ _ _, by simp, rfl, Below.refl _ _⟩
  case round =>
    obtain ⟨k, laid, ms, hk, rfl, rfl, ho, hml, hms, hb⟩ := hrel
    obtain ⟨n0, n1, n2, n3⟩ := HX wr hb
    by_cases hlt : k < n
    · have hkz : (k : Int) < (n : Int) := by omega
      obtain ⟨y, hy⟩ : ∃ y, ns[k]? = some y := ⟨_, List.getElem?_eq_getElem (by have := HL.out; omega)⟩
      have hdrop : ns.drop k = y :: ns.drop (k + 1) := by
        have hkl : k < ns.length := by have := HL.out; omega
        rw [List.drop_eq_getElem_cons hkl]
        rw [List.getElem?_eq_getElem hkl] at hy
        injection hy with hy
        rw [hy]
      rw [hdrop] at hms
      rcases hN0 with rfl | ⟨b, off, rfl, hbl, hc⟩
      · simp at hy
      have HC : ∀ W, Below w0.heap.size w0 W → W.cell? ⟨b, off + k * 4, none⟩ = some (.string ⟨y.path.toArray⟩) ∧ W.cell? ⟨b, off + k * 4 + 1, none⟩ = some (.int .u8 y.kind) ∧ W.cell? ⟨b, off + k * 4 + 2, none⟩ = some (.slice y.adr y.len y.cap) ∧ W.cell? ⟨b, off + k * 4 + 3, none⟩ = some (.string ⟨y.link.toArray⟩) := fun W hW => by
        obtain ⟨x0, x1, x2, x3⟩ := hc k y hy
        exact ⟨(hW.cell (p := ⟨b, off + k * 4, none⟩) hbl).trans x0, (hW.cell (p := ⟨b, off + k * 4 + 1, none⟩) hbl).trans x1, (hW.cell (p := ⟨b, off + k * 4 + 2, none⟩) hbl).trans x2, (hW.cell (p := ⟨b, off + k * 4 + 3, none⟩) hbl).trans x3⟩
      obtain ⟨y0, y1, y2, y3⟩ := HC wr hb
      have hzb := hb.size
      have hlt1 := Bool.toNat_le laid
      obtain ⟨A5, c5, rfl⟩ := own_form ho
      have HO := Lib.hid ho; clear ho
      have HMS := Lib.hid hms; clear hms
      have HB := Lib.hid hb; clear hb
      clear hc hy hdrop hx0
      cases he : (y.path == x.path) with
      | true =>
        have hne : y.path = x.path := by simpa using he
        have HE := Lib.hid he
        go_wp2_with fail
        refine wp_region_ordV [0, 1, 2, 3, 4, 5, 6, 7] [] (by kernel_rfl) (by kernel_rfl) (by kernel_rfl) (fun d _ _ _ _ h => by cases d <;> exact h) (by kernel_rfl) ?_
        intro W1 hW1 hB1
        have HB1 := Lib.hid (HB.out.trans (hB1.mono HB.out.size))
        have HO1 := Lib.hid (own_below HO.out hB1)
        have u1 : ∀ W, Below W1.heap.size W1 W → W.cell? ⟨b, off + k * 4, none⟩ = some (.string ⟨y.path.toArray⟩) := fun W hW => (HC W (HB1.out.trans (hW.mono HB1.out.size))).1
        have v1 : ∀ W, Below W1.heap.size W1 W → W.cell? ⟨w.heap.size, 0, none⟩ = some (.string ⟨x.path.toArray⟩) := fun W hW => (HX W (HB1.out.trans (hW.mono HB1.out.size))).1
        clear hW1 hB1
        repeat (first | (refine wpOrd_take (v := ?_) rfl rfl rfl (fun W hW => ?_) ?_; rotate_left; (focus (go_simp; with_reducible rfl)); simp only [Act.put, List.setIfInBounds_toArray, List.set_cons_succ, List.set_cons_zero]) | (refine wpOrd_skip rfl rfl ?_; simp only [Act.put, List.setIfInBounds_toArray, List.set_cons_succ, List.set_cons_zero]))
        refine wpOrd_nil ?_
        obtain ⟨y0, y1, y2, y3⟩ := HC W1 HB1.out
        obtain ⟨n0, n1, n2, n3⟩ := HX W1 HB1.out
        clear u1 v1
        go_wp2_with fail
        go_roundw
        case rel => exact ⟨k + 1, laid, ms, by omega, by go_num, by first | rfl | trivial, HO1.out, by omega, by rw [← HMS.out]; congr 1; unfold putRest; rw [putG]; simp [HE.out], HB1.out⟩
        case measure => simp [intOf]; omega
      | false =>
        have hne : ¬ y.path = x.path := by simpa using he
        have HE := Lib.hid he
        go_wp2_with fail
        refine wp_region_ordV [0, 1, 2, 3, 4, 5, 6, 7] [] (by kernel_rfl) (by kernel_rfl) (by kernel_rfl) (fun d _ _ _ _ h => by cases d <;> exact h) (by kernel_rfl) ?_
        intro W1 hW1 hB1
        have HB1 := Lib.hid (HB.out.trans (hB1.mono HB.out.size))
        have HO1 := Lib.hid (own_below HO.out hB1)
        have u1 : ∀ W, Below W1.heap.size W1 W → W.cell? ⟨b, off + k * 4, none⟩ = some (.string ⟨y.path.toArray⟩) := fun W hW => (HC W (HB1.out.trans (hW.mono HB1.out.size))).1
        have v1 : ∀ W, Below W1.heap.size W1 W → W.cell? ⟨w.heap.size, 0, none⟩ = some (.string ⟨x.path.toArray⟩) := fun W hW => (HX W (HB1.out.trans (hW.mono HB1.out.size))).1
        clear hW1 hB1
        repeat (first | (refine wpOrd_take (v := ?_) rfl rfl rfl (fun W hW => ?_) ?_; rotate_left; (focus (go_simp; with_reducible rfl)); simp only [Act.put, List.setIfInBounds_toArray, List.set_cons_succ, List.set_cons_zero]) | (refine wpOrd_skip rfl rfl ?_; simp only [Act.put, List.setIfInBounds_toArray, List.set_cons_succ, List.set_cons_zero]))
        refine wpOrd_nil ?_
        obtain ⟨y0, y1, y2, y3⟩ := HC W1 HB1.out
        obtain ⟨n0, n1, n2, n3⟩ := HX W1 HB1.out
        clear u1 v1
        cases laid with
        | true =>
          go_wp2_with fail
          refine wp_region_ordV [0, 1, 2, 3, 4, 5, 6, 7, 8, 9, 10, 11] [] (by kernel_rfl) (by kernel_rfl) (by kernel_rfl) (fun d _ _ _ _ h => by cases d <;> exact h) (by kernel_rfl) ?_
          intro W2 hW2 hB2
          have HB2 := Lib.hid (HB1.out.trans (hB2.mono HB1.out.size))
          have HO2 := Lib.hid (own_below HO1.out hB2)
          have u2 : ∀ W, Below W2.heap.size W2 W → W.cell? ⟨b, off + k * 4, none⟩ = some (.string ⟨y.path.toArray⟩) := fun W hW => (HC W (HB2.out.trans (hW.mono HB2.out.size))).1
          have v2 : ∀ W, Below W2.heap.size W2 W → W.cell? ⟨w.heap.size, 0, none⟩ = some (.string ⟨x.path.toArray⟩) := fun W hW => (HX W (HB2.out.trans (hW.mono HB2.out.size))).1
          clear hW2 hB2
          repeat (first | (refine wpOrd_take (v := ?_) rfl rfl rfl (fun W hW => ?_) ?_; rotate_left; (focus (go_simp; with_reducible rfl)); simp only [Act.put, List.setIfInBounds_toArray, List.set_cons_succ, List.set_cons_zero]) | (refine wpOrd_skip rfl rfl ?_; simp only [Act.put, List.setIfInBounds_toArray, List.set_cons_succ, List.set_cons_zero]))
          refine wpOrd_nil ?_
          obtain ⟨y0, y1, y2, y3⟩ := HC W2 HB2.out
          obtain ⟨n0, n1, n2, n3⟩ := HX W2 HB2.out
          have HZ := HB2.out.size
          clear u2 v2
          go_wp2_with (at_builtin; refine wpList_append_own _ rfl _ _ 28 rfl w0.heap.size 31 i0 _ 4 64 Try.underlying28 hi hz0 hz1 hz2 rfl (by decide) (.slice A5 ms.length c5) ms.length (cellsOf (ms)) rfl (HO2.out.alloc _) ⟨_, 0, none⟩ 1 1 y.cells rfl rfl (cells_new _ y.cells.toArray 31) (fun u hu => cells_one [y] u (by simpa [cellsOf] using hu)) (by unfold maxLen; omega) (by omega) (by have := HZ; simp; omega) ?_; intro v' w3 hown3 hgrow3 _; rw [cellsOf_snoc] at hown3; obtain ⟨A6, c6, rfl⟩ := own_form hown3; have hb3 := (HB2.out.alloc HB2.out.size _).grown hgrow3 (by have := HB2.out.size; simp; omega) (fun j e => own_from HO2.out j e))
          go_roundw
          case rel =>
            refine ⟨k + 1, true, ms ++ [y], by omega, by go_num, by first | rfl | trivial, by simpa using hown3, by simp at hml ⊢; omega, ?_, hb3⟩
            rw [← HMS.out, List.append_assoc]; congr 1; unfold putRest; simp [HE.out]
          case measure => simp [intOf]; omega
        | false =>
          cases hq : gtL y.path x.path with
          | false =>
            have HQ := Lib.hid hq
            have hbl : Op.bytesLess y.path x.path = true := by unfold gtL at hq; simpa [he] using hq
            clear hq
            go_wp2_with fail
            refine wp_region_ordV [0, 1, 2, 3, 4, 5, 6, 7, 8, 9, 10, 11] [] (by kernel_rfl) (by kernel_rfl) (by kernel_rfl) (fun d _ _ _ _ h => by cases d <;> exact h) (by kernel_rfl) ?_
            intro W2 hW2 hB2
            have HB2 := Lib.hid (HB1.out.trans (hB2.mono HB1.out.size))
            have HO2 := Lib.hid (own_below HO1.out hB2)
            have u2 : ∀ W, Below W2.heap.size W2 W → W.cell? ⟨b, off + k * 4, none⟩ = some (.string ⟨y.path.toArray⟩) := fun W hW => (HC W (HB2.out.trans (hW.mono HB2.out.size))).1
            have v2 : ∀ W, Below W2.heap.size W2 W → W.cell? ⟨w.heap.size, 0, none⟩ = some (.string ⟨x.path.toArray⟩) := fun W hW => (HX W (HB2.out.trans (hW.mono HB2.out.size))).1
            clear hW2 hB2
            repeat (first | (refine wpOrd_take (v := ?_) rfl rfl rfl (fun W hW => ?_) ?_; rotate_left; (focus (go_simp; with_reducible rfl)); simp only [Act.put, List.setIfInBounds_toArray, List.set_cons_succ, List.set_cons_zero]) | (refine wpOrd_skip rfl rfl ?_; simp only [Act.put, List.setIfInBounds_toArray, List.set_cons_succ, List.set_cons_zero]))
            refine wpOrd_nil ?_
            obtain ⟨y0, y1, y2, y3⟩ := HC W2 HB2.out
            obtain ⟨n0, n1, n2, n3⟩ := HX W2 HB2.out
            have HZ := HB2.out.size
            clear u2 v2
            go_wp2_with (at_builtin; refine wpList_append_own _ rfl _ _ 28 rfl w0.heap.size 31 i0 _ 4 64 Try.underlying28 hi hz0 hz1 hz2 rfl (by decide) (.slice A5 ms.length c5) ms.length (cellsOf (ms)) rfl (HO2.out.alloc _) ⟨_, 0, none⟩ 1 1 y.cells rfl rfl (cells_new _ y.cells.toArray 31) (fun u hu => cells_one [y] u (by simpa [cellsOf] using hu)) (by unfold maxLen; omega) (by omega) (by have := HZ; simp; omega) ?_; intro v' w3 hown3 hgrow3 _; rw [cellsOf_snoc] at hown3; obtain ⟨A6, c6, rfl⟩ := own_form hown3; have hb3 := (HB2.out.alloc HB2.out.size _).grown hgrow3 (by have := HB2.out.size; simp; omega) (fun j e => own_from HO2.out j e))
            go_roundw
            case rel =>
              refine ⟨k + 1, false, ms ++ [y], by omega, by go_num, by first | rfl | trivial, by simpa using hown3, by simp at hml ⊢; omega, ?_, hb3⟩
              rw [← HMS.out, List.append_assoc]; congr 1; unfold putRest; rw [putG]; simp [HE.out, HQ.out]
            case measure => simp [intOf]; omega
          | true =>
            have HQ := Lib.hid hq
            have hbl : Op.bytesLess y.path x.path = false := by unfold gtL at hq; simp [he] at hq; exact hq
            clear hq
            go_wp2_with fail
            refine wp_region_ordV [0, 1, 2, 3, 4, 5, 6, 7, 8, 9, 10, 11] [] (by kernel_rfl) (by kernel_rfl) (by kernel_rfl) (fun d _ _ _ _ h => by cases d <;> exact h) (by kernel_rfl) ?_
            intro W2 hW2 hB2
            have HB2 := Lib.hid (HB1.out.trans (hB2.mono HB1.out.size))
            have HO2 := Lib.hid (own_below HO1.out hB2)
            have u2 : ∀ W, Below W2.heap.size W2 W → W.cell? ⟨b, off + k * 4, none⟩ = some (.string ⟨y.path.toArray⟩) := fun W hW => (HC W (HB2.out.trans (hW.mono HB2.out.size))).1
            have v2 : ∀ W, Below W2.heap.size W2 W → W.cell? ⟨w.heap.size, 0, none⟩ = some (.string ⟨x.path.toArray⟩) := fun W hW => (HX W (HB2.out.trans (hW.mono HB2.out.size))).1
            clear hW2 hB2
            repeat (first | (refine wpOrd_take (v := ?_) rfl rfl rfl (fun W hW => ?_) ?_; rotate_left; (focus (go_simp; with_reducible rfl)); simp only [Act.put, List.setIfInBounds_toArray, List.set_cons_succ, List.set_cons_zero]) | (refine wpOrd_skip rfl rfl ?_; simp only [Act.put, List.setIfInBounds_toArray, List.set_cons_succ, List.set_cons_zero]))
            refine wpOrd_nil ?_
            obtain ⟨y0, y1, y2, y3⟩ := HC W2 HB2.out
            obtain ⟨n0, n1, n2, n3⟩ := HX W2 HB2.out
            have HZ := HB2.out.size
            clear u2 v2
            go_wp2_with (first | (at_builtin; refine wpList_append_own _ rfl _ _ 28 rfl w0.heap.size 31 i0 _ 4 64 Try.underlying28 hi hz0 hz1 hz2 rfl (by decide) (.slice A5 ms.length c5) ms.length (cellsOf (ms)) rfl (HO2.out.alloc _) ⟨_, 0, none⟩ 1 1 x.cells rfl rfl (cells_new _ x.cells.toArray 31) (fun u hu => cells_one [x] u (by simpa [cellsOf] using hu)) (by unfold maxLen; omega) (by omega) (by have := HZ; simp; omega) ?_; intro v' w3 hown3 hgrow3 _; rw [cellsOf_snoc] at hown3; obtain ⟨A6, c6, rfl⟩ := own_form hown3; have hb3 := (HB2.out.alloc HB2.out.size _).grown hgrow3 (by have := HB2.out.size; simp; omega) (fun j e => own_from HO2.out j e); obtain ⟨z0, z1, z2, z3⟩ := HC w3 hb3; have HO3 := Lib.hid hown3) | (at_builtin; refine wpList_append_own _ rfl _ _ 28 rfl w0.heap.size 31 i0 _ 4 64 Try.underlying28 hi hz0 hz1 hz2 rfl (by decide) (.slice A6 (ms.length + 1) c6) (ms.length + 1) (cellsOf (ms ++ [x])) rfl (HO3.out.alloc _) ⟨_, 0, none⟩ 1 1 y.cells rfl rfl (cells_new _ y.cells.toArray 31) (fun u hu => cells_one [y] u (by simpa [cellsOf] using hu)) (by unfold maxLen; omega) (by omega) (by have := hb3.size; simp; omega) ?_; intro v' w5 hown5 hgrow5 _; rw [cellsOf_snoc] at hown5; obtain ⟨A7, c7, rfl⟩ := own_form hown5; have hb5 := (hb3.alloc hb3.size _).grown hgrow5 (by have := hb3.size; simp; omega) (fun j e => own_from HO3.out j e)))
            go_roundw
            case rel =>
              refine ⟨k + 1, true, ms ++ [x] ++ [y], by omega, by go_num, by first | rfl | trivial, by simpa using hown5, by simp at hml ⊢; omega, ?_, hb5⟩
              rw [← HMS.out, List.append_assoc, List.append_assoc]; congr 1; unfold putRest; rw [putG]; simp [HE.out, HQ.out]
            case measure => simp [intOf]; omega
    · obtain rfl : k = n := by omega
      have hzb := hb.size
      have hlt1 := Bool.toNat_le laid
      rw [List.drop_eq_nil_of_le (by have := HL.out; omega)] at hms
      cases laid with
      | true =>
        go_wp2_with fail
        go_ret
        unfold putRest at hms
        simp at hms
        subst hms
        exact ⟨_, _, rfl, own_wider ho (by omega), hb0.trans (hb.mono (by omega))⟩
      | false =>
        have HMS := Lib.hid hms; clear hms
        obtain ⟨A5, c5, rfl⟩ := own_form ho
        have HO := Lib.hid ho; clear ho
        have HB := Lib.hid hb; clear hb
        have HZ := HB.out.size
        clear hx0 hN0
        go_wp2_with (at_builtin; refine wpList_append_own _ rfl _ _ 28 rfl w0.heap.size 31 i0 _ 4 64 Try.underlying28 hi hz0 hz1 hz2 rfl (by decide) (.slice A5 ms.length c5) ms.length (cellsOf (ms)) rfl (HO.out.alloc _) ⟨_, 0, none⟩ 1 1 x.cells rfl rfl (cells_new _ x.cells.toArray 31) (fun u hu => cells_one [x] u (by simpa [cellsOf] using hu)) (by unfold maxLen; omega) (by omega) (by have := HZ; simp; omega) ?_; intro v' w3 hown3 hgrow3 _; rw [cellsOf_snoc] at hown3; obtain ⟨A6, c6, rfl⟩ := own_form hown3; have hb3 := (HB.out.alloc HB.out.size _).grown hgrow3 (by have := HB.out.size; simp; omega) (fun j e => own_from HO.out j e))
        go_ret
        have hm2 : ms ++ [x] = putG Nd.path x ns := HMS.out
        rw [hm2] at hown3
        exact ⟨_, _, rfl, own_wider hown3 hb0.size, hb0.trans (hb3.mono hb0.size)⟩

end Go.Proofs.Ytlbipmlbkcdmnaa

/-
  Nodes that read alike, through the changes of a tree: plain laws.
-/
namespace Go.Proofs.Ytlbipmlbkcdmnaa
open Go.RowKit Go.Shelf

theorem like_nil {w : World} {ss : List Sn} (h : Like w [] ss) : ss = [] := List.eq_nil_of_length_eq_zero h.1.symm
theorem like_nil2 (w : World) : Like w [] [] := ⟨rfl, fun j x s hx => by simp at hx⟩
theorem like_cons {w : World} {x : Nd} {r : List Nd} {ss : List Sn} (h : Like w (x :: r) ss) : ∃ s t, ss = s :: t ∧ NdAt w x s ∧ Like w r t := by
  obtain ⟨h1, h2⟩ := h
  cases ss with
  | nil => simp at h1
  | cons s t => exact ⟨s, t, rfl, h2 0 x s rfl rfl, by simpa using h1, fun j y u hy hu => h2 (j + 1) y u (by simpa using hy) (by simpa using hu)⟩
theorem like_mk {w : World} {x : Nd} {r : List Nd} {s : Sn} {t : List Sn} (h : NdAt w x s) (h2 : Like w r t) : Like w (x :: r) (s :: t) :=
  ⟨by simp [h2.1], fun j y u hy hu => by
    cases j with
    | zero => cases hy; cases hu; exact h
    | succ j => exact h2.2 j y u (by simpa using hy) (by simpa using hu)⟩

theorem like_filter {w : World} {p : Nd → Bool} {q : Sn → Bool} (hpq : ∀ x s, NdAt w x s → p x = q s) : ∀ {ns : List Nd} {ss : List Sn}, Like w ns ss → Like w (ns.filter p) (ss.filter q)
  | [], ss, h => by rw [like_nil h]; exact like_nil2 w
  | x :: r, ss, h => by
    obtain ⟨s, t, rfl, h1, h2⟩ := like_cons h
    have ih := like_filter hpq h2
    rw [List.filter_cons, List.filter_cons, hpq x s h1]
    split
    · exact like_mk h1 ih
    · exact ih

theorem like_put {w : World} {x : Nd} {s : Sn} (hx : NdAt w x s) : ∀ {ns : List Nd} {ss : List Sn}, Like w ns ss → Like w (putG Nd.path x ns) (putG Sn.path s ss)
  | [], ss, h => by rw [like_nil h]; exact like_mk hx (like_nil2 w)
  | y :: r, ss, h => by
    obtain ⟨u, t, rfl, h1, h2⟩ := like_cons h
    have ih := like_put hx h2
    rw [putG, putG, h1.1, hx.1]
    split
    · exact ih
    · split
      · exact like_mk hx (like_mk h1 (like_filter (fun a b hab => by rw [hab.1]) h2))
      · exact like_mk h1 ih

theorem like_below {w : World} {ns : List Nd} {ss : List Sn} (h : Like w ns ss) (s : List UInt8) : Like w (ns.filter fun x => underL x.path s) (ss.filter fun x => underL x.path s) :=
  like_filter (fun x t hxt => by rw [hxt.1]) h
theorem like_remove {w : World} {ns : List Nd} {ss : List Sn} (h : Like w ns ss) (s : List UInt8) : Like w (ns.filter fun x => !(x.path == s || underL x.path s)) (ss.filter fun x => !(x.path == s || underL x.path s)) :=
  like_filter (fun x t hxt => by rw [hxt.1]) h

/-- Bounds of all texts of a tree. -/
theorem like_paths {w : World} {ns : List Nd} {ss : List Sn} (h : Like w ns ss) {m : Nat} (hs : ∀ s ∈ ss, s.path.length ≤ m) : ∀ x ∈ ns, x.path.length ≤ m := by
  intro x hx
  obtain ⟨j, hj, rfl⟩ := List.getElem_of_mem hx
  have ht : ss[j]? = some (ss[j]'(by rw [← h.1]; exact hj)) := List.getElem?_eq_getElem _
  rw [(h.2 j _ _ (List.getElem?_eq_getElem hj) ht).1]
  exact hs _ (List.mem_of_getElem? ht)

end Go.Proofs.Ytlbipmlbkcdmnaa
