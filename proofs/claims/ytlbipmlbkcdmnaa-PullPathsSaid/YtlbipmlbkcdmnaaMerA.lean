/-
  Whether a tree may be.
-/
import Derived.Test.YtlbipmlbkcdmnaaM
import Derived.Maps.OwnOps
import Derived.Laws.Cover1
namespace Go.Proofs.Ytlbipmlbkcdmnaa
open Go.RowKit

def Nodes (w : World) (A : Option Addr) (ns : List Nd) : Prop :=
  ns = [] ∨ ∃ b off, A = some ⟨b, off, none⟩ ∧ b < w.heap.size ∧ ∀ j x, ns[j]? = some x →
    w.cell? ⟨b, off + j * 4, none⟩ = some (.string ⟨x.path.toArray⟩) ∧ w.cell? ⟨b, off + j * 4 + 1, none⟩ = some (.int .u8 x.kind) ∧
    w.cell? ⟨b, off + j * 4 + 2, none⟩ = some (.slice x.adr x.len x.cap) ∧ w.cell? ⟨b, off + j * 4 + 3, none⟩ = some (.string ⟨x.link.toArray⟩)

def rightL (f : List UInt8 → Bool) (last : List UInt8) : List Nd → Bool
  | [] => true
  | x :: r => formedL x && !(Op.bytesLess x.path last || x.path == last) && f (upL x.path) && rightL (setD f x.path (x.kind == 53)) x.path r

set_option maxRecDepth 100000 in
set_option maxHeartbeats 4000000 in
theorem right_any (A : Option Addr) (n c : Nat) (ns : List Nd) (w : World) (hn : n = ns.length) (hN : Nodes w A ns) (hp : ∀ x ∈ ns, x.path.length ≤ 4000000000000) (hl : n ≤ 1000000000000) :
    Calls Try.prog 31 #[.slice A n c] w fun e w' => e = .returned (.bool (rightL (setD (fun _ => false) [] true) [] ns)) ∧ Below w.heap.size w w' := by
  have hmm := @run_makeMap Try.prog
  have hd0 := dirs_made w
  have HN0 := Lib.hid hn; clear hn
  obtain ⟨w1, hi, hd1, hg1⟩ := dirs_set hd0 (k := []) (by simp) (by omega) true
  go_enter Try.func31, Try.ntmps31
  go_wp2_with fail
  have hb1 : Below w.heap.size w w1 := ((Below.refl _ w).alloc (Nat.le_refl _) _).grown hg1 (by simp) (fun k e => by cases e; exact Nat.le_refl _)
  go_loopw [4, 6, 11, 12, 13, 14, 15, 16, 17, 18, 19, 20, 21, 22, 23, 24, 25, 26, 27, 28, 29, 30, 31, 32, 33, 34, 35, 36, 37, 38, 39, 40] (fun s4 _ i _ _ _ _ _ _ _ _ _ _ _ _ _ _ _ _ _ _ _ _ _ _ _ _ _ _ _ _ _ wr => ∃ (k : Nat) (last : List UInt8) (f : List UInt8 → Bool), k ≤ n ∧ i = .int .i64 k ∧ s4 = .string ⟨last.toArray⟩ ∧ Dirs wr w.heap.size (k + 1) f ∧ Below w.heap.size w wr ∧ rightL (setD (fun _ => false) [] true) [] ns = rightL f last (ns.drop k))
    (fun _ _ i _ _ _ _ _ _ _ _ _ _ _ _ _ _ _ _ _ _ _ _ _ _ _ _ _ _ _ _ _ _ => n - (intOf i).toNat)
  case atStart => exact ⟨0, [], _, by omega, rfl, rfl, hd1, hb1, rfl⟩
  case round =>
    obtain ⟨k, last, f, hk, rfl, rfl, hd, hb, hr⟩ := hrel
    by_cases hlt : k < n
    · have hkz : (k : Int) < (n : Int) := by omega
      obtain ⟨x, hx⟩ : ∃ x, ns[k]? = some x := ⟨_, List.getElem?_eq_getElem (by have := HN0.out; omega)⟩
      have hxp := hp x (List.mem_of_getElem? hx)
      have hdrop : ns.drop k = x :: ns.drop (k + 1) := by
        have hkl : k < ns.length := by have := HN0.out; omega
        rw [List.drop_eq_getElem_cons hkl]
        rw [List.getElem?_eq_getElem hkl] at hx
        injection hx with hx
        rw [hx]
      rcases hN with rfl | ⟨b, off, rfl, hbl, hc⟩
      · simp at hx
      obtain ⟨x0, x1, x2, x3⟩ := hc k x hx
      have y0 := (hb.cell (p := ⟨b, off + k * 4, none⟩) hbl).trans x0
      have y1 := (hb.cell (p := ⟨b, off + k * 4 + 1, none⟩) hbl).trans x1
      have y2 := (hb.cell (p := ⟨b, off + k * 4 + 2, none⟩) hbl).trans x2
      have y3 := (hb.cell (p := ⟨b, off + k * 4 + 3, none⟩) hbl).trans x3
      have HF := fun w => formed_any x hxp w
      clear x0 x1 x2 x3
      have HR := Lib.hid hr; clear hr hc hp hd1 hd0 hb1
      rw [hdrop, rightL] at HR
      have hul : (upL x.path).length ≤ 4000000000000 := by unfold upL; simp; omega
      have HU := fun w => up_any x.path hxp w
      have HW : ∀ w2, Below (wr.heap.size + 1) (wr.alloc (.cells #[.string ⟨x.path.toArray⟩, .int .u8 x.kind, .slice x.adr x.len x.cap, .string ⟨x.link.toArray⟩] 31)) w2 →
          w2.cell? ⟨wr.heap.size, 0, none⟩ = some (.string ⟨x.path.toArray⟩) ∧ w2.cell? ⟨wr.heap.size, 1, none⟩ = some (.int .u8 x.kind) ∧ Dirs w2 w.heap.size (k + 1) f ∧ Below w.heap.size w w2 := by
        intro w2 hb2
        have h1 := hd.lt
        have h2 : (wr.alloc (.cells #[.string ⟨x.path.toArray⟩, .int .u8 x.kind, .slice x.adr x.len x.cap, .string ⟨x.link.toArray⟩] 31)).heap[w.heap.size]? = wr.heap[w.heap.size]? := Below.heap_alloc wr _ _ h1
        have h3 := (hb2.block wr.heap.size (by omega)).trans (heap_alloc_new wr (.cells #[.string ⟨x.path.toArray⟩, .int .u8 x.kind, .slice x.adr x.len x.cap, .string ⟨x.link.toArray⟩] 31))
        refine ⟨by simp [World.cell?, h3], by simp [World.cell?, h3], hd.block ((hb2.block _ (by omega)).trans h2), ?_⟩
        exact (hb.alloc hb.size _).trans (hb2.mono (by have := hb.size; omega))
      have HD := Lib.hid hd; clear hd
      by_cases hfm : formedL x = true
      · rw [hfm] at HF
        have HFM := Lib.hid hfm; clear hfm
        by_cases hle : (Op.bytesLess x.path last || x.path == last) = true
        · have HLE := Lib.hid hle
          by_cases h1 : Op.bytesLess x.path last = true
          · clear hle
            go_wp2_with (first | (go_at_call 56; refine (HF _).mono ?_; rintro e w2 ⟨rfl, hb2⟩; obtain ⟨q0, q1, hd2, hb3⟩ := HW w2 (by simpa using hb2); have hlk := dirs_look hd2 hul) | (go_at_call 19; refine (HU _).mono ?_; rintro e w3 ⟨rfl, rfl⟩))
            go_ret
            exact ⟨by rw [HR.out, HFM.out, HLE.out]; rfl, hb3⟩
          · have h1' : Op.bytesLess x.path last = false := by simpa using h1
            have h2 : (x.path == last) = true := by simpa [h1'] using hle
            clear hle h1
            go_wp2_with (first | (go_at_call 56; refine (HF _).mono ?_; rintro e w2 ⟨rfl, hb2⟩; obtain ⟨q0, q1, hd2, hb3⟩ := HW w2 (by simpa using hb2); have hlk := dirs_look hd2 hul) | (go_at_call 19; refine (HU _).mono ?_; rintro e w3 ⟨rfl, rfl⟩))
            all_goals first | (go_ret; exact ⟨by rw [HR.out, HFM.out, HLE.out]; rfl, hb3⟩) | (exfalso; simp_all; done)
        · have hle0 : (Op.bytesLess x.path last || x.path == last) = false := by simpa using hle
          have HLE := Lib.hid hle0
          have hle1 : Op.bytesLess x.path last = false := by simp at hle0; exact hle0.1
          have hle2 : (x.path == last) = false := by simp at hle0; simpa using hle0.2
          have hle3 : ¬ x.path = last := by simpa using hle2
          clear hle hle0
          cases hup : f (upL x.path) with
          | false =>
            have HUP := Lib.hid hup; clear hup
            go_wp2_with (first | (go_at_call 56; refine (HF _).mono ?_; rintro e w2 ⟨rfl, hb2⟩; obtain ⟨q0, q1, hd2, hb3⟩ := HW w2 (by simpa using hb2); have hlk := dirs_look hd2 hul; rw [HUP.out] at hlk) | (go_at_call 19; refine (HU _).mono ?_; rintro e w3 ⟨rfl, rfl⟩))
            go_ret
            exact ⟨by rw [HR.out, HUP.out]; simp, hb3⟩
          | true =>
            have HUP := Lib.hid hup; clear hup
            go_wp2_with (first | (go_at_call 56; refine (HF _).mono ?_; rintro e w2 ⟨rfl, hb2⟩; obtain ⟨q0, q1, hd2, hb3⟩ := HW w2 (by simpa using hb2); have hlk := dirs_look hd2 hul; rw [HUP.out] at hlk; obtain ⟨w4, hmu, hd4, hg4⟩ := dirs_set hd2 hxp (by omega) (x.kind == 53)) | (go_at_call 19; refine (HU _).mono ?_; rintro e w3 ⟨rfl, rfl⟩))
            go_roundw
            case rel => exact ⟨k + 1, x.path, _, by omega, by go_num, rfl, hd4, hb3.grown hg4 hb3.size (fun j e => by cases e; exact Nat.le_refl _), by rw [HR.out, HFM.out, HLE.out, HUP.out]; simp⟩
            case measure => simp [intOf]; omega
      · have hfm2 : formedL x = false := by simpa using hfm
        rw [hfm2] at HF
        have HFM := Lib.hid hfm2; clear hfm2 hfm
        go_wp2_with (go_at_call 56; refine (HF _).mono ?_; rintro e w2 ⟨rfl, hb2⟩; obtain ⟨q0, q1, hd2, hb3⟩ := HW w2 (by simpa using hb2))
        go_ret
        exact ⟨by rw [HR.out, HFM.out]; rfl, hb3⟩
    · obtain rfl : k = n := by omega
      have : ns.drop k = [] := by rw [HN0.out]; simp
      rw [this] at hr
      go_wp2_with fail
      go_ret
      exact ⟨by rw [hr]; rfl, hb⟩

end Go.Proofs.Ytlbipmlbkcdmnaa

/-
  The chapter's examples.
-/
namespace Go.Proofs.Ytlbipmlbkcdmnaa
open Go.RowKit

theorem Try.info31 : (Try.prog.info? 31).map (fun i => (i.zero, i.size, i.bytes)) = some (some (.agg #[.string ⟨#[]⟩, .int .u8 0, .slice none 0 0, .string ⟨#[]⟩]), 4, 64) := by kernel_rfl

set_option maxRecDepth 100000 in
set_option maxHeartbeats 400000 in
theorem clone_nil (w : World) : Calls Try.prog 46 #[.slice none 0 0] w fun e w' => e = .returned (.slice none 0 0) ∧ w' = w := by
  have hrun := fun W : World => Lib.run_eql_slice_nil (P := Try.prog) W 29 5 none 0 0 0 0 Try.underlying29
  go_enter Try.func46, Try.ntmps46
  go_wp2_with fail
  go_ret
  exact ⟨rfl, rfl⟩

set_option maxRecDepth 100000 in
set_option maxHeartbeats 400000 in
theorem cloneN_nil (w : World) : Calls Try.prog 69 #[.slice none 0 0] w fun e w' => e = .returned (.slice none 0 0) ∧ w' = w := by
  have hrun := fun W : World => Lib.run_eql_slice_nil (P := Try.prog) W 28 31 none 0 0 0 0 Try.underlying28
  go_enter Try.func69, Try.ntmps69
  go_wp2_with fail
  go_ret
  exact ⟨rfl, rfl⟩

set_option maxRecDepth 100000 in
set_option maxHeartbeats 1000000 in
theorem copied_nil (w : World) : Calls Try.prog 48 #[.slice none 0 0] w fun e w' => e = .returned (.slice none 0 0) ∧ w' = w := by
  go_enter Try.func48, Try.ntmps48
  go_wp2_with (go_at_call 69; refine (cloneN_nil _).mono ?_; rintro e w' ⟨rfl, rfl⟩)
  refine wp_loop_rounds 1 ?_
  rw [rounds_succ]
  go_wp2_with fail
  go_ret
  exact ⟨rfl, rfl⟩

set_option maxRecDepth 100000 in
set_option maxHeartbeats 1000000 in
theorem index_nil (v : Value) (w : World) : Calls Try.prog 50 #[.slice none 0 0, v] w fun e w' => e = .returned (.int .i64 (-1)) ∧ w' = w := by
  go_enter Try.func50, Try.ntmps50
  go_wp2_with fail
  refine wp_loop_rounds 1 ?_
  rw [rounds_succ]
  go_wp2_with fail
  go_ret
  exact ⟨rfl, rfl⟩

set_option maxRecDepth 100000 in
set_option maxHeartbeats 1000000 in
theorem delete_nil (g : Nat) (lb : Array Value) (w : World) : Calls Try.prog 47 #[.slice none 0 0, .func (.func g) #[] lb] w fun e w' => e = .returned (.slice none 0 0) ∧ w' = w := by
  go_enter Try.func47, Try.ntmps47
  go_wp2_with (go_at_call 50; refine (index_nil _ _).mono ?_; rintro e w' ⟨rfl, rfl⟩)
  go_ret
  exact ⟨rfl, rfl⟩

set_option maxRecDepth 100000 in
set_option maxHeartbeats 4000000 in
theorem insert_nil (x : Nd) (b c : Nat) (w : World) (hx : ∀ j u, x.cells[j]? = some u → w.cell? ((⟨b, 0, none⟩ : Addr).add j) = some u) :
    Calls Try.prog 52 #[.slice none 0 0, .int .i64 0, .slice (some ⟨b, 0, none⟩) 1 c] w fun e w' => ∃ v, e = .returned v ∧ w'.ownsRow w.heap.size 31 4 v 1 x.cells ∧ Below w.heap.size w w' := by
  obtain ⟨i0, hi, hz0, hz1, hz2⟩ := info_parts Try.info31
  have h1 : ∀ u ∈ x.cells, u.oneCell' = true := by
    intro u hu
    unfold Nd.cells at hu
    simp at hu
    rcases hu with rfl | rfl | rfl | rfl <;> rfl
  go_enter Try.func52, Try.ntmps52
  go_wp2_with (at_builtin; refine wpList_append_own _ rfl _ _ 28 rfl w.heap.size 31 i0 _ 4 64 Try.underlying28 hi hz0 hz1 hz2 rfl (by decide) (.slice none 0 0) 0 [] rfl (World.ownsRow_nil _ _ _ _) ⟨b, 0, none⟩ 1 c x.cells rfl rfl hx h1 (by unfold maxLen; omega) (by omega) (Nat.le_refl _) ?_; intro v' w1 hown' hgrow _)
  go_ret
  exact ⟨v', rfl, hown', (Below.refl _ _).grown hgrow (Nat.le_refl _) (fun k e => by simp [Value.ownBlock] at e)⟩

theorem cells_new (w : World) (cs : Array Value) (t : TypeId) : ∀ j u, cs.toList[j]? = some u → (w.alloc (.cells cs t)).cell? ((⟨w.heap.size, 0, none⟩ : Addr).add j) = some u := by
  intro j u h
  rw [Addr.add_lit]
  have := heap_alloc_new w (.cells cs t)
  unfold World.cell?
  dsimp only
  rw [this]
  simpa using h

def nodeA : Nd := ⟨[97], 53, none, 0, 0, []⟩

set_option maxRecDepth 100000 in
set_option maxHeartbeats 4000000 in
theorem put_a (w : World) : Calls Try.prog 26 #[.slice none 0 0, .agg nodeA.cells.toArray] w fun e w' => ∃ v, e = .returned v ∧ w'.ownsRow w.heap.size 31 4 v 1 nodeA.cells ∧ Below w.heap.size w w' := by
  unfold nodeA Nd.cells
  dsimp only
  go_enter Try.func26, Try.ntmps26
  go_wp2_with (first
    | (go_at_call 46; refine (clone_nil _).mono ?_; rintro e w' ⟨rfl, rfl⟩)
    | (go_at_call 48; refine (copied_nil _).mono ?_; rintro e w' ⟨rfl, rfl⟩)
    | (go_at_call 47; refine (delete_nil _ _ _).mono ?_; rintro e w' ⟨rfl, rfl⟩)
    | (go_at_call 50; refine (index_nil _ _).mono ?_; rintro e w' ⟨rfl, rfl⟩)
    | (go_at_call 52; refine (insert_nil nodeA (w.heap.size + 1) 1 _ (fun j u h => by have := cells_new (w.alloc (.cells #[.string ⟨#[97]⟩, .int .u8 53, .slice none 0 0, .string ⟨#[]⟩] 31)) nodeA.cells.toArray 31 j u h; simpa [nodeA, Nd.cells] using this)).mono ?_; rintro e w' ⟨v, rfl, ho, hb⟩))
  go_ret
  exact ⟨v, rfl, own_wider ho (by simp; omega), (((Below.refl _ w).alloc (Nat.le_refl _) _).alloc (by simp) _).trans (hb.mono (by simp; omega))⟩

set_option maxHeartbeats 1000000 in
/-- Is it the path? -/
theorem is_path (x : Nd) (b : Nat) (s : List UInt8) (w : World) (hs : w.cell? ⟨b, 0, none⟩ = some (.string ⟨s.toArray⟩)) (hb : b < w.heap.size) :
    Calls Try.prog 74 #[.agg x.cells.toArray, .pointer (some ⟨b, 0, none⟩)] w fun e w' => e = .returned (.bool (x.path == s)) ∧ Below w.heap.size w w' := by
  obtain ⟨p, k, A, n, c, l⟩ := x
  unfold Nd.cells
  dsimp only
  have h2 : (w.alloc (.cells #[.string ⟨p.toArray⟩, .int .u8 k, .slice A n c, .string ⟨l.toArray⟩] 31)).cell? ⟨b, 0, none⟩ = some (.string ⟨s.toArray⟩) := (World.cell?_of_block (Below.heap_alloc w _ b hb)).trans hs
  go_enter Try.func74, Try.ntmps74
  go_wp2_with fail
  go_ret
  exact ⟨rfl, (Below.refl _ w).alloc (Nat.le_refl _) _⟩

set_option maxRecDepth 100000 in
set_option maxHeartbeats 4000000 in
theorem find_a (g c : Nat) (w : World) (hg : ∀ j u, nodeA.cells[j]? = some u → w.cell? ⟨g, j, none⟩ = some u) (hgl : g < w.heap.size) :
    Calls Try.prog 60 #[.slice (some ⟨g, 0, none⟩) 1 c, .string ⟨#[97]⟩] w fun e w' => e = .returned (.int .i64 0) ∧ Below w.heap.size w w' := by
  have HB : ∀ W, Below w.heap.size w W → W.cell? ⟨g, 0, none⟩ = some (.string ⟨#[97]⟩) ∧ W.cell? ⟨g, 1, none⟩ = some (.int .u8 53) ∧ W.cell? ⟨g, 2, none⟩ = some (.slice none 0 0) ∧ W.cell? ⟨g, 3, none⟩ = some (.string ⟨#[]⟩) := fun W hW =>
    ⟨(hW.cell (p := ⟨g, 0, none⟩) hgl).trans (hg 0 _ rfl), (hW.cell (p := ⟨g, 1, none⟩) hgl).trans (hg 1 _ rfl), (hW.cell (p := ⟨g, 2, none⟩) hgl).trans (hg 2 _ rfl), (hW.cell (p := ⟨g, 3, none⟩) hgl).trans (hg 3 _ rfl)⟩
  have hA : Below w.heap.size w (w.alloc (.cells #[.string ⟨#[97]⟩] 9)) := (Below.refl _ w).alloc (Nat.le_refl _) _
  obtain ⟨q0, q1, q2, q3⟩ := HB _ hA
  have hI : Calls Try.prog 50 #[.slice (some ⟨g, 0, none⟩) 1 c, .func (.func 74) #[] #[.pointer (some ⟨w.heap.size, 0, none⟩)]] (w.alloc (.cells #[.string ⟨#[97]⟩] 9)) fun e w' => e = .returned (.int .i64 0) ∧ Below w.heap.size w w' := by
    have hP := is_path nodeA w.heap.size [97] (w.alloc (.cells #[.string ⟨#[97]⟩] 9)) (cell_of (heap_alloc_new w (.cells #[.string ⟨#[97]⟩] 9))).1 (by simp)
    rw [show (nodeA.path == [97]) = true from rfl] at hP
    go_enter Try.func50, Try.ntmps50
    go_wp2_with fail
    refine wp_loop_rounds 1 ?_
    rw [rounds_succ]
    go_wp2_with (go_at_call 74; refine hP.mono ?_; rintro e w' ⟨rfl, hb⟩)
    go_ret
    exact ⟨rfl, hA.trans (hb.mono (by simp))⟩
  go_enter Try.func60, Try.ntmps60
  go_wp2_with (go_at_call 50; refine hI.mono ?_; rintro e w' ⟨rfl, hb⟩)
  go_ret
  exact ⟨rfl, hb⟩

set_option maxRecDepth 100000 in
set_option maxHeartbeats 4000000 in
theorem findN_a (g c : Nat) (w : World) (hg : ∀ j u, nodeA.cells[j]? = some u → w.cell? ⟨g, j, none⟩ = some u) (hgl : g < w.heap.size) :
    Calls Try.prog 35 #[.slice (some ⟨g, 0, none⟩) 1 c, .string ⟨#[97]⟩] w fun e w' => e = .returned (.tuple #[.agg nodeA.cells.toArray, .bool true]) ∧ Below w.heap.size w w' := by
  have HB : ∀ W, Below w.heap.size w W → W.cell? ⟨g, 0, none⟩ = some (.string ⟨#[97]⟩) ∧ W.cell? ⟨g, 1, none⟩ = some (.int .u8 53) ∧ W.cell? ⟨g, 2, none⟩ = some (.slice none 0 0) ∧ W.cell? ⟨g, 3, none⟩ = some (.string ⟨#[]⟩) := fun W hW =>
    ⟨(hW.cell (p := ⟨g, 0, none⟩) hgl).trans (hg 0 _ rfl), (hW.cell (p := ⟨g, 1, none⟩) hgl).trans (hg 1 _ rfl), (hW.cell (p := ⟨g, 2, none⟩) hgl).trans (hg 2 _ rfl), (hW.cell (p := ⟨g, 3, none⟩) hgl).trans (hg 3 _ rfl)⟩
  obtain ⟨z, hz⟩ : ∃ z, z = (.cells #[.string ⟨#[]⟩, .int .u8 0, .slice none 0 0, .string ⟨#[]⟩] 31 : Obj) := ⟨_, rfl⟩
  have hA : Below w.heap.size w (w.alloc z) := (Below.refl _ w).alloc (Nat.le_refl _) _
  have hF := find_a g c (w.alloc z) (fun j u h => (hA.cell (p := ⟨g, j, none⟩) hgl).trans (hg j u h)) (by simp; omega)
  have hk := heap_alloc_new w z
  rw [hz] at hF hk
  have HZ : ∀ w1, Below (w.heap.size + 1) (w.alloc (.cells #[.string ⟨#[]⟩, .int .u8 0, .slice none 0 0, .string ⟨#[]⟩] 31)) w1 → ∀ o,
      (w1.alloc o).cell? ⟨w.heap.size, 0, none⟩ = some (.string ⟨#[]⟩) ∧ (w1.alloc o).cell? ⟨w.heap.size, 1, none⟩ = some (.int .u8 0) ∧ (w1.alloc o).cell? ⟨w.heap.size, 2, none⟩ = some (.slice none 0 0) ∧ (w1.alloc o).cell? ⟨w.heap.size, 3, none⟩ = some (.string ⟨#[]⟩) ∧
      (w1.alloc o).frozen? ⟨w.heap.size, 0, none⟩ = false ∧ (w1.alloc o).frozen? ⟨w.heap.size, 1, none⟩ = false ∧ (w1.alloc o).frozen? ⟨w.heap.size, 2, none⟩ = false ∧ (w1.alloc o).frozen? ⟨w.heap.size, 3, none⟩ = false := by
    intro w1 hb o
    have h1 := (hb.block w.heap.size (by omega)).trans hk
    have h2 : (w1.alloc o).heap[w.heap.size]? = _ := (Below.heap_alloc w1 o _ (Array.getElem?_eq_some_iff.1 h1).1).trans h1
    unfold World.cell? World.frozen?
    dsimp only
    rw [h2]
    exact ⟨rfl, rfl, rfl, rfl, rfl, rfl, rfl, rfl⟩
  go_enter Try.func35, Try.ntmps35
  go_wp2_with (first | (go_at_call 60; refine hF.mono ?_; rintro e w1 ⟨rfl, hb⟩; obtain ⟨q0, q1, q2, q3⟩ := HB w1 (by rw [hz] at hA; exact hA.trans (hb.mono (by simp))); obtain ⟨c0, c1, c2, c3, f0, f1, f2, f3⟩ := HZ w1 (by simpa using hb) (.cells #[.string ⟨#[97]⟩, .int .u8 53, .slice none 0 0, .string ⟨#[]⟩] 31)) | (go_at_call 46; refine (clone_nil _).mono ?_; rintro e w' ⟨rfl, rfl⟩))
  have h1 := (hb.block w.heap.size (by simp)).trans hk
  have m0 := (Below.heap_alloc w1 (.cells #[.string ⟨#[97]⟩, .int .u8 53, .slice none 0 0, .string ⟨#[]⟩] 31) _ (Array.getElem?_eq_some_iff.1 h1).1).trans h1
  have m1 := heap_setCell_same _ w.heap.size 0 _ 31 (.string ⟨#[97]⟩) m0
  have m2 := heap_setCell_same _ w.heap.size 1 _ 31 (.int .u8 53) m1
  have m3 := heap_setCell_same _ w.heap.size 2 _ 31 (.slice none 0 0) m2
  have m4 := heap_setCell_same _ w.heap.size 3 _ 31 (.string ⟨#[]⟩) m3
  have hb5 : Below w.heap.size w (((((w1.alloc (.cells #[.string ⟨#[97]⟩, .int .u8 53, .slice none 0 0, .string ⟨#[]⟩] 31)).setCell ⟨w.heap.size, 0, none⟩ (.string ⟨#[97]⟩)).setCell ⟨w.heap.size, 1, none⟩ (.int .u8 53)).setCell ⟨w.heap.size, 2, none⟩ (.slice none 0 0)).setCell ⟨w.heap.size, 3, none⟩ (.string ⟨#[]⟩)) := by
    rw [hz] at hA
    have hb1 : Below w.heap.size w w1 := hA.trans (hb.mono (by simp))
    exact ((((hb1.alloc hb1.size _).setCell (p := ⟨w.heap.size, 0, none⟩) (Nat.le_refl _) _).setCell (p := ⟨w.heap.size, 1, none⟩) (Nat.le_refl _) _).setCell (p := ⟨w.heap.size, 2, none⟩) (Nat.le_refl _) _).setCell (p := ⟨w.heap.size, 3, none⟩) (Nat.le_refl _) _
  generalize ((((w1.alloc (.cells #[.string ⟨#[97]⟩, .int .u8 53, .slice none 0 0, .string ⟨#[]⟩] 31)).setCell ⟨w.heap.size, 0, none⟩ (.string ⟨#[97]⟩)).setCell ⟨w.heap.size, 1, none⟩ (.int .u8 53)).setCell ⟨w.heap.size, 2, none⟩ (.slice none 0 0)).setCell ⟨w.heap.size, 3, none⟩ (.string ⟨#[]⟩) = w5 at m4 hb5 ⊢
  have d0 : w5.cell? ⟨w.heap.size, 0, none⟩ = some (.string ⟨#[97]⟩) := by unfold World.cell?; dsimp only; rw [m4]; rfl
  have d1 : w5.cell? ⟨w.heap.size, 1, none⟩ = some (.int .u8 53) := by unfold World.cell?; dsimp only; rw [m4]; rfl
  have d2 : w5.cell? ⟨w.heap.size, 2, none⟩ = some (.slice none 0 0) := by unfold World.cell?; dsimp only; rw [m4]; rfl
  have d3 : w5.cell? ⟨w.heap.size, 3, none⟩ = some (.string ⟨#[]⟩) := by unfold World.cell?; dsimp only; rw [m4]; rfl
  refine bodyPost_ret (v := .tuple #[.agg nodeA.cells.toArray, .bool true]) ?_ rfl ⟨rfl, hb5⟩
  simp [results, Try.f35, go_sem, d0, d1, d2, d3, nodeA, Nd.cells]

end Go.Proofs.Ytlbipmlbkcdmnaa

/-
  Nodes in memory: what they read as; clones of them and of their bytes.
-/
namespace Go.Proofs.Ytlbipmlbkcdmnaa
open Go.RowKit

/-- What a slice of whole numbers reads as: nil, empty and other slices alike. -/
def Rd (w : World) (k : IntKind) (A : Option Addr) (n : Nat) (xs : List Int) : Prop :=
  xs.length = n ∧ ∀ j, j < n → ∃ ad, A = some ad ∧ w.cell? (ad.add j) = some (.int k (xs.getD j 0))

theorem rd_of_own {w : World} {B : Nat} {A : Option Addr} {n c : Nat} {xs : List Int} (h : w.ownsRow B 5 1 (.slice A n c) n (xs.map (Value.int .u8))) : Rd w .u8 A n xs := by
  have hl : xs.length = n := by simpa using h.1
  refine ⟨hl, fun j hj => ?_⟩
  rcases h.2 with ⟨_, h0⟩ | ⟨g, cap, cur, hv, _⟩
  · omega
  · injection hv with hA _ _
    subst hA
    refine ⟨⟨g, 0, none⟩, rfl, h.cells (g := g) rfl j _ ?_⟩
    simp [show j < xs.length by omega]

theorem Rd.below {w w' : World} {k : IntKind} {A : Option Addr} {n : Nat} {xs : List Int} (h : Rd w k A n xs) (hb : Below w.heap.size w w') : Rd w' k A n xs :=
  ⟨h.1, fun j hj => by
    obtain ⟨ad, hA, hc⟩ := h.2 j hj
    exact ⟨ad, hA, (hb.cell (World.block_lt_of_cell? w _ hc)).trans hc⟩⟩

theorem own_cap {w : World} {B : Nat} {e : TypeId} {size : Nat} {A : Option Addr} {n c : Nat} {xs : List Value} (h : w.ownsRow B e size (.slice A n c) n xs) : n ≤ c := by
  rcases h.2 with ⟨hv, h0⟩ | ⟨g, cap, cur, hv, hb, hg, hc, _⟩
  · omega
  · injection hv with _ _ h3; omega

theorem cells_of_rd {w : World} {A : Option Addr} {n : Nat} {xs : List Int} (h : Rd w .u8 A n xs) : ∀ j u, (xs.map (Value.int .u8))[j]? = some u → ∃ ad, A = some ad ∧ w.cell? (ad.add j) = some u := by
  intro j u hu
  have hj : j < xs.length := by
    have := (List.getElem?_eq_some_iff.1 hu).1
    simpa using this
  obtain ⟨ad, hA, hc⟩ := h.2 j (by rw [← h.1]; exact hj)
  refine ⟨ad, hA, hc.trans ?_⟩
  rw [← hu]
  simp [hj]

theorem u8_oneCell (zs : List Int) : ∀ u ∈ zs.map (Value.int .u8), u.oneCell' = true := by
  intro u hu
  obtain ⟨_, _, rfl⟩ := List.mem_map.1 hu
  rfl

theorem Try.info5 : (Try.prog.info? 5).map (fun i => (i.zero, i.size, i.bytes)) = some (some (.int .u8 0), 1, 1) := by kernel_rfl

set_option maxRecDepth 100000 in
set_option maxHeartbeats 1000000 in
/-- slices.Clone at bytes. -/
theorem clone_any {w : World} {A : Option Addr} {n c : Nat} {xs : List Int} (h : Rd w .u8 A n xs) (hn : n ≤ 4000000000000) :
    Calls Try.prog 46 #[.slice A n c] w fun e w' => ∃ A' c', e = .returned (.slice A' n c') ∧ w'.ownsRow w.heap.size 5 1 (.slice A' n c') n (xs.map (Value.int .u8)) ∧ Below w.heap.size w w' := by
  cases A with
  | none =>
    have h0 : n = 0 := by
      rcases Nat.eq_zero_or_pos n with h0 | h0
      · exact h0
      · obtain ⟨ad, hA, _⟩ := h.2 0 h0; cases hA
    subst h0
    have hrun := fun W : World => Lib.run_eql_slice_nil (P := Try.prog) W 29 5 none 0 c 0 0 Try.underlying29
    have HH := Lib.hid h; clear h
    go_enter Try.func46, Try.ntmps46
    go_wp2
    go_ret
    obtain rfl : xs = [] := List.eq_nil_of_length_eq_zero HH.out.1
    exact ⟨none, 0, rfl, World.ownsRow_nil _ _ _ _, Below.refl _ _⟩
  | some ad =>
    obtain ⟨i0, hi, hz0, hz1, hz2⟩ := info_parts Try.info5
    have hrun := fun W : World => Lib.run_eql_slice_nil (P := Try.prog) W 29 5 (some ad) n c 0 0 Try.underlying29
    have HH := Lib.hid h; clear h
    go_enter Try.func46, Try.ntmps46
    go_wp2_with (at_builtin; refine wpList_append_own _ rfl _ _ 29 rfl w.heap.size 5 i0 (.int .u8 0) 1 1 Try.underlying29 hi hz0 hz1 hz2 rfl (by decide) _ 0 [] rfl (World.ownsRow_made w #[] 0 (Nat.le_refl _) (by simp [maxLen]) rfl) ad n c (xs.map (Value.int .u8)) rfl (by simpa using HH.out.1) (fun j u hu => by obtain ⟨ad', hA, hc⟩ := cells_of_rd HH.out j u hu; cases hA; exact (Below.cell ((Below.refl _ w).alloc (Nat.le_refl _) _) (World.block_lt_of_cell? w _ hc)).trans hc) (u8_oneCell xs) (by unfold maxLen; omega) (by omega) (by simp) ?_; intro v' w1 hown1 hgrow1 _; simp only [Nat.zero_add, List.nil_append] at hown1; obtain ⟨A', c', rfl⟩ := own_form hown1)
    go_ret
    exact ⟨A', c', rfl, hown1, ((Below.refl _ w).alloc (Nat.le_refl _) _).grown hgrow1 (by simp) (fun k e => Nat.le_of_eq (Option.some.inj e))⟩

/-- The cells of nodes, one behind the other. -/
def cellsOf (ns : List Nd) : List Value := ns.flatMap Nd.cells

theorem cellsOf_length (ns : List Nd) : (cellsOf ns).length = ns.length * 4 := by
  induction ns with
  | nil => rfl
  | cons x r ih =>
    unfold cellsOf at ih ⊢
    rw [List.flatMap_cons, List.length_append, ih]
    simp [Nd.cells]
    omega

theorem cellsOf_at {ns : List Nd} {j i : Nat} {x : Nd} (h : ns[j]? = some x) (hi : i < 4) : (cellsOf ns)[j * 4 + i]? = x.cells[i]? := by
  induction ns generalizing j with
  | nil => simp at h
  | cons y r ih =>
    unfold cellsOf at ih ⊢
    rw [List.flatMap_cons]
    cases j with
    | zero =>
      obtain rfl : y = x := by simpa using h
      rw [List.getElem?_append_left (by simp [Nd.cells]; omega)]
      simp
    | succ j =>
      rw [List.getElem?_append_right (by simp [Nd.cells]; omega)]
      have := ih (j := j) (by simpa using h)
      rw [← this]
      simp [Nd.cells]
      congr 1
      omega

theorem cells_one (ns : List Nd) : ∀ u ∈ cellsOf ns, u.oneCell' = true := by
  intro u hu
  obtain ⟨x, _, hx⟩ := List.mem_flatMap.1 hu
  unfold Nd.cells at hx
  simp at hx
  rcases hx with rfl | rfl | rfl | rfl <;> rfl

theorem own_nodes {w : World} {B : Nat} {A : Option Addr} {n c : Nat} {ns : List Nd} (h : w.ownsRow B 31 4 (.slice A n c) n (cellsOf ns)) : n = ns.length ∧ Nodes w A ns := by
  have hl : n = ns.length := by
    have h1 := h.1
    rw [cellsOf_length] at h1
    omega
  refine ⟨hl, ?_⟩
  rcases h.2 with ⟨_, h0⟩ | ⟨g, cap, cur, hv, hb, hg, _⟩
  · exact .inl (List.eq_nil_of_length_eq_zero (by omega))
  · injection hv with hA _ _
    subst hA
    refine .inr ⟨g, 0, rfl, (Array.getElem?_eq_some_iff.1 hg).1, fun j x hj => ?_⟩
    have hc : ∀ i v, i < 4 → x.cells[i]? = some v → w.cell? ⟨g, 0 + j * 4 + i, none⟩ = some v := fun i v hi hv => by
      have := h.cells (g := g) rfl (j * 4 + i) v ((cellsOf_at hj hi).trans hv)
      rw [Addr.add_lit] at this
      rw [show 0 + j * 4 + i = 0 + (j * 4 + i) by omega]
      exact this
    exact ⟨hc 0 _ (by omega) rfl, hc 1 _ (by omega) rfl, hc 2 _ (by omega) rfl, hc 3 _ (by omega) rfl⟩

end Go.Proofs.Ytlbipmlbkcdmnaa

/-
  Nodes in new memory.
-/
namespace Go.Proofs.Ytlbipmlbkcdmnaa
open Go.RowKit

/-- A node as it is read. -/
structure Sn where
  path : List UInt8
  kind : Int
  data : List Int
  link : List UInt8

/-- What the cells of a node say. -/
def NdAt (w : World) (x : Nd) (s : Sn) : Prop :=
  x.path = s.path ∧ x.kind = s.kind ∧ x.link = s.link ∧ Rd w .u8 x.adr x.len s.data ∧ x.len ≤ x.cap ∧ x.len ≤ 4000000000000

def Like (w : World) (ns : List Nd) (ss : List Sn) : Prop :=
  ns.length = ss.length ∧ ∀ (j : Nat) (x : Nd) (s : Sn), ns[j]? = some x → ss[j]? = some s → NdAt w x s

/-- A node whose bytes lie in memory of one's own, from block B on. -/
def NdOwn (w : World) (B : Nat) (x : Nd) (s : Sn) : Prop :=
  x.path = s.path ∧ x.kind = s.kind ∧ x.link = s.link ∧ w.ownsRow B 5 1 (.slice x.adr x.len x.cap) x.len (s.data.map (Value.int .u8)) ∧ x.len ≤ 4000000000000
def LikeO (w : World) (B : Nat) (ns : List Nd) (ss : List Sn) : Prop :=
  ns.length = ss.length ∧ ∀ (j : Nat) (x : Nd) (s : Sn), ns[j]? = some x → ss[j]? = some s → NdOwn w B x s

theorem own_below {w w' : World} {B : Nat} {e : TypeId} {size : Nat} {v : Value} {n : Nat} {xs : List Value} (h : w.ownsRow B e size v n xs) (hb : Below w.heap.size w w') : w'.ownsRow B e size v n xs :=
  own_stays h fun k _ hk => hb.block k hk

/-- A row of one's own stays while a block of another element's type is turned. -/
theorem own_other {w w' : World} {B : Nat} {e e' : TypeId} {size : Nat} {v : Value} {n g : Nat} {xs : List Value} (h : w.ownsRow B e size v n xs) {cs : Array Value} {f : Nat × Nat} (hg : w.heap[g]? = some (.cells cs e' f)) (hne : e ≠ e')
    (hk : ∀ k, k < w.heap.size → k ≠ g → w'.heap[k]? = w.heap[k]?) : w'.ownsRow B e size v n xs := by
  obtain ⟨h1, h2⟩ := h
  refine ⟨h1, ?_⟩
  rcases h2 with h2 | ⟨g', cap, cur, rfl, hb, hg', rest⟩
  · exact .inl h2
  · refine .inr ⟨g', cap, cur, rfl, hb, (hk g' (Array.getElem?_eq_some_iff.1 hg').1 (fun e1 => ?_)).trans hg', rest⟩
    subst e1
    rw [hg] at hg'
    injection hg' with hg'
    injection hg' with _ ht _
    exact hne ht.symm

theorem NdOwn.at {w : World} {B : Nat} {x : Nd} {s : Sn} (h : NdOwn w B x s) : NdAt w x s :=
  ⟨h.1, h.2.1, h.2.2.1, rd_of_own h.2.2.2.1, own_cap h.2.2.2.1, h.2.2.2.2⟩
theorem LikeO.like {w : World} {B : Nat} {ns : List Nd} {ss : List Sn} (h : LikeO w B ns ss) : Like w ns ss := ⟨h.1, fun j x s hx hs => (h.2 j x s hx hs).at⟩
theorem NdOwn.below {w w' : World} {B : Nat} {x : Nd} {s : Sn} (h : NdOwn w B x s) (hb : Below w.heap.size w w') : NdOwn w' B x s :=
  ⟨h.1, h.2.1, h.2.2.1, own_below h.2.2.2.1 hb, h.2.2.2.2⟩
theorem NdOwn.wider {w : World} {B B' : Nat} {x : Nd} {s : Sn} (h : NdOwn w B x s) (hb : B' ≤ B) : NdOwn w B' x s :=
  ⟨h.1, h.2.1, h.2.2.1, own_wider h.2.2.2.1 hb, h.2.2.2.2⟩
theorem LikeO.below {w w' : World} {B : Nat} {ns : List Nd} {ss : List Sn} (h : LikeO w B ns ss) (hb : Below w.heap.size w w') : LikeO w' B ns ss :=
  ⟨h.1, fun j x s hx hs => (h.2 j x s hx hs).below hb⟩
/-- .. while the block of nodes is turned. -/
theorem NdOwn.other {w w' : World} {B g : Nat} {x : Nd} {s : Sn} (h : NdOwn w B x s) {cs : Array Value} {f : Nat × Nat} (hg : w.heap[g]? = some (.cells cs 31 f)) (hk : ∀ k, k < w.heap.size → k ≠ g → w'.heap[k]? = w.heap[k]?) : NdOwn w' B x s :=
  ⟨h.1, h.2.1, h.2.2.1, own_other h.2.2.2.1 hg (by decide) hk, h.2.2.2.2⟩

theorem NdAt.below {w w' : World} {x : Nd} {s : Sn} (h : NdAt w x s) (hb : Below w.heap.size w w') : NdAt w' x s :=
  ⟨h.1, h.2.1, h.2.2.1, h.2.2.2.1.below hb, h.2.2.2.2⟩
theorem Like.below {w w' : World} {ns : List Nd} {ss : List Sn} (h : Like w ns ss) (hb : Below w.heap.size w w') : Like w' ns ss :=
  ⟨h.1, fun j x s hx hs => (h.2 j x s hx hs).below hb⟩
theorem Nodes.below {w w' : World} {A : Option Addr} {ns : List Nd} (h : Nodes w A ns) (hb : Below w.heap.size w w') : Nodes w' A ns := by
  rcases h with h | ⟨b, off, rfl, hl, hc⟩
  · exact .inl h
  · refine .inr ⟨b, off, rfl, by have := hb.size; omega, fun j x hj => ?_⟩
    obtain ⟨a0, a1, a2, a3⟩ := hc j x hj
    exact ⟨(hb.cell (p := ⟨b, off + j * 4, none⟩) hl).trans a0, (hb.cell (p := ⟨b, off + j * 4 + 1, none⟩) hl).trans a1, (hb.cell (p := ⟨b, off + j * 4 + 2, none⟩) hl).trans a2, (hb.cell (p := ⟨b, off + j * 4 + 3, none⟩) hl).trans a3⟩

theorem nodes_cells {w : World} {A : Option Addr} {ns : List Nd} (h : Nodes w A ns) : ∀ j u, (cellsOf ns)[j]? = some u → ∃ ad, A = some ad ∧ w.cell? (ad.add j) = some u := by
  intro j u hu
  have hj := (List.getElem?_eq_some_iff.1 hu).1
  rw [cellsOf_length] at hj
  rcases h with rfl | ⟨b, off, rfl, hl, hc⟩
  · simp at hj
  · have hq : j / 4 < ns.length := by omega
    have hx : ns[j / 4]? = some ns[j / 4] := List.getElem?_eq_getElem hq
    have hm : j % 4 < 4 := by omega
    have he : j / 4 * 4 + j % 4 = j := by omega
    have := cellsOf_at hx hm
    rw [he, hu] at this
    obtain ⟨a0, a1, a2, a3⟩ := hc _ _ hx
    refine ⟨_, rfl, ?_⟩
    rw [Addr.add_lit, ← he, ← Nat.add_assoc]
    generalize ns[j / 4] = x at this a0 a1 a2 a3
    have h4 : j % 4 = 0 ∨ j % 4 = 1 ∨ j % 4 = 2 ∨ j % 4 = 3 := by omega
    rcases h4 with h4 | h4 | h4 | h4 <;> rw [h4] at this ⊢ <;> (have := Option.some.inj this; subst this; assumption)

set_option maxRecDepth 100000 in
set_option maxHeartbeats 1000000 in
/-- slices.Clone at nodes. -/
theorem cloneN_any {w : World} {A : Option Addr} {n c : Nat} {ns : List Nd} (h : Nodes w A ns) (hl : n = ns.length) (hn : n ≤ 1000000000000) (hnil : A = none → n = 0) :
    Calls Try.prog 69 #[.slice A n c] w fun e w' => ∃ A' c', e = .returned (.slice A' n c') ∧ w'.ownsRow w.heap.size 31 4 (.slice A' n c') n (cellsOf ns) ∧ Below w.heap.size w w' := by
  cases A with
  | none =>
    obtain rfl := hnil rfl
    obtain rfl : ns = [] := List.eq_nil_of_length_eq_zero hl.symm
    have hrun := fun W : World => Lib.run_eql_slice_nil (P := Try.prog) W 28 31 none 0 c 0 0 Try.underlying28
    clear h hl hnil
    go_enter Try.func69, Try.ntmps69
    go_wp2
    go_ret
    exact ⟨none, 0, rfl, World.ownsRow_nil _ _ _ _, Below.refl _ _⟩
  | some ad =>
    obtain ⟨i0, hi, hz0, hz1, hz2⟩ := info_parts Try.info31
    have hrun := fun W : World => Lib.run_eql_slice_nil (P := Try.prog) W 28 31 (some ad) n c 0 0 Try.underlying28
    have HH := Lib.hid h; clear h
    have HL := Lib.hid hl; clear hl
    clear hnil
    go_enter Try.func69, Try.ntmps69
    go_wp2_with (at_builtin; refine wpList_append_own _ rfl _ _ 28 rfl w.heap.size 31 i0 _ 4 64 Try.underlying28 hi hz0 hz1 hz2 rfl (by decide) _ 0 [] rfl (World.ownsRow_made w #[] 0 (Nat.le_refl _) (by simp [maxLen]) rfl) ad n c (cellsOf ns) rfl (by rw [cellsOf_length, HL.out]) (fun j u hu => by obtain ⟨ad', hA, hc⟩ := nodes_cells HH.out j u hu; cases hA; exact (Below.cell ((Below.refl _ w).alloc (Nat.le_refl _) _) (World.block_lt_of_cell? w _ hc)).trans hc) (cells_one ns) (by unfold maxLen; omega) (by omega) (by simp) ?_; intro v' w1 hown1 hgrow1 _; simp only [Nat.zero_add, List.nil_append] at hown1; obtain ⟨A', c', rfl⟩ := own_form hown1)
    go_ret
    exact ⟨A', c', rfl, hown1, ((Below.refl _ w).alloc (Nat.le_refl _) _).grown hgrow1 (by simp) (fun k e => Nat.le_of_eq (Option.some.inj e))⟩

/-- A node's slice of bytes is exchanged. -/
theorem cellsOf_set {ns : List Nd} {j : Nat} {x : Nd} (h : ns[j]? = some x) (A : Option Addr) (l c : Nat) :
    (cellsOf ns).set (j * 4 + 2) (.slice A l c) = cellsOf (ns.set j { x with adr := A, len := l, cap := c }) := by
  induction ns generalizing j with
  | nil => simp at h
  | cons y r ih =>
    unfold cellsOf at ih ⊢
    rw [List.flatMap_cons]
    cases j with
    | zero =>
      obtain rfl : y = x := by simpa using h
      simp [Nd.cells]
    | succ j =>
      have := ih (j := j) (by simpa using h)
      rw [List.set_append_right _ _ (by simp [Nd.cells]; omega), List.set_cons_succ, List.flatMap_cons, ← this]
      simp [Nd.cells]
      congr 1
      omega

end Go.Proofs.Ytlbipmlbkcdmnaa

/-
  Nodes in new memory: copied.
-/
namespace Go.Proofs.Ytlbipmlbkcdmnaa
open Go.RowKit

theorem Rd.setSlice {w : World} {A : Option Addr} {n : Nat} {xs : List Int} (h : Rd w .u8 A n xs) {p : Addr} {B : Option Addr} {m d : Nat} (hp : w.cell? p = some (.slice B m d)) (v : Value) : Rd (w.setCell p v) .u8 A n xs := by
  refine ⟨h.1, fun j hj => ?_⟩
  obtain ⟨ad, hA, hc⟩ := h.2 j hj
  refine ⟨ad, hA, ?_⟩
  rw [World.cell?_setCell_other _ _ _ _ (fun e => by rw [e] at hp; rw [hp] at hc; cases hc)]
  exact hc

theorem NdAt.setSlice {w : World} {x : Nd} {s : Sn} (h : NdAt w x s) {p : Addr} {B : Option Addr} {m d : Nat} (hp : w.cell? p = some (.slice B m d)) (v : Value) : NdAt (w.setCell p v) x s :=
  ⟨h.1, h.2.1, h.2.2.1, h.2.2.2.1.setSlice hp v, h.2.2.2.2⟩

set_option maxRecDepth 100000 in
set_option maxHeartbeats 4000000 in
theorem copied_any {w : World} {A : Option Addr} {n c : Nat} {ns : List Nd} {ss : List Sn} (h : Nodes w A ns) (hL : Like w ns ss) (hl : n = ns.length) (hn : n ≤ 1000000000000) (hnil : A = none → n = 0) :
    Calls Try.prog 48 #[.slice A n c] w fun e w' => ∃ A' c' ns', e = .returned (.slice A' n c') ∧ w'.ownsRow w.heap.size 31 4 (.slice A' n c') n (cellsOf ns') ∧ LikeO w' w.heap.size ns' ss ∧ Below w.heap.size w w' := by
  have HC := cloneN_any (c := c) h hl hn hnil
  clear h hl
  go_enter Try.func48, Try.ntmps48
  go_wp2_with fail
  refine HC.mono ?_
  rintro e w1 ⟨A', c', rfl, ho1, hb1⟩
  have hL1 := hL.below hb1
  go_wp2_with fail
  go_loopw [4, 5, 10, 11, 12, 13, 14, 15, 16, 17, 18, 19, 20, 21, 22] (fun _ _ i _ _ _ _ _ _ _ _ _ _ _ _ wr => ∃ (k : Nat) (ms : List Nd), k ≤ n ∧ i = .int .i64 k ∧ wr.ownsRow w.heap.size 31 4 (.slice A' n c') n (cellsOf ms) ∧ Like wr ms ss ∧ (∀ (j : Nat) (x : Nd) (s : Sn), j < k → ms[j]? = some x → ss[j]? = some s → NdOwn wr w.heap.size x s) ∧ Below w.heap.size w wr)
    (fun _ _ i _ _ _ _ _ _ _ _ _ _ _ _ _ => n - (intOf i).toNat)
  case atStart => exact ⟨0, ns, Nat.zero_le _, rfl, ho1, hL1, fun j _ _ hj => absurd hj (Nat.not_lt_zero _), hb1⟩
  case round =>
    obtain ⟨k, ms, hk, rfl, ho, hLk, hOk, hb⟩ := hrel
    by_cases hlt : k < n
    · have hkz : (k : Int) < (n : Int) := by omega
      obtain ⟨hml, hnd⟩ := own_nodes ho
      rcases ho.2 with ⟨_, h0⟩ | ⟨g, cap, cur, hv, hgb, hg, hcap, _⟩
      · omega
      injection hv with hv1 _ hv3
      subst hv1; subst hv3
      have hgl := (Array.getElem?_eq_some_iff.1 hg).1
      obtain ⟨x, hx⟩ : ∃ x, ms[k]? = some x := ⟨_, List.getElem?_eq_getElem (by omega)⟩
      obtain ⟨s, hs⟩ : ∃ s, ss[k]? = some s := ⟨_, List.getElem?_eq_getElem (by have := hLk.1; omega)⟩
      have hxs := hLk.2 k x s hx hs
      have cellAt : ∀ i v, i < 4 → x.cells[i]? = some v → wr.cell? ⟨g, k * 4 + i, none⟩ = some v := fun i v hi hv => by
        have := ho.cells (g := g) rfl (k * 4 + i) v ((cellsOf_at hx hi).trans hv)
        rw [Addr.add_lit] at this
        simpa using this
      have x0 : wr.cell? ⟨g, k * 4, none⟩ = some (.string ⟨x.path.toArray⟩) := cellAt 0 _ (by omega) rfl
      have x1 : wr.cell? ⟨g, k * 4 + 1, none⟩ = some (.int .u8 x.kind) := cellAt 1 _ (by omega) rfl
      have x2 : wr.cell? ⟨g, k * 4 + 2, none⟩ = some (.slice x.adr x.len x.cap) := cellAt 2 _ (by omega) rfl
      have x3 : wr.cell? ⟨g, k * 4 + 3, none⟩ = some (.string ⟨x.link.toArray⟩) := cellAt 3 _ (by omega) rfl
      have hbA : Below wr.heap.size wr (wr.alloc (.cells #[.string ⟨x.path.toArray⟩, .int .u8 x.kind, .slice x.adr x.len x.cap, .string ⟨x.link.toArray⟩] 31)) := (Below.refl _ wr).alloc (Nat.le_refl _) _
      have HCl := clone_any (c := x.cap) (hxs.2.2.2.1.below hbA) hxs.2.2.2.2.2
      have HO := Lib.hid ho; clear ho
      have HG := Lib.hid hg; clear hg
      have HM := Lib.hid hml; clear hml
      have HF : ∀ w2, Below (wr.heap.size + 1) (wr.alloc (.cells #[.string ⟨x.path.toArray⟩, .int .u8 x.kind, .slice x.adr x.len x.cap, .string ⟨x.link.toArray⟩] 31)) w2 → w2.cell? ⟨g, k * 4 + 2, none⟩ = some (.slice x.adr x.len x.cap) ∧ w2.frozen? ⟨g, k * 4 + 2, none⟩ = false ∧ Below wr.heap.size wr w2 := by
        intro w2 h2
        have h3 : Below wr.heap.size wr w2 := hbA.trans (h2.mono (by omega))
        exact ⟨(h3.cell (p := ⟨g, k * 4 + 2, none⟩) hgl).trans x2, (h3.frozen (p := ⟨g, k * 4 + 2, none⟩) hgl).trans (HO.out.frozenAt _), h3⟩
      go_wp2_with (go_at_call 46; refine HCl.mono ?_; rintro e w2 ⟨A2, c2, rfl, hr2, hb2⟩; obtain ⟨d2, f2, hb3⟩ := HF w2 (by simpa using hb2))
      go_roundw
      case rel =>
        have hown2 : w2.ownsRow w.heap.size 31 4 (.slice (some ⟨g, 0, none⟩) n c') n (cellsOf ms) := own_stays HO.out fun j _ hj => hb3.block j hj
        obtain ⟨o1, g1⟩ := hown2.stored (k * 4 + 2) (.slice A2 x.len c2)
        rw [cellsOf_set hx] at o1
        have hg2 := (hb3.block g hgl).trans HG.out
        have hsz := hb.size
        have hNew : NdOwn (w2.setCell ⟨g, k * 4 + 2, none⟩ (.slice A2 x.len c2)) w.heap.size { x with adr := A2, len := x.len, cap := c2 } s :=
          NdOwn.other (g := g) ⟨hxs.1, hxs.2.1, hxs.2.2.1, own_wider hr2 (by simp; omega), hxs.2.2.2.2.2⟩ hg2 (fun j _ hj => Below.heap_setCell _ _ _ _ hj)
        refine ⟨k + 1, _, by omega, by go_num, o1, ⟨by rw [List.length_set]; exact hLk.1, fun j y t hy ht => ?_⟩, fun j y t hjk1 hy ht => ?_, (hb.trans (hb3.mono hb.size)).setCell (p := ⟨g, k * 4 + 2, none⟩) hgb _⟩
        · by_cases hjk : j = k
          · subst hjk
            rw [List.getElem?_set_self (by have := HM.out; omega)] at hy
            rw [hs] at ht
            cases hy; cases ht
            exact hNew.at
          · rw [List.getElem?_set_ne (Ne.symm hjk)] at hy
            exact ((hLk.2 j y t hy ht).below hb3).setSlice d2 _
        · by_cases hjk : j = k
          · subst hjk
            rw [List.getElem?_set_self (by have := HM.out; omega)] at hy
            rw [hs] at ht
            cases hy; cases ht
            exact hNew
          · rw [List.getElem?_set_ne (Ne.symm hjk)] at hy
            exact ((hOk j y t (by omega) hy ht).below hb3).other hg2 (fun j _ hj => Below.heap_setCell _ _ _ _ hj)
      case measure => simp [intOf]; omega
    · obtain rfl : k = n := by omega
      go_wp2_with fail
      go_ret
      refine ⟨A', c', ms, rfl, ho, ⟨hLk.1, fun j x s hx hs => hOk j x s ?_ hx hs⟩, hb⟩
      have := (List.getElem?_eq_some_iff.1 hx).1
      have := (own_nodes ho).1
      omega

end Go.Proofs.Ytlbipmlbkcdmnaa
