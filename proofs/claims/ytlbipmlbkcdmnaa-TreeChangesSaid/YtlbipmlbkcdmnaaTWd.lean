/-
  Whether a tree may be.
-/
import Derived.Test.YtlbipmlbkcdmnaaMWd
import Derived.Maps.OwnOps
import Derived.Laws.Cover1
namespace Go.Proofs.Ytlbipmlbkcdmnaa
open Go.RowKit

def Nodes (w : World) (A : Option Addr) (ns : List Nd) : Prop :=
  ns = [] ∨ ∃ b off, A = some ⟨b, off, none⟩ ∧ b < w.heap.size ∧ ∀ j x, ns[j]? = some x →
    w.cell? ⟨b, off + j * 4, none⟩ = some (.string ⟨x.path.toArray⟩) ∧ w.cell? ⟨b, off + j * 4 + 1, none⟩ = some (.int .u8 x.kind) ∧
    w.cell? ⟨b, off + j * 4 + 2, none⟩ = some (.slice x.adr x.len x.cap) ∧ w.cell? ⟨b, off + j * 4 + 3, none⟩ = some (.string ⟨x.link.toArray⟩)

def rightL (f : List UInt8 → Bool) (last : List UInt8) : List Nd → Bool
  | [] => true
  | x :: r => formedL x && !(Op.bytesLess x.path last || x.path == last) && f (upL x.path) && rightL (setD f x.path (x.kind == 53)) x.path r

set_option maxRecDepth 100000 in
set_option maxHeartbeats 4000000 in
theorem right_any (A : Option Addr) (n c : Nat) (ns : List Nd) (w : World) (hn : n = ns.length) (hN : Nodes w A ns) (hp : ∀ x ∈ ns, x.path.length ≤ 4000000000000) (hl : n ≤ 1000000000000) :
    Calls Try.prog 31 #[.slice A n c] w fun e w' => e = .returned (.bool (rightL (setD (fun _ => false) [] true) [] ns)) ∧ Below w.heap.size w w' := by
  have hmm := @run_makeMap Try.prog
  have hd0 := dirs_made w
  have HN0 := Lib.hid hn; clear hn
  obtain ⟨w1, hi, hd1, hg1⟩ := dirs_set hd0 (k := []) (by simp) (by omega) true
  go_enter Try.func31, Try.ntmps31
  go_wp2_with fail
  have hb1 : Below w.heap.size w w1 := ((Below.refl _ w).alloc (Nat.le_refl _) _).grown hg1 (by simp) (fun k e => by cases e; exact Nat.le_refl _)
  go_loopw [4, 6, 11, 12, 13, 14, 15, 16, 17, 18, 19, 20, 21, 22, 23, 24, 25, 26, 27, 28, 29, 30, 31, 32, 33, 34, 35, 36, 37, 38, 39, 40] (fun s4 _ i _ _ _ _ _ _ _ _ _ _ _ _ _ _ _ _ _ _ _ _ _ _ _ _ _ _ _ _ _ wr => ∃ (k : Nat) (last : List UInt8) (f : List UInt8 → Bool), k ≤ n ∧ i = .int .i64 k ∧ s4 = .string ⟨last.toArray⟩ ∧ Dirs wr w.heap.size (k + 1) f ∧ Below w.heap.size w wr ∧ rightL (setD (fun _ => false) [] true) [] ns = rightL f last (ns.drop k))
    (fun _ _ i _ _ _ _ _ _ _ _ _ _ _ _ _ _ _ _ _ _ _ _ _ _ _ _ _ _ _ _ _ _ => n - (intOf i).toNat)
  case atStart => exact ⟨0, [], _, by omega, rfl, rfl, hd1, hb1, rfl⟩
  case round =>
    obtain ⟨k, last, f, hk, rfl, rfl, hd, hb, hr⟩ := hrel
    by_cases hlt : k < n
    · have hkz : (k : Int) < (n : Int) := by omega
      obtain ⟨x, hx⟩ : ∃ x, ns[k]? = some x := ⟨_, List.getElem?_eq_getElem (by have := HN0.out; omega)⟩
      have hxp := hp x (List.mem_of_getElem? hx)
      have hdrop : ns.drop k = x :: ns.drop (k + 1) := by
        have hkl : k < ns.length := by have := HN0.out; omega
        rw [List.drop_eq_getElem_cons hkl]
        rw [List.getElem?_eq_getElem hkl] at hx
        injection hx with hx
        rw [hx]
      rcases hN with rfl | ⟨b, off, rfl, hbl, hc⟩
      · simp at hx
      obtain ⟨x0, x1, x2, x3⟩ := hc k x hx
      have y0 := (hb.cell (p := ⟨b, off + k * 4, none⟩) hbl).trans x0
      have y1 := (hb.cell (p := ⟨b, off + k * 4 + 1, none⟩) hbl).trans x1
      have y2 := (hb.cell (p := ⟨b, off + k * 4 + 2, none⟩) hbl).trans x2
      have y3 := (hb.cell (p := ⟨b, off + k * 4 + 3, none⟩) hbl).trans x3
      have HF := fun w => formed_any x hxp w
      clear x0 x1 x2 x3
      have HR := Lib.hid hr; clear hr hc hp hd1 hd0 hb1
      rw [hdrop, rightL] at HR
      have hul : (upL x.path).length ≤ 4000000000000 := by unfold upL; simp; omega
      have HU := fun w => up_any x.path hxp w
      have HW : ∀ w2, Below (wr.heap.size + 1) (wr.alloc (.cells #[.string ⟨x.path.toArray⟩, .int .u8 x.kind, .slice x.adr x.len x.cap, .string ⟨x.link.toArray⟩] 31)) w2 →
          w2.cell? ⟨wr.heap.size, 0, none⟩ = some (.string ⟨x.path.toArray⟩) ∧ w2.cell? ⟨wr.heap.size, 1, none⟩ = some (.int .u8 x.kind) ∧ Dirs w2 w.heap.size (k + 1) f ∧ Below w.heap.size w w2 := by
        intro w2 hb2
        have h1 := hd.lt
        have h2 : (wr.alloc (.cells #[.string ⟨x.path.toArray⟩, .int .u8 x.kind, .slice x.adr x.len x.cap, .string ⟨x.link.toArray⟩] 31)).heap[w.heap.size]? = wr.heap[w.heap.size]? := Below.heap_alloc wr _ _ h1
        have h3 := (hb2.block wr.heap.size (by omega)).trans (heap_alloc_new wr (.cells #[.string ⟨x.path.toArray⟩, .int .u8 x.kind, .slice x.adr x.len x.cap, .string ⟨x.link.toArray⟩] 31))
        refine ⟨by simp [World.cell?, h3], by simp [World.cell?, h3], hd.block ((hb2.block _ (by omega)).trans h2), ?_⟩
        exact (hb.alloc hb.size _).trans (hb2.mono (by have := hb.size; omega))
      have HD := Lib.hid hd; clear hd
      by_cases hfm : formedL x = true
      · rw [hfm] at HF
        have HFM := Lib.hid hfm; clear hfm
        by_cases hle : (Op.bytesLess x.path last || x.path == last) = true
        · have HLE := Lib.hid hle
          by_cases h1 : Op.bytesLess x.path last = true
          · clear hle
            go_wp2_with (first | (go_at_call 56; refine (HF _).mono ?_; rintro e w2 ⟨rfl, hb2⟩; obtain ⟨q0, q1, hd2, hb3⟩ := HW w2 (by simpa using hb2); have hlk := dirs_look hd2 hul) | (go_at_call 19; refine (HU _).mono ?_; rintro e w3 ⟨rfl, rfl⟩))
            go_ret
            exact ⟨by rw [HR.out, HFM.out, HLE.out]; rfl, hb3⟩
          · have h1' : Op.bytesLess x.path last = false := by simpa using h1
            have h2 : (x.path == last) = true := by simpa [h1'] using hle
            clear hle h1
            go_wp2_with (first | (go_at_call 56; refine (HF _).mono ?_; rintro e w2 ⟨rfl, hb2⟩; obtain ⟨q0, q1, hd2, hb3⟩ := HW w2 (by simpa using hb2); have hlk := dirs_look hd2 hul) | (go_at_call 19; refine (HU _).mono ?_; rintro e w3 ⟨rfl, rfl⟩))
            all_goals first | (go_ret; exact ⟨by rw [HR.out, HFM.out, HLE.out]; rfl, hb3⟩) | (exfalso; simp_all; done)
        · have hle0 : (Op.bytesLess x.path last || x.path == last) = false := by simpa using hle
          have HLE := Lib.hid hle0
          have hle1 : Op.bytesLess x.path last = false := by simp at hle0; exact hle0.1
          have hle2 : (x.path == last) = false := by simp at hle0; simpa using hle0.2
          have hle3 : ¬ x.path = last := by simpa using hle2
          clear hle hle0
          cases hup : f (upL x.path) with
          | false =>
            have HUP := Lib.hid hup; clear hup
            go_wp2_with (first | (go_at_call 56; refine (HF _).mono ?_; rintro e w2 ⟨rfl, hb2⟩; obtain ⟨q0, q1, hd2, hb3⟩ := HW w2 (by simpa using hb2); have hlk := dirs_look hd2 hul; rw [HUP.out] at hlk) | (go_at_call 19; refine (HU _).mono ?_; rintro e w3 ⟨rfl, rfl⟩))
            go_ret
            exact ⟨by rw [HR.out, HUP.out]; simp, hb3⟩
          | true =>
            have HUP := Lib.hid hup; clear hup
            go_wp2_with (first | (go_at_call 56; refine (HF _).mono ?_; rintro e w2 ⟨rfl, hb2⟩; obtain ⟨q0, q1, hd2, hb3⟩ := HW w2 (by simpa using hb2); have hlk := dirs_look hd2 hul; rw [HUP.out] at hlk; obtain ⟨w4, hmu, hd4, hg4⟩ := dirs_set hd2 hxp (by omega) (x.kind == 53)) | (go_at_call 19; refine (HU _).mono ?_; rintro e w3 ⟨rfl, rfl⟩))
            go_roundw
            case rel => exact ⟨k + 1, x.path, _, by omega, by go_num, rfl, hd4, hb3.grown hg4 hb3.size (fun j e => by cases e; exact Nat.le_refl _), by rw [HR.out, HFM.out, HLE.out, HUP.out]; simp⟩
            case measure => simp [intOf]; omega
      · have hfm2 : formedL x = false := by simpa using hfm
        rw [hfm2] at HF
        have HFM := Lib.hid hfm2; clear hfm2 hfm
        go_wp2_with (go_at_call 56; refine (HF _).mono ?_; rintro e w2 ⟨rfl, hb2⟩; obtain ⟨q0, q1, hd2, hb3⟩ := HW w2 (by simpa using hb2))
        go_ret
        exact ⟨by rw [HR.out, HFM.out]; rfl, hb3⟩
    · obtain rfl : k = n := by omega
      have : ns.drop k = [] := by rw [HN0.out]; simp
      rw [this] at hr
      go_wp2_with fail
      go_ret
      exact ⟨by rw [hr]; rfl, hb⟩

end Go.Proofs.Ytlbipmlbkcdmnaa
