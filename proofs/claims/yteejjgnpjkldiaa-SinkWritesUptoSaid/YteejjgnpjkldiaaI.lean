/-
  The walks of 'writes' and of the law SinkWrites.
-/
import Derived.Test.YteejjgnpjkldiaaG
namespace Go.Proofs.Yteejjgnpjkldiaa
open Go.RowKit

theorem refNew_r {room : Int} {r : Nat} (h : room.toNat = r) (w : World) : Calls Try.prog 14 #[.int .i64 room] w fun e w' =>
    e = .returned (.agg #[.slice none 0 0, .int .i64 (r : Int)]) ∧ Below w.heap.size w w' := by
  subst h
  exact refNew_any room w

theorem refWrite_full2 (A : Option Addr) (c : Nat) (xs : List Int) (left : Nat) (D : Option Addr) (n cd : Nat) (bs : List Int) (w : World)
    (hA : Rd w .u8 A xs.length xs) (hlt : left < n) (hb : Rd w .u8 D n bs) (hn : n ≤ cd) (hbd : xs.length + n ≤ 1000000) {ys : List Int} {l : Nat} (hys : xs ++ bs.take left = ys) (hll : left - n = l) :
    Calls Try.prog 15 #[.agg #[.slice A xs.length c, .int .i64 left], .slice D n cd] w fun e w' =>
      ∃ A' c', e = .returned (.tuple #[.agg #[.slice A' ys.length c', .int .i64 (l : Int)], .int .i64 left, .int .i64 20]) ∧
        w'.ownsRow w.heap.size 5 1 (.slice A' ys.length c') ys.length (ys.map (Value.int .u8)) ∧ Below w.heap.size w w' := by
  subst hys; subst hll
  refine (refWrite_full A c xs left D n cd bs w hA hlt hb hn hbd).mono fun e w' ⟨A', c', he, h1, h2⟩ => ⟨A', c', ?_, ?_, h2⟩
  · have hl : (xs ++ bs.take left).length = xs.length + left := by rw [List.length_append, (hb.front (Nat.le_of_lt hlt)).1]
    rw [he, hl, show ((left - n : Nat) : Int) = (left : Int) - left by omega]
  · have hl : (xs ++ bs.take left).length = xs.length + left := by rw [List.length_append, (hb.front (Nat.le_of_lt hlt)).1]
    rw [hl, List.map_append]
    exact h1

theorem refWrite_fits2 (A : Option Addr) (c : Nat) (xs : List Int) (left : Nat) (D : Option Addr) (n cd : Nat) (bs : List Int) (w : World)
    (hA : Rd w .u8 A xs.length xs) (hlt : n ≤ left) (hm : left ≤ 9223372036854775807) (hb : Rd w .u8 D n bs) (hn : n ≤ cd) (hbd : xs.length + n ≤ 1000000) {ys : List Int} {l : Nat} (hys : xs ++ bs.take left = ys) (hll : left - n = l) :
    Calls Try.prog 15 #[.agg #[.slice A xs.length c, .int .i64 left], .slice D n cd] w fun e w' =>
      ∃ A' c', e = .returned (.tuple #[.agg #[.slice A' ys.length c', .int .i64 (l : Int)], .int .i64 n, .int .i64 0]) ∧
        w'.ownsRow w.heap.size 5 1 (.slice A' ys.length c') ys.length (ys.map (Value.int .u8)) ∧ Below w.heap.size w w' := by
  subst hys; subst hll
  have hbl := hb.1
  have ht : bs.take left = bs := List.take_of_length_le (by omega)
  have ht2 : bs.take n = bs := List.take_of_length_le (by omega)
  refine (refWrite_fits A c xs left D n cd bs w hA hlt hm hb hn hbd).mono fun e w' ⟨A', c', he, h1, h2⟩ => ⟨A', c', ?_, ?_, h2⟩
  · rw [he, ht, List.length_append, hbl, show ((left - n : Nat) : Int) = (left : Int) - n by omega]
  · rw [ht, List.length_append, hbl, List.map_append]
    rw [ht2] at h1
    exact h1

theorem to_drew {B : Nat} {w W : World} (h : Below B w W) : Below B w.drew W := ⟨h.os, h.tape, h.output, h.size, h.block⟩

/-- What is known behind the answer of both: the sink; the cell of the reference's; its row. -/
def Both (B g gt base : Nat) (SA : Option Addr) (sc : Nat) (TV : Value) (LV : Nat) (TA : Option Addr) (tc : Nat) (ys : List Int) (l : Nat) (W : World) : Prop :=
  Snk W B g SA sc ys l ∧ W.heap[gt]? = some (.cells #[TV, .int .i64 LV] 42 (0, 0)) ∧ W.ownsRow base 5 1 (.slice TA ys.length tc) ys.length (ys.map (Value.int .u8))

theorem Both.alloc {B g gt base sc tc l LV : Nat} {SA TA : Option Addr} {TV : Value} {ys : List Int} {W : World} (h : Both B g gt base SA sc TV LV TA tc ys l W) (o : Obj) : Both B g gt base SA sc TV LV TA tc ys l (W.alloc o) :=
  ⟨snk_alloc h.1 o, (Below.heap_alloc W o gt (Array.getElem?_eq_some_iff.1 h.2.1).1).trans h.2.1, h.2.2.alloc o⟩

/-- A store into another block, that is none of these. -/
theorem Both.set {B g gt base sc tc l LV gu off : Nat} {SA TA : Option Addr} {TV v : Value} {ys : List Int} {W : World} (h : Both B g gt base SA sc TV LV TA tc ys l W) (h1 : gu ≠ g) (h2 : rowOf SA ≠ some gu) (h3 : gu ≠ gt) (h4 : gu < base) :
    Both B g gt base SA sc TV LV TA tc ys l (W.setCell ⟨gu, off, none⟩ v) := by
  refine ⟨⟨(Below.heap_setCell W ⟨gu, off, none⟩ v g (Ne.symm h1)).trans h.1.1, ?_⟩, (Below.heap_setCell W ⟨gu, off, none⟩ v gt (Ne.symm h3)).trans h.2.1, ownsRow_setCell_below h.2.2 h4 v⟩
  refine h.1.2.kept (row := some gu) ⟨rfl, rfl, rfl, by simp [World.setCell], fun j hj hn => Below.heap_setCell W ⟨gu, off, none⟩ v j (fun e => hn (by simp [e]))⟩ ?_
  rw [own_rowOf]
  exact .inr h2

/-- The stores into the reference's cell. -/
theorem Both.store {B g gt base sc tc l LV : Nat} {SA TA : Option Addr} {TV : Value} {ys : List Int} {W : World} (h : Both B g gt base SA sc TV LV TA tc ys l W) (h1 : gt ≠ g) (h2 : rowOf SA ≠ some gt) (h4 : gt < base) :
    Both B g gt base SA sc (.slice TA ys.length tc) l TA tc ys l ((W.setCell ⟨gt, 0, none⟩ (.slice TA ys.length tc)).setCell ⟨gt, 1, none⟩ (.int .i64 (l : Int))) := by
  have hs := heap_set _ gt 1 (.int .i64 (l : Int)) (heap_set W gt 0 (.slice TA ys.length tc) h.2.1)
  have keep : ∀ (V : World) (off : Nat) (v : Value), Snk V B g SA sc ys l → V.ownsRow base 5 1 (.slice TA ys.length tc) ys.length (ys.map (Value.int .u8)) →
      Snk (V.setCell ⟨gt, off, none⟩ v) B g SA sc ys l ∧ (V.setCell ⟨gt, off, none⟩ v).ownsRow base 5 1 (.slice TA ys.length tc) ys.length (ys.map (Value.int .u8)) := by
    intro V off v hS hO
    refine ⟨⟨(Below.heap_setCell V ⟨gt, off, none⟩ v g (Ne.symm h1)).trans hS.1, ?_⟩, ownsRow_setCell_below hO h4 v⟩
    refine hS.2.kept (row := some gt) ⟨rfl, rfl, rfl, by simp [World.setCell], fun j hj hn => Below.heap_setCell V ⟨gt, off, none⟩ v j (fun e => hn (by simp [e]))⟩ ?_
    rw [own_rowOf]
    exact .inr h2
  obtain ⟨k1, k2⟩ := keep W 0 (.slice TA ys.length tc) h.1 h.2.2
  obtain ⟨k3, k4⟩ := keep _ 1 (.int .i64 (l : Int)) k1 k2
  exact ⟨k3, by rw [hs]; simp, k4⟩

set_option maxHeartbeats 4000000 in
set_option maxRecDepth 100000 in
theorem writes_walk (room : Int) (D : Option Addr) (n cd : Nat) (ls : List (List Int)) (w : World) (hb : RdL w D n ls) (hr : room ≤ 9223372036854775807) (hn : n ≤ 9223372036854775807) (htot : (cat ls n).length ≤ 400000) (hmono : ∀ k, k < n → (cat ls (k + 1)).length ≤ (cat ls n).length) :
    Calls Try.prog 12 #[.int .i64 room, .slice D n cd] w fun e w' => e = .returned (.bool true) ∧ Below w.heap.size w w' := by
  obtain ⟨r, hrr⟩ : ∃ r : Nat, room.toNat = r := ⟨_, rfl⟩
  have hrm : r ≤ 9223372036854775807 := by omega
  have HRR := Lib.hid hrr; clear hrr
  go_enter Try.func12, Try.ntmps12
  go_wp2_with fail
  refine (new_any _ _).mono ?_
  rintro e w1 ⟨rfl, hw1⟩
  have hS1 : Snk w1 w.heap.size w.heap.size none 0 [] r := by rw [hw1, HRR.out]; exact snk_new
  have hB1 : Below w.heap.size w w1 := by rw [hw1]; exact (Below.refl _ w).alloc (Nat.le_refl _) _
  have hz1 : w1.heap.size = w.heap.size + 1 := by rw [hw1]; simp
  clear hw1
  have HZ1 := Lib.hid hz1; clear hz1
  go_wp2_with fail
  refine (refNew_r HRR.out _).mono ?_
  rintro e w2 ⟨rfl, hB2'⟩
  have hS2 := snk_alloc (hS1.below hB2') (.cells #[.slice none 0 0, .int .i64 (r : Int)] 42)
  have hB2 := (hB1.trans (hB2'.mono hB1.size)).alloc (hB1.trans (hB2'.mono hB1.size)).size (.cells #[.slice none 0 0, .int .i64 (r : Int)] 42)
  have hz2 : w.heap.size + 1 ≤ w2.heap.size := by have := hB2'.size; have := HZ1.out; omega
  have hT2 := heap_alloc_new w2 (.cells #[.slice none 0 0, .int .i64 (r : Int)] 42)
  clear hS1 hB1 hB2'
  have HT2 := Lib.hid hT2; clear hT2
  go_wp2_with fail
  go_loopw [7] (fun i wr => ∃ (k sc tc : Nat) (SA TA : Option Addr) (xs : List Int) (left : Nat), k ≤ n ∧ i = .int .i64 k ∧ Snk wr w.heap.size w.heap.size SA sc xs left ∧
      Hid (wr.heap[w2.heap.size]? = some (.cells #[.slice TA xs.length tc, .int .i64 left] 42 (0, 0))) ∧ wr.ownsRow w.heap.size 5 1 (.slice TA xs.length tc) xs.length (xs.map (Value.int .u8)) ∧
      (∀ j, rowOf TA = some j → rowOf SA ≠ some j) ∧ Below w.heap.size w wr ∧ Hid (xs = (cat ls k).take r) ∧ Hid (left = r - (cat ls k).length))
    (fun i _ => n - (intOf i).toNat)
  case atStart =>
    exact ⟨0, 0, 0, none, none, [], r, Nat.zero_le _, rfl, hS2, HT2, World.ownsRow_nil _ _ _ _, fun j hj => (by cases hj), hB2, Lib.hid (by simp [cat]), Lib.hid (by simp [cat])⟩
  case round =>
    clear hS2 HT2 hB2
    obtain ⟨k, sc, tc, SA, TA, xs, left, hk, rfl, hS, HT, hown, hdis, hB, HX, HL⟩ := hrel
    by_cases hlt : k < n
    · have hlt' : (k : Int) < (n : Int) := by omega
      obtain ⟨ad, D1, m, c1, rfl, hc, hrd, hmc, hmm⟩ := hb.2 k hlt
      have hcw := (hB.cell (World.block_lt_of_cell? w _ hc)).trans hc
      have hkl : k < ls.length := by rw [hb.1]; exact hlt
      have hcs := Lib.hid (cat_succ ls k hkl)
      have hcl := hmono k hlt
      rw [hcs.out, List.length_append, hrd.1] at hcl
      have hxl : xs.length + m ≤ 1000000 := by rw [HX.out]; simp; omega
      have hl9 : left ≤ 9223372036854775807 := by rw [HL.out]; omega
      have HRD := Lib.hid hrd
      have HC := Lib.hid hc
      have HB := Lib.hid hB
      have HD := Lib.hid hdis
      have HO := Lib.hid hown
      have HS := Lib.hid hS
      have hbs := hB.size
      clear hrd hc hB hdis hown hS hcl hb
      have hgt0 : wr.cell? ⟨w2.heap.size, 0, none⟩ = some (.slice TA xs.length tc) := by simp [World.cell?, HT.out]
      have hgt1 : wr.cell? ⟨w2.heap.size, 1, none⟩ = some (.int .i64 left) := by simp [World.cell?, HT.out]
      rcases Nat.lt_or_ge left m with hf | hf
      · have hf' : (left : Int) < (m : Int) := by omega
        go_wp2_with fail
        refine (write_full2 w.heap.size w.heap.size SA sc xs left D1 m c1 (ls.getD k []) wr HS.out hbs hf (HRD.out.below HB.out) hmc hxl).mono ?_
        rintro e w3 ⟨rfl, SA3, sc3, hS3, hO3, hF3⟩
        have hS := HS.out
        have hglt : w2.heap.size < wr.heap.size := (Array.getElem?_eq_some_iff.1 HT.out).1
        have hgne : some w2.heap.size ≠ rowOf SA := by have := own_ne hS.2 HT.out (by decide); rwa [own_rowOf] at this
        have hT3 := (hO3.block w2.heap.size hglt (by omega) hgne).trans HT.out
        have HT3 := Lib.hid hT3
        have hgr : ∀ j, rowOf TA = some j → j ≠ w.heap.size := fun j hj e => by have := own_ne HO.out hS.1 (by decide); rw [own_rowOf, hj, e] at this; exact this rfl
        have HO3 := Lib.hid (own_only2 HO.out hO3 (fun j hj => ⟨hgr j (by rw [own_rowOf] at hj; exact hj), fun e => HD.out j (by rw [own_rowOf] at hj; exact hj) e.symm⟩))
        have HB3 := Lib.hid (HB.out.trans (hO3.below hbs (Nat.le_refl _) (fun j hj => (hS.2.lt j (by rw [own_rowOf]; exact hj)).1)))
        have hs3 := hO3.size
        obtain ⟨ys, hys⟩ : ∃ ys, xs ++ List.take left (ls.getD k []) = ys := ⟨_, rfl⟩
        obtain ⟨l, hll⟩ : ∃ l, left - m = l := ⟨_, rfl⟩
        rw [hys, hll] at hS3
        have HYS := Lib.hid hys; have HLL := Lib.hid hll
        clear hys hll
        have HS3 := Lib.hid hS3
        have hq0 : ∀ W, Below w3.heap.size w3.drew W → W.cell? ⟨w2.heap.size, 0, none⟩ = some (.slice TA xs.length tc) := fun W h => (h.cell (by exact Nat.lt_of_lt_of_le hglt hs3)).trans (by show w3.cell? _ = _; simp [World.cell?, hT3])
        have hq1 : ∀ W, Below w3.heap.size w3.drew W → W.cell? ⟨w2.heap.size, 1, none⟩ = some (.int .i64 left) := fun W h => (h.cell (by exact Nat.lt_of_lt_of_le hglt hs3)).trans (by show w3.cell? _ = _; simp [World.cell?, hT3])
        have hqc : ∀ W, Below w3.heap.size w3.drew W → W.cell? (ad.add k) = some (.slice D1 m c1) := fun W h => by
          have hlt := World.block_lt_of_cell? w _ HC.out
          have hs := HB3.out.size
          exact (h.cell (by omega)).trans ((HB3.out.cell hlt).trans HC.out)
        clear hS hT3 hgr hO3 hS3 hF3 hgt0 hgt1 hcw
        go_wp2_with fail
        refine wp_region_ord2 w3.heap.size [0, 1, 2, 3, 4] 5 [6, 7, 8, 9, 10, 11, 12, 13] 10 [5, 6, 7, 8, 9, 11, 12, 13] [5, 10, 11] (by kernel_rfl) (by kernel_rfl) (by kernel_rfl) (fun d _ _ _ _ h => by cases d <;> exact h) (by kernel_rfl) ?_
        repeat (refine wpOrd2_take (v := ?_) rfl rfl (fun W hW => ?_) ?_; rotate_left; (focus (go_simp; with_reducible rfl)); simp only [Act.put, List.setIfInBounds_toArray, List.set_cons_succ, List.set_cons_zero])
        refine ⟨?_, ?_⟩
        · refine wpOrd_call rfl rfl rfl ?_
          go_simp
          refine (refWrite_full2 TA tc xs left D1 m c1 (ls.getD k []) w3.drew (rd_of_own HO3.out) hf (HRD.out.below HB3.out.drew) hmc hxl HYS.out HLL.out).mono ?_
          rintro e w4 ⟨TA4, tc4, rfl, hO4, hB4⟩
          refine ⟨hB4, ?_⟩
          repeat (first | (refine wpOrd_take (v := ?_) rfl rfl rfl (fun W hW => ?_) ?_; rotate_left; (focus (go_simp; with_reducible rfl)); simp only [Act.put, List.setIfInBounds_toArray, List.set_cons_succ, List.set_cons_zero]) | (refine wpOrd_skip rfl rfl ?_; simp only [Act.put, List.setIfInBounds_toArray, List.set_cons_succ, List.set_cons_zero]))
          have hs4 : w3.heap.size ≤ w4.heap.size := hB4.size
          have hne4 : ¬ w2.heap.size = w4.heap.size := by omega
          have hlt4 : w2.heap.size < w4.heap.size := by omega
          have t0 : w4.cell? ⟨w2.heap.size, 0, none⟩ = some (.slice TA xs.length tc) := hq0 w4 hB4
          have t1 : w4.cell? ⟨w2.heap.size, 1, none⟩ = some (.int .i64 left) := hq1 w4 hB4
          have u0 : w4.frozen? ⟨w2.heap.size, 0, none⟩ = false := (hB4.frozen (p := ⟨w2.heap.size, 0, none⟩) (by exact Nat.lt_of_lt_of_le hglt hs3)).trans (by show w3.frozen? _ = _; simp [World.frozen?, HT3.out])
          have u1 : w4.frozen? ⟨w2.heap.size, 1, none⟩ = false := (hB4.frozen (p := ⟨w2.heap.size, 1, none⟩) (by exact Nat.lt_of_lt_of_le hglt hs3)).trans (by show w3.frozen? _ = _; simp [World.frozen?, HT3.out])
          refine wpOrd_call rfl rfl rfl ?_
          go_simp
          refine ⟨(Below.refl _ _).alloc hs4 _, ?_⟩
          repeat (first | (refine wpOrd_take (v := ?_) rfl rfl rfl (fun W hW => ?_) ?_; rotate_left; (focus (go_simp; with_reducible rfl)); simp only [Act.put, List.setIfInBounds_toArray, List.set_cons_succ, List.set_cons_zero]) | (refine wpOrd_skip rfl rfl ?_; simp only [Act.put, List.setIfInBounds_toArray, List.set_cons_succ, List.set_cons_zero]))
          refine wpOrd_call rfl rfl rfl ?_
          go_simp
          refine ⟨⟨rfl, rfl, rfl, by simp, fun j hj => by rw [Below.heap_alloc w4 _ j (by omega), Below.heap_alloc w4 _ j (by omega)]⟩, ?_⟩
          repeat (first | (refine wpOrd_take (v := ?_) rfl rfl rfl (fun W hW => ?_) ?_; rotate_left; (focus (go_simp; with_reducible rfl)); simp only [Act.put, List.setIfInBounds_toArray, List.set_cons_succ, List.set_cons_zero]) | (refine wpOrd_skip rfl rfl ?_; simp only [Act.put, List.setIfInBounds_toArray, List.set_cons_succ, List.set_cons_zero]))
          refine wpOrd_nil ?_
          go_wp2_with fail
          have hS3w := HS3.out
          have hls3 : ∀ j, rowOf SA3 = some j → j < w3.heap.size := fun j hj => (hS3w.2.lt j (by rw [own_rowOf]; exact hj)).2
          have hlt4r : ∀ j, rowOf TA4 = some j → w3.heap.size ≤ j := fun j hj => (hO4.lt j (by rw [own_rowOf]; exact hj)).1
          have HDF : Hid (∀ j, rowOf TA4 = some j → rowOf SA3 ≠ some j) := fun j hj he => by have := hls3 j he; have := hlt4r j hj; omega
          have hgt3 : w2.heap.size < w3.heap.size := Nat.lt_of_lt_of_le hglt hs3
          have hrs : rowOf SA3 ≠ some w2.heap.size := by have := own_ne hS3w.2 HT3.out (by decide); rw [own_rowOf] at this; exact Ne.symm this
          have hBo4 : Both w.heap.size w.heap.size w2.heap.size w3.heap.size SA3 sc3 (.slice TA xs.length tc) left TA4 tc4 ys l w4 :=
            ⟨(show Snk w3.drew _ _ _ _ _ _ from hS3w).below hB4, (hB4.block w2.heap.size hgt3).trans HT3.out, hO4⟩
          have HBo := Lib.hid ((hBo4.store (by omega) hrs hgt3).alloc (.cells #[.slice TA4 ys.length tc4, .int .i64 (l : Int)] 42))
          have HBe := Lib.hid ((((HB3.out.drew.trans (hB4.mono HB3.out.size)).setCell (p := ⟨w2.heap.size, 0, none⟩) (by simp <;> omega) (.slice TA4 ys.length tc4)).setCell (p := ⟨w2.heap.size, 1, none⟩) (by simp <;> omega) (.int .i64 (l : Int))).alloc (by have := HB3.out.size; simp [World.setCell] <;> omega) (.cells #[.slice TA4 ys.length tc4, .int .i64 (l : Int)] 42))
          clear hBo4 hrs hlt4r hls3 hS3w hO4 hB4
          generalize ((w4.setCell ⟨w2.heap.size, 0, none⟩ (.slice TA4 ys.length tc4)).setCell ⟨w2.heap.size, 1, none⟩ (.int .i64 (l : Int))).alloc (.cells #[.slice TA4 ys.length tc4, .int .i64 (l : Int)] 42) = WF at HBo HBe ⊢
          have HXF : Hid (ys = (cat ls (k + 1)).take r) := by
            have e := HYS.out
            rw [HX.out, HL.out, take_grow] at e
            rw [hcs.out]
            exact e.symm
          have HLF : Hid (l = r - (cat ls (k + 1)).length) := by
            have e := HLL.out
            have e2 := HL.out
            have e3 := HRD.out.1
            show l = _
            rw [hcs.out, List.length_append, e3]
            omega
          have hyl : ys.length ≤ 1000000 := by
            have e := HYS.out
            rw [← e, List.length_append, List.length_take]
            have := HRD.out.1
            omega
          have HYL := Lib.hid hyl
          clear hyl
          have hw20 : IntKind.i64.wrap (20 : Int) = 20 := by rw [IntKind.wrap_i64]; omega
          refine wp_region_ordV [0, 1, 2, 3, 4, 5, 6, 7, 8, 9, 10, 13, 14, 15, 11, 12, 16, 17, 18, 19, 21, 22, 20, 23, 24] [11, 20] (by kernel_rfl) (by kernel_rfl) (by kernel_rfl) (fun d _ _ _ _ h => by cases d <;> exact h) (by kernel_rfl) ?_
          intro WG hWG hBG
          have HBp := Lib.hid (show Both w.heap.size w.heap.size w2.heap.size _ SA3 sc3 (.slice TA4 ys.length tc4) l TA4 tc4 ys l WG from ⟨HBo.out.1.below hBG, by rw [hWG]; exact HBo.out.2.1, own_below HBo.out.2.2 hBG⟩)
          have HBf := Lib.hid (HBe.out.trans (hBG.mono HBe.out.size))
          have y0 : ∀ W, Below WG.heap.size WG W → W.cell? ⟨w2.heap.size, 0, none⟩ = some (.slice TA4 ys.length tc4) := fun W h => (h.cell (by exact (Array.getElem?_eq_some_iff.1 HBp.out.2.1).1)).trans (by simp [World.cell?, HBp.out.2.1])
          have y1 : ∀ W, Below WG.heap.size WG W → W.cell? ⟨w2.heap.size, 1, none⟩ = some (.int .i64 l) := fun W h => (h.cell (by exact (Array.getElem?_eq_some_iff.1 HBp.out.2.1).1)).trans (by simp [World.cell?, HBp.out.2.1])
          have hstT : ∀ W, Below WG.heap.size WG W → (convert 22 9 (.slice TA4 ys.length tc4)).run Try.prog W = .ok (.string (strOfNums ys)) W := fun W h => run_str ((rd_of_own HBp.out.2.2).below h)
          clear hWG hBG HBo HBe
          repeat (first | (refine wpOrd_take (v := ?_) rfl rfl rfl (fun W hW => ?_) ?_; rotate_left; (focus (go_simp; with_reducible rfl)); simp only [Act.put, List.setIfInBounds_toArray, List.set_cons_succ, List.set_cons_zero]) | (refine wpOrd_skip rfl rfl ?_; simp only [Act.put, List.setIfInBounds_toArray, List.set_cons_succ, List.set_cons_zero]))
          refine wpOrd_call rfl rfl rfl ?_
          go_simp
          refine (bytes_any HBp.out.1 HYL.out).mono ?_
          rintro e w6 ⟨A6, c6, rfl, hR6, hB6⟩
          refine ⟨hB6, ?_⟩
          have hstr6 : ∀ W, Below w6.heap.size w6 W → (convert 22 9 (.slice A6 ys.length c6)).run Try.prog W = .ok (.string (strOfNums ys)) W := fun W h => run_str (hR6.below h)
          have y1' : ∀ W, Below w6.heap.size w6 W → W.cell? ⟨w2.heap.size, 1, none⟩ = some (.int .i64 l) := fun W h => y1 W (hB6.trans (h.mono hB6.size))
          have HB6 := Lib.hid hB6
          clear y0 y1 hstT hR6 hB6
          repeat (first | (refine wpOrd_take (v := ?_) rfl rfl rfl (fun W hW => ?_) ?_; rotate_left; (focus (go_simp; with_reducible rfl)); simp only [Act.put, List.setIfInBounds_toArray, List.set_cons_succ, List.set_cons_zero]) | (refine wpOrd_skip rfl rfl ?_; simp only [Act.put, List.setIfInBounds_toArray, List.set_cons_succ, List.set_cons_zero]))
          refine wpOrd_call rfl rfl rfl ?_
          go_simp
          refine (left_any (HBp.out.1.below HB6.out)).mono ?_
          rintro e w7 ⟨rfl, rfl⟩
          refine ⟨Below.refl _ _, ?_⟩
          repeat (first | (refine wpOrd_take (v := ?_) rfl rfl rfl (fun W hW => ?_) ?_; rotate_left; (focus (go_simp; with_reducible rfl)); simp only [Act.put, List.setIfInBounds_toArray, List.set_cons_succ, List.set_cons_zero]) | (refine wpOrd_skip rfl rfl ?_; simp only [Act.put, List.setIfInBounds_toArray, List.set_cons_succ, List.set_cons_zero]))
          refine wpOrd_nil ?_
          go_wp2_with fail
          go_roundw
          case rel =>
            have hs6 := HB6.out.size
            have hgF := (Array.getElem?_eq_some_iff.1 HBp.out.2.1).1
            exact ⟨k + 1, sc3, tc4, SA3, TA4, ys, l, Nat.succ_le_of_lt hlt, by go_num, HBp.out.1.below HB6.out, (HB6.out.block w2.heap.size hgF).trans HBp.out.2.1, own_mono (own_below HBp.out.2.2 HB6.out) (by have := HB3.out.size; simp <;> omega), HDF.out, HBf.out.trans (HB6.out.mono HBf.out.size), HXF, HLF⟩
          case measure => simp [intOf]; omega
        · refine wpOrd_call rfl rfl rfl ?_
          go_simp
          refine ⟨to_drew (((Below.refl _ w3).alloc (Nat.le_refl _) _).drew), ?_⟩
          refine wpOrd_call rfl rfl rfl ?_
          go_simp
          refine (refWrite_full2 TA tc xs left D1 m c1 (ls.getD k []) _ ((rd_of_own HO3.out).below ((Below.refl _ w3).alloc (Nat.le_refl _) _).drew) hf (HRD.out.below (HB3.out.alloc HB3.out.size _).drew) hmc hxl HYS.out HLL.out).mono ?_
          rintro e w4 ⟨TA4, tc4, rfl, hO4, hB4⟩
          refine ⟨hB4.mono (by simp), ?_⟩
          obtain ⟨hc4, hf4⟩ := bcell hB4
          have d0 : w4.cell? ⟨w3.heap.size, 0, none⟩ = some (.slice none 0 0) := (hc4 _ _ (by simp)).trans (by go_simp)
          have d1 : w4.cell? ⟨w3.heap.size, 1, none⟩ = some (.int .i64 0) := (hc4 _ _ (by simp)).trans (by go_simp)
          have g0 : w4.frozen? ⟨w3.heap.size, 0, none⟩ = false := (hf4 _ _ (by simp)).trans (by go_simp)
          have g1 : w4.frozen? ⟨w3.heap.size, 1, none⟩ = false := (hf4 _ _ (by simp)).trans (by go_simp)
          clear hc4 hf4
          have hne4 : ¬ w2.heap.size = w3.heap.size := by omega
          have hne5 : ¬ w3.heap.size = w2.heap.size := by omega
          have hB4' : Below w3.heap.size w3.drew w4 := to_drew ((((Below.refl _ w3).alloc (Nat.le_refl _) (.cells #[.slice none 0 0, .int .i64 0] 42)).drew).trans (hB4.mono (by simp)))
          have t0 : w4.cell? ⟨w2.heap.size, 0, none⟩ = some (.slice TA xs.length tc) := hq0 w4 hB4'
          have t1 : w4.cell? ⟨w2.heap.size, 1, none⟩ = some (.int .i64 left) := hq1 w4 hB4'
          have u0 : w4.frozen? ⟨w2.heap.size, 0, none⟩ = false := (hB4'.frozen (p := ⟨w2.heap.size, 0, none⟩) (by exact Nat.lt_of_lt_of_le hglt hs3)).trans (by show w3.frozen? _ = _; simp [World.frozen?, HT3.out])
          have u1 : w4.frozen? ⟨w2.heap.size, 1, none⟩ = false := (hB4'.frozen (p := ⟨w2.heap.size, 1, none⟩) (by exact Nat.lt_of_lt_of_le hglt hs3)).trans (by show w3.frozen? _ = _; simp [World.frozen?, HT3.out])
          repeat (first | (refine wpOrd_take (v := ?_) rfl rfl rfl (fun W hW => ?_) ?_; rotate_left; (focus (go_simp; with_reducible rfl)); simp only [Act.put, List.setIfInBounds_toArray, List.set_cons_succ, List.set_cons_zero]) | (refine wpOrd_skip rfl rfl ?_; simp only [Act.put, List.setIfInBounds_toArray, List.set_cons_succ, List.set_cons_zero]))
          refine wpOrd_call rfl rfl rfl ?_
          go_simp
          refine ⟨((Below.refl w3.heap.size w4).setCell (p := ⟨w3.heap.size, 0, none⟩) (Nat.le_refl _) _).setCell (p := ⟨w3.heap.size, 1, none⟩) (Nat.le_refl _) _, ?_⟩
          repeat (first | (refine wpOrd_take (v := ?_) rfl rfl rfl (fun W hW => ?_) ?_; rotate_left; (focus (go_simp; with_reducible rfl)); simp only [Act.put, List.setIfInBounds_toArray, List.set_cons_succ, List.set_cons_zero]) | (refine wpOrd_skip rfl rfl ?_; simp only [Act.put, List.setIfInBounds_toArray, List.set_cons_succ, List.set_cons_zero]))
          refine wpOrd_nil ?_
          go_wp2_with fail
          have hS3w := HS3.out
          have hls3 : ∀ j, rowOf SA3 = some j → j < w3.heap.size := fun j hj => (hS3w.2.lt j (by rw [own_rowOf]; exact hj)).2
          have hO4' : w4.ownsRow (w3.heap.size + 1) 5 1 (.slice TA4 ys.length tc4) ys.length (ys.map (Value.int .u8)) := by have := hO4; simpa using this
          have hlt4r : ∀ j, rowOf TA4 = some j → w3.heap.size + 1 ≤ j := fun j hj => (hO4'.lt j (by rw [own_rowOf]; exact hj)).1
          have HDF : Hid (∀ j, rowOf TA4 = some j → rowOf SA3 ≠ some j) := fun j hj he => by have := hls3 j he; have := hlt4r j hj; omega
          have hgt3 : w2.heap.size < w3.heap.size := Nat.lt_of_lt_of_le hglt hs3
          have hrs : rowOf SA3 ≠ some w2.heap.size := by have := own_ne hS3w.2 HT3.out (by decide); rw [own_rowOf] at this; exact Ne.symm this
          have hru : rowOf SA3 ≠ some w3.heap.size := fun e => by have := hls3 _ e; omega
          have hBo4 : Both w.heap.size w.heap.size w2.heap.size (w3.heap.size + 1) SA3 sc3 (.slice TA xs.length tc) left TA4 tc4 ys l w4 :=
            ⟨(show Snk w3.drew _ _ _ _ _ _ from hS3w).below hB4', (hB4'.block w2.heap.size hgt3).trans HT3.out, hO4'⟩
          have HBo := Lib.hid (((hBo4.set (gu := w3.heap.size) (off := 0) (v := .slice TA4 ys.length tc4) (by omega) hru (by omega) (by omega)).set (gu := w3.heap.size) (off := 1) (v := .int .i64 (l : Int)) (by omega) hru (by omega) (by omega)).store (by omega) hrs (by omega))
          have HBe := Lib.hid (((((HB3.out.drew.trans (hB4'.mono HB3.out.size)).setCell (p := ⟨w3.heap.size, 0, none⟩) (by simp <;> omega) (.slice TA4 ys.length tc4)).setCell (p := ⟨w3.heap.size, 1, none⟩) (by simp <;> omega) (.int .i64 (l : Int))).setCell (p := ⟨w2.heap.size, 0, none⟩) (by simp <;> omega) (.slice TA4 ys.length tc4)).setCell (p := ⟨w2.heap.size, 1, none⟩) (by simp <;> omega) (.int .i64 (l : Int)))
          clear hBo4 hrs hlt4r hls3 hS3w hO4 hB4 hB4' hO4' hru
          generalize (((w4.setCell ⟨w3.heap.size, 0, none⟩ (.slice TA4 ys.length tc4)).setCell ⟨w3.heap.size, 1, none⟩ (.int .i64 (l : Int))).setCell ⟨w2.heap.size, 0, none⟩ (.slice TA4 ys.length tc4)).setCell ⟨w2.heap.size, 1, none⟩ (.int .i64 (l : Int)) = WF at HBo HBe ⊢
          have HXF : Hid (ys = (cat ls (k + 1)).take r) := by
            have e := HYS.out
            rw [HX.out, HL.out, take_grow] at e
            rw [hcs.out]
            exact e.symm
          have HLF : Hid (l = r - (cat ls (k + 1)).length) := by
            have e := HLL.out
            have e2 := HL.out
            have e3 := HRD.out.1
            show l = _
            rw [hcs.out, List.length_append, e3]
            omega
          have hyl : ys.length ≤ 1000000 := by
            have e := HYS.out
            rw [← e, List.length_append, List.length_take]
            have := HRD.out.1
            omega
          have HYL := Lib.hid hyl
          clear hyl
          have hw20 : IntKind.i64.wrap (20 : Int) = 20 := by rw [IntKind.wrap_i64]; omega
          refine wp_region_ordV [0, 1, 2, 3, 4, 5, 6, 7, 8, 9, 10, 13, 14, 15, 11, 12, 16, 17, 18, 19, 21, 22, 20, 23, 24] [11, 20] (by kernel_rfl) (by kernel_rfl) (by kernel_rfl) (fun d _ _ _ _ h => by cases d <;> exact h) (by kernel_rfl) ?_
          intro WG hWG hBG
          have HBp := Lib.hid (show Both w.heap.size w.heap.size w2.heap.size _ SA3 sc3 (.slice TA4 ys.length tc4) l TA4 tc4 ys l WG from ⟨HBo.out.1.below hBG, by rw [hWG]; exact HBo.out.2.1, own_below HBo.out.2.2 hBG⟩)
          have HBf := Lib.hid (HBe.out.trans (hBG.mono HBe.out.size))
          have y0 : ∀ W, Below WG.heap.size WG W → W.cell? ⟨w2.heap.size, 0, none⟩ = some (.slice TA4 ys.length tc4) := fun W h => (h.cell (by exact (Array.getElem?_eq_some_iff.1 HBp.out.2.1).1)).trans (by simp [World.cell?, HBp.out.2.1])
          have y1 : ∀ W, Below WG.heap.size WG W → W.cell? ⟨w2.heap.size, 1, none⟩ = some (.int .i64 l) := fun W h => (h.cell (by exact (Array.getElem?_eq_some_iff.1 HBp.out.2.1).1)).trans (by simp [World.cell?, HBp.out.2.1])
          have hstT : ∀ W, Below WG.heap.size WG W → (convert 22 9 (.slice TA4 ys.length tc4)).run Try.prog W = .ok (.string (strOfNums ys)) W := fun W h => run_str ((rd_of_own HBp.out.2.2).below h)
          clear hWG hBG HBo HBe
          repeat (first | (refine wpOrd_take (v := ?_) rfl rfl rfl (fun W hW => ?_) ?_; rotate_left; (focus (go_simp; with_reducible rfl)); simp only [Act.put, List.setIfInBounds_toArray, List.set_cons_succ, List.set_cons_zero]) | (refine wpOrd_skip rfl rfl ?_; simp only [Act.put, List.setIfInBounds_toArray, List.set_cons_succ, List.set_cons_zero]))
          refine wpOrd_call rfl rfl rfl ?_
          go_simp
          refine (bytes_any HBp.out.1 HYL.out).mono ?_
          rintro e w6 ⟨A6, c6, rfl, hR6, hB6⟩
          refine ⟨hB6, ?_⟩
          have hstr6 : ∀ W, Below w6.heap.size w6 W → (convert 22 9 (.slice A6 ys.length c6)).run Try.prog W = .ok (.string (strOfNums ys)) W := fun W h => run_str (hR6.below h)
          have y1' : ∀ W, Below w6.heap.size w6 W → W.cell? ⟨w2.heap.size, 1, none⟩ = some (.int .i64 l) := fun W h => y1 W (hB6.trans (h.mono hB6.size))
          have HB6 := Lib.hid hB6
          clear y0 y1 hstT hR6 hB6
          repeat (first | (refine wpOrd_take (v := ?_) rfl rfl rfl (fun W hW => ?_) ?_; rotate_left; (focus (go_simp; with_reducible rfl)); simp only [Act.put, List.setIfInBounds_toArray, List.set_cons_succ, List.set_cons_zero]) | (refine wpOrd_skip rfl rfl ?_; simp only [Act.put, List.setIfInBounds_toArray, List.set_cons_succ, List.set_cons_zero]))
          refine wpOrd_call rfl rfl rfl ?_
          go_simp
          refine (left_any (HBp.out.1.below HB6.out)).mono ?_
          rintro e w7 ⟨rfl, rfl⟩
          refine ⟨Below.refl _ _, ?_⟩
          repeat (first | (refine wpOrd_take (v := ?_) rfl rfl rfl (fun W hW => ?_) ?_; rotate_left; (focus (go_simp; with_reducible rfl)); simp only [Act.put, List.setIfInBounds_toArray, List.set_cons_succ, List.set_cons_zero]) | (refine wpOrd_skip rfl rfl ?_; simp only [Act.put, List.setIfInBounds_toArray, List.set_cons_succ, List.set_cons_zero]))
          refine wpOrd_nil ?_
          go_wp2_with fail
          go_roundw
          case rel =>
            have hs6 := HB6.out.size
            have hgF := (Array.getElem?_eq_some_iff.1 HBp.out.2.1).1
            exact ⟨k + 1, sc3, tc4, SA3, TA4, ys, l, Nat.succ_le_of_lt hlt, by go_num, HBp.out.1.below HB6.out, (HB6.out.block w2.heap.size hgF).trans HBp.out.2.1, own_mono (own_below HBp.out.2.2 HB6.out) (by have := HB3.out.size; simp <;> omega), HDF.out, HBf.out.trans (HB6.out.mono HBf.out.size), HXF, HLF⟩
          case measure => simp [intOf]; omega
      · have hf' : ¬ (left : Int) < (m : Int) := by omega
        go_wp2_with fail
        refine (write_fits2 w.heap.size w.heap.size SA sc xs left D1 m c1 (ls.getD k []) wr HS.out hbs hf (HRD.out.below HB.out) hmc hxl hl9).mono ?_
        rintro e w3 ⟨rfl, SA3, sc3, hS3, hO3, hF3⟩
        have hS := HS.out
        have hglt : w2.heap.size < wr.heap.size := (Array.getElem?_eq_some_iff.1 HT.out).1
        have hgne : some w2.heap.size ≠ rowOf SA := by have := own_ne hS.2 HT.out (by decide); rwa [own_rowOf] at this
        have hT3 := (hO3.block w2.heap.size hglt (by omega) hgne).trans HT.out
        have HT3 := Lib.hid hT3
        have hgr : ∀ j, rowOf TA = some j → j ≠ w.heap.size := fun j hj e => by have := own_ne HO.out hS.1 (by decide); rw [own_rowOf, hj, e] at this; exact this rfl
        have HO3 := Lib.hid (own_only2 HO.out hO3 (fun j hj => ⟨hgr j (by rw [own_rowOf] at hj; exact hj), fun e => HD.out j (by rw [own_rowOf] at hj; exact hj) e.symm⟩))
        have HB3 := Lib.hid (HB.out.trans (hO3.below hbs (Nat.le_refl _) (fun j hj => (hS.2.lt j (by rw [own_rowOf]; exact hj)).1)))
        have hs3 := hO3.size
        obtain ⟨ys, hys⟩ : ∃ ys, xs ++ List.take left (ls.getD k []) = ys := ⟨_, rfl⟩
        obtain ⟨l, hll⟩ : ∃ l, left - m = l := ⟨_, rfl⟩
        rw [hys, hll] at hS3
        have HYS := Lib.hid hys; have HLL := Lib.hid hll
        clear hys hll
        have HS3 := Lib.hid hS3
        have hq0 : ∀ W, Below w3.heap.size w3.drew W → W.cell? ⟨w2.heap.size, 0, none⟩ = some (.slice TA xs.length tc) := fun W h => (h.cell (by exact Nat.lt_of_lt_of_le hglt hs3)).trans (by show w3.cell? _ = _; simp [World.cell?, hT3])
        have hq1 : ∀ W, Below w3.heap.size w3.drew W → W.cell? ⟨w2.heap.size, 1, none⟩ = some (.int .i64 left) := fun W h => (h.cell (by exact Nat.lt_of_lt_of_le hglt hs3)).trans (by show w3.cell? _ = _; simp [World.cell?, hT3])
        have hqc : ∀ W, Below w3.heap.size w3.drew W → W.cell? (ad.add k) = some (.slice D1 m c1) := fun W h => by
          have hlt := World.block_lt_of_cell? w _ HC.out
          have hs := HB3.out.size
          exact (h.cell (by omega)).trans ((HB3.out.cell hlt).trans HC.out)
        clear hS hT3 hgr hO3 hS3 hF3 hgt0 hgt1 hcw
        go_wp2_with fail
        refine wp_region_ord2 w3.heap.size [0, 1, 2, 3, 4] 5 [6, 7, 8, 9, 10, 11, 12, 13] 10 [5, 6, 7, 8, 9, 11, 12, 13] [5, 10, 11] (by kernel_rfl) (by kernel_rfl) (by kernel_rfl) (fun d _ _ _ _ h => by cases d <;> exact h) (by kernel_rfl) ?_
        repeat (refine wpOrd2_take (v := ?_) rfl rfl (fun W hW => ?_) ?_; rotate_left; (focus (go_simp; with_reducible rfl)); simp only [Act.put, List.setIfInBounds_toArray, List.set_cons_succ, List.set_cons_zero])
        refine ⟨?_, ?_⟩
        · refine wpOrd_call rfl rfl rfl ?_
          go_simp
          refine (refWrite_fits2 TA tc xs left D1 m c1 (ls.getD k []) w3.drew (rd_of_own HO3.out) hf hl9 (HRD.out.below HB3.out.drew) hmc hxl HYS.out HLL.out).mono ?_
          rintro e w4 ⟨TA4, tc4, rfl, hO4, hB4⟩
          refine ⟨hB4, ?_⟩
          repeat (first | (refine wpOrd_take (v := ?_) rfl rfl rfl (fun W hW => ?_) ?_; rotate_left; (focus (go_simp; with_reducible rfl)); simp only [Act.put, List.setIfInBounds_toArray, List.set_cons_succ, List.set_cons_zero]) | (refine wpOrd_skip rfl rfl ?_; simp only [Act.put, List.setIfInBounds_toArray, List.set_cons_succ, List.set_cons_zero]))
          have hs4 : w3.heap.size ≤ w4.heap.size := hB4.size
          have hne4 : ¬ w2.heap.size = w4.heap.size := by omega
          have hlt4 : w2.heap.size < w4.heap.size := by omega
          have t0 : w4.cell? ⟨w2.heap.size, 0, none⟩ = some (.slice TA xs.length tc) := hq0 w4 hB4
          have t1 : w4.cell? ⟨w2.heap.size, 1, none⟩ = some (.int .i64 left) := hq1 w4 hB4
          have u0 : w4.frozen? ⟨w2.heap.size, 0, none⟩ = false := (hB4.frozen (p := ⟨w2.heap.size, 0, none⟩) (by exact Nat.lt_of_lt_of_le hglt hs3)).trans (by show w3.frozen? _ = _; simp [World.frozen?, HT3.out])
          have u1 : w4.frozen? ⟨w2.heap.size, 1, none⟩ = false := (hB4.frozen (p := ⟨w2.heap.size, 1, none⟩) (by exact Nat.lt_of_lt_of_le hglt hs3)).trans (by show w3.frozen? _ = _; simp [World.frozen?, HT3.out])
          refine wpOrd_call rfl rfl rfl ?_
          go_simp
          refine ⟨(Below.refl _ _).alloc hs4 _, ?_⟩
          repeat (first | (refine wpOrd_take (v := ?_) rfl rfl rfl (fun W hW => ?_) ?_; rotate_left; (focus (go_simp; with_reducible rfl)); simp only [Act.put, List.setIfInBounds_toArray, List.set_cons_succ, List.set_cons_zero]) | (refine wpOrd_skip rfl rfl ?_; simp only [Act.put, List.setIfInBounds_toArray, List.set_cons_succ, List.set_cons_zero]))
          refine wpOrd_call rfl rfl rfl ?_
          go_simp
          refine ⟨⟨rfl, rfl, rfl, by simp, fun j hj => by rw [Below.heap_alloc w4 _ j (by omega), Below.heap_alloc w4 _ j (by omega)]⟩, ?_⟩
          repeat (first | (refine wpOrd_take (v := ?_) rfl rfl rfl (fun W hW => ?_) ?_; rotate_left; (focus (go_simp; with_reducible rfl)); simp only [Act.put, List.setIfInBounds_toArray, List.set_cons_succ, List.set_cons_zero]) | (refine wpOrd_skip rfl rfl ?_; simp only [Act.put, List.setIfInBounds_toArray, List.set_cons_succ, List.set_cons_zero]))
          refine wpOrd_nil ?_
          go_wp2_with fail
          have hS3w := HS3.out
          have hls3 : ∀ j, rowOf SA3 = some j → j < w3.heap.size := fun j hj => (hS3w.2.lt j (by rw [own_rowOf]; exact hj)).2
          have hlt4r : ∀ j, rowOf TA4 = some j → w3.heap.size ≤ j := fun j hj => (hO4.lt j (by rw [own_rowOf]; exact hj)).1
          have HDF : Hid (∀ j, rowOf TA4 = some j → rowOf SA3 ≠ some j) := fun j hj he => by have := hls3 j he; have := hlt4r j hj; omega
          have hgt3 : w2.heap.size < w3.heap.size := Nat.lt_of_lt_of_le hglt hs3
          have hrs : rowOf SA3 ≠ some w2.heap.size := by have := own_ne hS3w.2 HT3.out (by decide); rw [own_rowOf] at this; exact Ne.symm this
          have hBo4 : Both w.heap.size w.heap.size w2.heap.size w3.heap.size SA3 sc3 (.slice TA xs.length tc) left TA4 tc4 ys l w4 :=
            ⟨(show Snk w3.drew _ _ _ _ _ _ from hS3w).below hB4, (hB4.block w2.heap.size hgt3).trans HT3.out, hO4⟩
          have HBo := Lib.hid ((hBo4.store (by omega) hrs hgt3).alloc (.cells #[.slice TA4 ys.length tc4, .int .i64 (l : Int)] 42))
          have HBe := Lib.hid ((((HB3.out.drew.trans (hB4.mono HB3.out.size)).setCell (p := ⟨w2.heap.size, 0, none⟩) (by simp <;> omega) (.slice TA4 ys.length tc4)).setCell (p := ⟨w2.heap.size, 1, none⟩) (by simp <;> omega) (.int .i64 (l : Int))).alloc (by have := HB3.out.size; simp [World.setCell] <;> omega) (.cells #[.slice TA4 ys.length tc4, .int .i64 (l : Int)] 42))
          clear hBo4 hrs hlt4r hls3 hS3w hO4 hB4
          generalize ((w4.setCell ⟨w2.heap.size, 0, none⟩ (.slice TA4 ys.length tc4)).setCell ⟨w2.heap.size, 1, none⟩ (.int .i64 (l : Int))).alloc (.cells #[.slice TA4 ys.length tc4, .int .i64 (l : Int)] 42) = WF at HBo HBe ⊢
          have HXF : Hid (ys = (cat ls (k + 1)).take r) := by
            have e := HYS.out
            rw [HX.out, HL.out, take_grow] at e
            rw [hcs.out]
            exact e.symm
          have HLF : Hid (l = r - (cat ls (k + 1)).length) := by
            have e := HLL.out
            have e2 := HL.out
            have e3 := HRD.out.1
            show l = _
            rw [hcs.out, List.length_append, e3]
            omega
          have hyl : ys.length ≤ 1000000 := by
            have e := HYS.out
            rw [← e, List.length_append, List.length_take]
            have := HRD.out.1
            omega
          have HYL := Lib.hid hyl
          clear hyl
          have hw20 : IntKind.i64.wrap (0 : Int) = 0 := by rw [IntKind.wrap_i64]; omega
          refine wp_region_ordV [0, 1, 2, 3, 4, 5, 6, 7, 8, 9, 10, 13, 14, 15, 11, 12, 16, 17, 18, 19, 21, 22, 20, 23, 24] [11, 20] (by kernel_rfl) (by kernel_rfl) (by kernel_rfl) (fun d _ _ _ _ h => by cases d <;> exact h) (by kernel_rfl) ?_
          intro WG hWG hBG
          have HBp := Lib.hid (show Both w.heap.size w.heap.size w2.heap.size _ SA3 sc3 (.slice TA4 ys.length tc4) l TA4 tc4 ys l WG from ⟨HBo.out.1.below hBG, by rw [hWG]; exact HBo.out.2.1, own_below HBo.out.2.2 hBG⟩)
          have HBf := Lib.hid (HBe.out.trans (hBG.mono HBe.out.size))
          have y0 : ∀ W, Below WG.heap.size WG W → W.cell? ⟨w2.heap.size, 0, none⟩ = some (.slice TA4 ys.length tc4) := fun W h => (h.cell (by exact (Array.getElem?_eq_some_iff.1 HBp.out.2.1).1)).trans (by simp [World.cell?, HBp.out.2.1])
          have y1 : ∀ W, Below WG.heap.size WG W → W.cell? ⟨w2.heap.size, 1, none⟩ = some (.int .i64 l) := fun W h => (h.cell (by exact (Array.getElem?_eq_some_iff.1 HBp.out.2.1).1)).trans (by simp [World.cell?, HBp.out.2.1])
          have hstT : ∀ W, Below WG.heap.size WG W → (convert 22 9 (.slice TA4 ys.length tc4)).run Try.prog W = .ok (.string (strOfNums ys)) W := fun W h => run_str ((rd_of_own HBp.out.2.2).below h)
          clear hWG hBG HBo HBe
          repeat (first | (refine wpOrd_take (v := ?_) rfl rfl rfl (fun W hW => ?_) ?_; rotate_left; (focus (go_simp; with_reducible rfl)); simp only [Act.put, List.setIfInBounds_toArray, List.set_cons_succ, List.set_cons_zero]) | (refine wpOrd_skip rfl rfl ?_; simp only [Act.put, List.setIfInBounds_toArray, List.set_cons_succ, List.set_cons_zero]))
          refine wpOrd_call rfl rfl rfl ?_
          go_simp
          refine (bytes_any HBp.out.1 HYL.out).mono ?_
          rintro e w6 ⟨A6, c6, rfl, hR6, hB6⟩
          refine ⟨hB6, ?_⟩
          have hstr6 : ∀ W, Below w6.heap.size w6 W → (convert 22 9 (.slice A6 ys.length c6)).run Try.prog W = .ok (.string (strOfNums ys)) W := fun W h => run_str (hR6.below h)
          have y1' : ∀ W, Below w6.heap.size w6 W → W.cell? ⟨w2.heap.size, 1, none⟩ = some (.int .i64 l) := fun W h => y1 W (hB6.trans (h.mono hB6.size))
          have HB6 := Lib.hid hB6
          clear y0 y1 hstT hR6 hB6
          repeat (first | (refine wpOrd_take (v := ?_) rfl rfl rfl (fun W hW => ?_) ?_; rotate_left; (focus (go_simp; with_reducible rfl)); simp only [Act.put, List.setIfInBounds_toArray, List.set_cons_succ, List.set_cons_zero]) | (refine wpOrd_skip rfl rfl ?_; simp only [Act.put, List.setIfInBounds_toArray, List.set_cons_succ, List.set_cons_zero]))
          refine wpOrd_call rfl rfl rfl ?_
          go_simp
          refine (left_any (HBp.out.1.below HB6.out)).mono ?_
          rintro e w7 ⟨rfl, rfl⟩
          refine ⟨Below.refl _ _, ?_⟩
          repeat (first | (refine wpOrd_take (v := ?_) rfl rfl rfl (fun W hW => ?_) ?_; rotate_left; (focus (go_simp; with_reducible rfl)); simp only [Act.put, List.setIfInBounds_toArray, List.set_cons_succ, List.set_cons_zero]) | (refine wpOrd_skip rfl rfl ?_; simp only [Act.put, List.setIfInBounds_toArray, List.set_cons_succ, List.set_cons_zero]))
          refine wpOrd_nil ?_
          go_wp2_with fail
          go_roundw
          case rel =>
            have hs6 := HB6.out.size
            have hgF := (Array.getElem?_eq_some_iff.1 HBp.out.2.1).1
            exact ⟨k + 1, sc3, tc4, SA3, TA4, ys, l, Nat.succ_le_of_lt hlt, by go_num, HBp.out.1.below HB6.out, (HB6.out.block w2.heap.size hgF).trans HBp.out.2.1, own_mono (own_below HBp.out.2.2 HB6.out) (by have := HB3.out.size; simp <;> omega), HDF.out, HBf.out.trans (HB6.out.mono HBf.out.size), HXF, HLF⟩
          case measure => simp [intOf]; omega
        · refine wpOrd_call rfl rfl rfl ?_
          go_simp
          refine ⟨to_drew (((Below.refl _ w3).alloc (Nat.le_refl _) _).drew), ?_⟩
          refine wpOrd_call rfl rfl rfl ?_
          go_simp
          refine (refWrite_fits2 TA tc xs left D1 m c1 (ls.getD k []) _ ((rd_of_own HO3.out).below ((Below.refl _ w3).alloc (Nat.le_refl _) _).drew) hf hl9 (HRD.out.below (HB3.out.alloc HB3.out.size _).drew) hmc hxl HYS.out HLL.out).mono ?_
          rintro e w4 ⟨TA4, tc4, rfl, hO4, hB4⟩
          refine ⟨hB4.mono (by simp), ?_⟩
          obtain ⟨hc4, hf4⟩ := bcell hB4
          have d0 : w4.cell? ⟨w3.heap.size, 0, none⟩ = some (.slice none 0 0) := (hc4 _ _ (by simp)).trans (by go_simp)
          have d1 : w4.cell? ⟨w3.heap.size, 1, none⟩ = some (.int .i64 0) := (hc4 _ _ (by simp)).trans (by go_simp)
          have g0 : w4.frozen? ⟨w3.heap.size, 0, none⟩ = false := (hf4 _ _ (by simp)).trans (by go_simp)
          have g1 : w4.frozen? ⟨w3.heap.size, 1, none⟩ = false := (hf4 _ _ (by simp)).trans (by go_simp)
          clear hc4 hf4
          have hne4 : ¬ w2.heap.size = w3.heap.size := by omega
          have hne5 : ¬ w3.heap.size = w2.heap.size := by omega
          have hB4' : Below w3.heap.size w3.drew w4 := to_drew ((((Below.refl _ w3).alloc (Nat.le_refl _) (.cells #[.slice none 0 0, .int .i64 0] 42)).drew).trans (hB4.mono (by simp)))
          have t0 : w4.cell? ⟨w2.heap.size, 0, none⟩ = some (.slice TA xs.length tc) := hq0 w4 hB4'
          have t1 : w4.cell? ⟨w2.heap.size, 1, none⟩ = some (.int .i64 left) := hq1 w4 hB4'
          have u0 : w4.frozen? ⟨w2.heap.size, 0, none⟩ = false := (hB4'.frozen (p := ⟨w2.heap.size, 0, none⟩) (by exact Nat.lt_of_lt_of_le hglt hs3)).trans (by show w3.frozen? _ = _; simp [World.frozen?, HT3.out])
          have u1 : w4.frozen? ⟨w2.heap.size, 1, none⟩ = false := (hB4'.frozen (p := ⟨w2.heap.size, 1, none⟩) (by exact Nat.lt_of_lt_of_le hglt hs3)).trans (by show w3.frozen? _ = _; simp [World.frozen?, HT3.out])
          repeat (first | (refine wpOrd_take (v := ?_) rfl rfl rfl (fun W hW => ?_) ?_; rotate_left; (focus (go_simp; with_reducible rfl)); simp only [Act.put, List.setIfInBounds_toArray, List.set_cons_succ, List.set_cons_zero]) | (refine wpOrd_skip rfl rfl ?_; simp only [Act.put, List.setIfInBounds_toArray, List.set_cons_succ, List.set_cons_zero]))
          refine wpOrd_call rfl rfl rfl ?_
          go_simp
          refine ⟨((Below.refl w3.heap.size w4).setCell (p := ⟨w3.heap.size, 0, none⟩) (Nat.le_refl _) _).setCell (p := ⟨w3.heap.size, 1, none⟩) (Nat.le_refl _) _, ?_⟩
          repeat (first | (refine wpOrd_take (v := ?_) rfl rfl rfl (fun W hW => ?_) ?_; rotate_left; (focus (go_simp; with_reducible rfl)); simp only [Act.put, List.setIfInBounds_toArray, List.set_cons_succ, List.set_cons_zero]) | (refine wpOrd_skip rfl rfl ?_; simp only [Act.put, List.setIfInBounds_toArray, List.set_cons_succ, List.set_cons_zero]))
          refine wpOrd_nil ?_
          go_wp2_with fail
          have hS3w := HS3.out
          have hls3 : ∀ j, rowOf SA3 = some j → j < w3.heap.size := fun j hj => (hS3w.2.lt j (by rw [own_rowOf]; exact hj)).2
          have hO4' : w4.ownsRow (w3.heap.size + 1) 5 1 (.slice TA4 ys.length tc4) ys.length (ys.map (Value.int .u8)) := by have := hO4; simpa using this
          have hlt4r : ∀ j, rowOf TA4 = some j → w3.heap.size + 1 ≤ j := fun j hj => (hO4'.lt j (by rw [own_rowOf]; exact hj)).1
          have HDF : Hid (∀ j, rowOf TA4 = some j → rowOf SA3 ≠ some j) := fun j hj he => by have := hls3 j he; have := hlt4r j hj; omega
          have hgt3 : w2.heap.size < w3.heap.size := Nat.lt_of_lt_of_le hglt hs3
          have hrs : rowOf SA3 ≠ some w2.heap.size := by have := own_ne hS3w.2 HT3.out (by decide); rw [own_rowOf] at this; exact Ne.symm this
          have hru : rowOf SA3 ≠ some w3.heap.size := fun e => by have := hls3 _ e; omega
          have hBo4 : Both w.heap.size w.heap.size w2.heap.size (w3.heap.size + 1) SA3 sc3 (.slice TA xs.length tc) left TA4 tc4 ys l w4 :=
            ⟨(show Snk w3.drew _ _ _ _ _ _ from hS3w).below hB4', (hB4'.block w2.heap.size hgt3).trans HT3.out, hO4'⟩
          have HBo := Lib.hid (((hBo4.set (gu := w3.heap.size) (off := 0) (v := .slice TA4 ys.length tc4) (by omega) hru (by omega) (by omega)).set (gu := w3.heap.size) (off := 1) (v := .int .i64 (l : Int)) (by omega) hru (by omega) (by omega)).store (by omega) hrs (by omega))
          have HBe := Lib.hid (((((HB3.out.drew.trans (hB4'.mono HB3.out.size)).setCell (p := ⟨w3.heap.size, 0, none⟩) (by simp <;> omega) (.slice TA4 ys.length tc4)).setCell (p := ⟨w3.heap.size, 1, none⟩) (by simp <;> omega) (.int .i64 (l : Int))).setCell (p := ⟨w2.heap.size, 0, none⟩) (by simp <;> omega) (.slice TA4 ys.length tc4)).setCell (p := ⟨w2.heap.size, 1, none⟩) (by simp <;> omega) (.int .i64 (l : Int)))
          clear hBo4 hrs hlt4r hls3 hS3w hO4 hB4 hB4' hO4' hru
          generalize (((w4.setCell ⟨w3.heap.size, 0, none⟩ (.slice TA4 ys.length tc4)).setCell ⟨w3.heap.size, 1, none⟩ (.int .i64 (l : Int))).setCell ⟨w2.heap.size, 0, none⟩ (.slice TA4 ys.length tc4)).setCell ⟨w2.heap.size, 1, none⟩ (.int .i64 (l : Int)) = WF at HBo HBe ⊢
          have HXF : Hid (ys = (cat ls (k + 1)).take r) := by
            have e := HYS.out
            rw [HX.out, HL.out, take_grow] at e
            rw [hcs.out]
            exact e.symm
          have HLF : Hid (l = r - (cat ls (k + 1)).length) := by
            have e := HLL.out
            have e2 := HL.out
            have e3 := HRD.out.1
            show l = _
            rw [hcs.out, List.length_append, e3]
            omega
          have hyl : ys.length ≤ 1000000 := by
            have e := HYS.out
            rw [← e, List.length_append, List.length_take]
            have := HRD.out.1
            omega
          have HYL := Lib.hid hyl
          clear hyl
          have hw20 : IntKind.i64.wrap (0 : Int) = 0 := by rw [IntKind.wrap_i64]; omega
          refine wp_region_ordV [0, 1, 2, 3, 4, 5, 6, 7, 8, 9, 10, 13, 14, 15, 11, 12, 16, 17, 18, 19, 21, 22, 20, 23, 24] [11, 20] (by kernel_rfl) (by kernel_rfl) (by kernel_rfl) (fun d _ _ _ _ h => by cases d <;> exact h) (by kernel_rfl) ?_
          intro WG hWG hBG
          have HBp := Lib.hid (show Both w.heap.size w.heap.size w2.heap.size _ SA3 sc3 (.slice TA4 ys.length tc4) l TA4 tc4 ys l WG from ⟨HBo.out.1.below hBG, by rw [hWG]; exact HBo.out.2.1, own_below HBo.out.2.2 hBG⟩)
          have HBf := Lib.hid (HBe.out.trans (hBG.mono HBe.out.size))
          have y0 : ∀ W, Below WG.heap.size WG W → W.cell? ⟨w2.heap.size, 0, none⟩ = some (.slice TA4 ys.length tc4) := fun W h => (h.cell (by exact (Array.getElem?_eq_some_iff.1 HBp.out.2.1).1)).trans (by simp [World.cell?, HBp.out.2.1])
          have y1 : ∀ W, Below WG.heap.size WG W → W.cell? ⟨w2.heap.size, 1, none⟩ = some (.int .i64 l) := fun W h => (h.cell (by exact (Array.getElem?_eq_some_iff.1 HBp.out.2.1).1)).trans (by simp [World.cell?, HBp.out.2.1])
          have hstT : ∀ W, Below WG.heap.size WG W → (convert 22 9 (.slice TA4 ys.length tc4)).run Try.prog W = .ok (.string (strOfNums ys)) W := fun W h => run_str ((rd_of_own HBp.out.2.2).below h)
          clear hWG hBG HBo HBe
          repeat (first | (refine wpOrd_take (v := ?_) rfl rfl rfl (fun W hW => ?_) ?_; rotate_left; (focus (go_simp; with_reducible rfl)); simp only [Act.put, List.setIfInBounds_toArray, List.set_cons_succ, List.set_cons_zero]) | (refine wpOrd_skip rfl rfl ?_; simp only [Act.put, List.setIfInBounds_toArray, List.set_cons_succ, List.set_cons_zero]))
          refine wpOrd_call rfl rfl rfl ?_
          go_simp
          refine (bytes_any HBp.out.1 HYL.out).mono ?_
          rintro e w6 ⟨A6, c6, rfl, hR6, hB6⟩
          refine ⟨hB6, ?_⟩
          have hstr6 : ∀ W, Below w6.heap.size w6 W → (convert 22 9 (.slice A6 ys.length c6)).run Try.prog W = .ok (.string (strOfNums ys)) W := fun W h => run_str (hR6.below h)
          have y1' : ∀ W, Below w6.heap.size w6 W → W.cell? ⟨w2.heap.size, 1, none⟩ = some (.int .i64 l) := fun W h => y1 W (hB6.trans (h.mono hB6.size))
          have HB6 := Lib.hid hB6
          clear y0 y1 hstT hR6 hB6
          repeat (first | (refine wpOrd_take (v := ?_) rfl rfl rfl (fun W hW => ?_) ?_; rotate_left; (focus (go_simp; with_reducible rfl)); simp only [Act.put, List.setIfInBounds_toArray, List.set_cons_succ, List.set_cons_zero]) | (refine wpOrd_skip rfl rfl ?_; simp only [Act.put, List.setIfInBounds_toArray, List.set_cons_succ, List.set_cons_zero]))
          refine wpOrd_call rfl rfl rfl ?_
          go_simp
          refine (left_any (HBp.out.1.below HB6.out)).mono ?_
          rintro e w7 ⟨rfl, rfl⟩
          refine ⟨Below.refl _ _, ?_⟩
          repeat (first | (refine wpOrd_take (v := ?_) rfl rfl rfl (fun W hW => ?_) ?_; rotate_left; (focus (go_simp; with_reducible rfl)); simp only [Act.put, List.setIfInBounds_toArray, List.set_cons_succ, List.set_cons_zero]) | (refine wpOrd_skip rfl rfl ?_; simp only [Act.put, List.setIfInBounds_toArray, List.set_cons_succ, List.set_cons_zero]))
          refine wpOrd_nil ?_
          go_wp2_with fail
          go_roundw
          case rel =>
            have hs6 := HB6.out.size
            have hgF := (Array.getElem?_eq_some_iff.1 HBp.out.2.1).1
            exact ⟨k + 1, sc3, tc4, SA3, TA4, ys, l, Nat.succ_le_of_lt hlt, by go_num, HBp.out.1.below HB6.out, (HB6.out.block w2.heap.size hgF).trans HBp.out.2.1, own_mono (own_below HBp.out.2.2 HB6.out) (by have := HB3.out.size; simp <;> omega), HDF.out, HBf.out.trans (HB6.out.mono HBf.out.size), HXF, HLF⟩
          case measure => simp [intOf]; omega
    · have hlt' : ¬ (k : Int) < (n : Int) := by omega
      clear hS HT hown hdis HX HL hb hmono
      go_wp2_with fail
      go_ret
      exact ⟨rfl, hB⟩

end Go.Proofs.Yteejjgnpjkldiaa
