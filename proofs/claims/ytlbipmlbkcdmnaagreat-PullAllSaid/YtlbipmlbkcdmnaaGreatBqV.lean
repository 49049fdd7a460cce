
/-
  A member, as choices say: its walk.
-/
import Derived.Test.YtlbipmlbkcdmnaaGreatBpV
import Derived.Test.YtlbipmlbkcdmnaaGreatBrV
namespace Go.Proofs.YtlbipmlbkcdmnaaGreat
open Go.RowKit Go.Shelf

/-- Block N is a member. -/
def MemB (w : World) (N : Nat) (m : Mem) (pv dv : Value) : Prop := w.heap[N]? = some (.cells (memCells m pv dv).toArray 32 (0, 0))

theorem MemB.lt {w : World} {N : Nat} {m : Mem} {pv dv : Value} (h : MemB w N m pv dv) : N < w.heap.size := (Array.getElem?_eq_some_iff.1 h).1
theorem MemB.below {w w' : World} {N : Nat} {m : Mem} {pv dv : Value} (h : MemB w N m pv dv) (hb : Below w.heap.size w w') : MemB w' N m pv dv := (hb.block N h.lt).trans h
theorem MemB.cell {w : World} {N : Nat} {m : Mem} {pv dv : Value} (h : MemB w N m pv dv) (i : Nat) (v : Value) (hi : (memCells m pv dv)[i]? = some v) : w.cell? ⟨N, i, none⟩ = some v := by
  have := row_cells h i v hi
  rwa [Addr.add_lit, Nat.zero_add] at this
theorem MemB.frz {w : World} {N : Nat} {m : Mem} {pv dv : Value} (h : MemB w N m pv dv) (i : Nat) : w.frozen? ⟨N, i, none⟩ = false := by
  unfold World.frozen?
  dsimp only
  rw [h]
  rfl
theorem MemB.set {w : World} {N : Nat} {m m' : Mem} {pv dv pv' dv' : Value} (h : MemB w N m pv dv) (i : Nat) (v : Value) (he : (memCells m pv dv).set i v = memCells m' pv' dv') : MemB (w.setCell ⟨N, i, none⟩ v) N m' pv' dv' := by
  have := heap_setCell_same w N i _ 32 v h
  rw [MemB, this, List.setIfInBounds_toArray, he]
theorem MemT.set {w : World} {N i : Nat} {m m0 : Mem} {pv dv pv0 dv0 v : Value} (h : MemT w m pv dv) (hB : MemB w N m0 pv0 dv0) : MemT (w.setCell ⟨N, i, none⟩ v) m pv dv :=
  h.keeps fun g cs T hg hT => (Below.heap_setCell _ _ _ _ (fun e => by
    subst e
    have hB' : w.heap[g]? = some (.cells (memCells m0 pv0 dv0).toArray 32 (0, 0)) := hB
    rw [hg] at hB'
    injection hB' with hB'
    injection hB' with _ h2 _
    exact hT h2)).trans hg

theorem rd_drop {w : World} {k : IntKind} {A : Option Addr} {n : Nat} {xs : List Int} (h : Rd w k A n xs) (i : Nat) : Rd w k (A.map fun x => x.add i) (n - i) (xs.drop i) := by
  refine ⟨by rw [List.length_drop, h.1], fun j hj => ?_⟩
  obtain ⟨ad, rfl, hc⟩ := h.2 (i + j) (by omega)
  refine ⟨_, rfl, ?_⟩
  rw [Addr.add_add, List.getD_eq_getElem?_getD, List.getElem?_drop, ← List.getD_eq_getElem?_getD]
  exact hc
theorem rd_none {w : World} {k : IntKind} {A : Option Addr} : Rd w k A 0 [] := ⟨rfl, fun _ hj => absurd hj (Nat.not_lt_zero _)⟩

theorem build54M (s : List UInt8) (k : Int) (w : World) : (Instr.build 30 #[(0, .string ⟨s.toArray⟩), (2, .int .u8 k)]).run Tryz.prog w = .ok (.agg #[.string ⟨s.toArray⟩, .string ⟨#[]⟩, .int .u8 k, .int .i64 0, .int .i64 0, .int .i64 0, .string ⟨#[]⟩, .string ⟨#[]⟩, .int .i64 0, .int .i64 0, .int .i64 0, .int .i64 0, .int .i64 0, .int .i64 0, .bool false, .slice none 0 0, .slice none 0 0]) w := run_build w 30 _ _ (by kernel_rfl)
theorem build56M (s : List UInt8) (k : Int) (w : World) : (Instr.build 32 #[(0, .agg #[.string ⟨s.toArray⟩, .string ⟨#[]⟩, .int .u8 k, .int .i64 0, .int .i64 0, .int .i64 0, .string ⟨#[]⟩, .string ⟨#[]⟩, .int .i64 0, .int .i64 0, .int .i64 0, .int .i64 0, .int .i64 0, .int .i64 0, .bool false, .slice none 0 0, .slice none 0 0])]).run Tryz.prog w = .ok (.agg (memCells ⟨s, [], k, 0, false, []⟩ (.slice none 0 0) (.slice none 0 0)).toArray) w := run_build w 32 _ _ (by kernel_rfl)

theorem kind_at (x : Int) : ∃ kd : Int, (#[.int .u8 48, .int .u8 48, .int .u8 53, .int .u8 50, .int .u8 49, .int .u8 48, .int .u8 51, .int .u8 50] : Array Value)[(x % 8).toNat]? = some (.int .u8 kd) := by
  have h8 : (x % 8).toNat = 0 ∨ (x % 8).toNat = 1 ∨ (x % 8).toNat = 2 ∨ (x % 8).toNat = 3 ∨ (x % 8).toNat = 4 ∨ (x % 8).toNat = 5 ∨ (x % 8).toNat = 6 ∨ (x % 8).toNat = 7 := by omega
  rcases h8 with h | h | h | h | h | h | h | h <;> (rw [h]; exact ⟨_, rfl⟩)

theorem link_at (x : Int) : ∃ ln : List UInt8, (#[.string ⟨#[97]⟩, .string ⟨#[46, 46, 47, 120]⟩, .string ⟨#[98]⟩, .string ⟨#[47, 97, 98, 115]⟩, .string ⟨#[46, 46, 47, 46, 46, 47, 120]⟩, .string ⟨#[97, 47, 98, 47, 99]⟩, .string ⟨#[100]⟩, .string ⟨#[46, 47, 100, 47, 46, 46, 47, 101]⟩] : Array Value)[(x % 8).toNat]? = some (.string ⟨ln.toArray⟩) ∧ ln.length ≤ 1000 := by
  have h8 : (x % 8).toNat = 0 ∨ (x % 8).toNat = 1 ∨ (x % 8).toNat = 2 ∨ (x % 8).toNat = 3 ∨ (x % 8).toNat = 4 ∨ (x % 8).toNat = 5 ∨ (x % 8).toNat = 6 ∨ (x % 8).toNat = 7 := by omega
  rcases h8 with h | h | h | h | h | h | h | h <;> (rw [h]; exact ⟨_, rfl, by decide⟩)

set_option maxRecDepth 100000 in
set_option maxHeartbeats 4000000 in
theorem member_any {w : World} {A : Option Addr} {n c : Nat} {bs : List Int} (h : Rd w .u8 A n bs) (hr : ∀ x ∈ bs, 0 ≤ x ∧ x < 256) (hn : n ≤ 9223372036854775807) (hnc : n ≤ c) (i : Nat) (hi : i ≤ 1000) (hin : i < n) :
    Calls Tryz.prog 5 #[.slice A n c, .int .i64 i] w fun e w' => ∃ m pv dv, e = .returned (.agg (memCells m pv dv).toArray) ∧ MemT w' m pv dv ∧ m.name.length ≤ 1000 ∧ m.link.length ≤ 1000 ∧ Below w.heap.size w w' := by
  have hw0 : IntKind.i64.wrap ((i : Int) + 0) = i := by rw [IntKind.wrap_i64]; omega
  have hw1 : IntKind.i64.wrap ((i : Int) + 1) = ((i + 1 : Nat) : Int) := by rw [IntKind.wrap_i64]; omega
  have hw2 : IntKind.i64.wrap ((i : Int) + 2) = ((i + 2 : Nat) : Int) := by rw [IntKind.wrap_i64]; omega
  have HG0 := Lib.hid (fun W (hW : Below w.heap.size w W) => g_any (c := c) (h.below hW) hr i)
  have HG1 := Lib.hid (fun W (hW : Below w.heap.size w W) => g_any (c := c) (h.below hW) hr (i + 1))
  have HG2 := Lib.hid (fun W (hW : Below w.heap.size w W) => g_any (c := c) (h.below hW) hr (i + 2))
  have HRD := Lib.hid h
  clear h
  have hz := heap_alloc_new w (.cells #[.string ⟨#[]⟩, .string ⟨#[]⟩, .int .u8 0, .int .i64 0, .int .i64 0, .int .i64 0, .string ⟨#[]⟩, .string ⟨#[]⟩, .int .i64 0, .int .i64 0, .int .i64 0, .int .i64 0, .int .i64 0, .int .i64 0, .bool false, .slice none 0 0, .slice none 0 0, .slice none 0 0] 32)
  have hb1 : Below w.heap.size w (w.alloc (.cells #[.string ⟨#[]⟩, .string ⟨#[]⟩, .int .u8 0, .int .i64 0, .int .i64 0, .int .i64 0, .string ⟨#[]⟩, .string ⟨#[]⟩, .int .i64 0, .int .i64 0, .int .i64 0, .int .i64 0, .int .i64 0, .int .i64 0, .bool false, .slice none 0 0, .slice none 0 0, .slice none 0 0] 32)) := (Below.refl _ _).alloc (Nat.le_refl _) _
  generalize hw1e : w.alloc (.cells #[.string ⟨#[]⟩, .string ⟨#[]⟩, .int .u8 0, .int .i64 0, .int .i64 0, .int .i64 0, .string ⟨#[]⟩, .string ⟨#[]⟩, .int .i64 0, .int .i64 0, .int .i64 0, .int .i64 0, .int .i64 0, .int .i64 0, .bool false, .slice none 0 0, .slice none 0 0, .slice none 0 0] 32) = w1 at hz hb1
  have HZ := Lib.hid hz
  have HB1 := Lib.hid hb1
  have HWS := Lib.hid (show w1.heap.size = w.heap.size + 1 by rw [← hw1e]; simp)
  clear hz hb1
  go_enter Tryz.func5, Tryz.ntmps5
  go_wp2_with fail
  clear hw1e
  refine (HG0.out _ HB1.out).mono ?_
  rintro e w2 ⟨x0, rfl, hx0, hx0', hwe⟩
  obtain rfl := hwe.symm
  have hpl := path_short x0
  have HPA := fun w => path_any x0 w hx0 hx0'
  generalize pathOf x0 = nm at hpl HPA
  go_wp2_with fail
  refine (HPA _).mono ?_
  rintro e w3 ⟨rfl, hb3⟩
  clear HPA
  have hb4 : Below w3.heap.size w3 (w3.alloc (.cells #[.int .u8 48, .int .u8 48, .int .u8 53, .int .u8 50, .int .u8 49, .int .u8 48, .int .u8 51, .int .u8 50] 5)) := (Below.refl _ _).alloc (Nat.le_refl _) _
  have hk4 := heap_alloc_new w3 (.cells #[.int .u8 48, .int .u8 48, .int .u8 53, .int .u8 50, .int .u8 49, .int .u8 48, .int .u8 51, .int .u8 50] 5)
  generalize hw4e : w3.alloc (.cells #[.int .u8 48, .int .u8 48, .int .u8 53, .int .u8 50, .int .u8 49, .int .u8 48, .int .u8 51, .int .u8 50] 5) = w4 at hb4 hk4
  have HS4 := Lib.hid (show w4.heap.size = w3.heap.size + 1 by rw [← hw4e]; simp)
  have HB4 := Lib.hid (HB1.out.trans ((hb3.trans (hb4.mono hb3.size)).mono HB1.out.size))
  have HZ4 := Lib.hid (((hb3.trans (hb4.mono hb3.size)).block w.heap.size (by have := HWS.out; omega)).trans HZ.out)
  have HLT := Lib.hid (show w.heap.size < w4.heap.size by have := HWS.out; have := hb3.size; have := hb4.size; omega)
  clear hb3 hb4
  go_wp2_with fail
  clear hw4e
  refine (HG1.out _ HB4.out).mono ?_
  rintro e w5 ⟨x1, rfl, hx1, hx1', hwe⟩
  obtain rfl := hwe.symm
  obtain ⟨kd, hkd⟩ := kind_at x1
  have hck : w4.cell? ⟨w3.heap.size, (x1 % 8).toNat, none⟩ = some (.int .u8 kd) := by
    unfold World.cell?
    dsimp only
    rw [hk4]
    simpa using hkd
  have hm8 : 0 ≤ x1 % 8 ∧ x1 % 8 < 8 := by omega
  have b54 := build54M nm kd
  have b56 := build56M nm kd
  have hst := store_alloc (P := Tryz.prog) w4 #[.string ⟨#[]⟩, .string ⟨#[]⟩, .int .u8 0, .int .i64 0, .int .i64 0, .int .i64 0, .string ⟨#[]⟩, .string ⟨#[]⟩, .int .i64 0, .int .i64 0, .int .i64 0, .int .i64 0, .int .i64 0, .int .i64 0, .bool false, .slice none 0 0, .slice none 0 0, .slice none 0 0] (memCells ⟨nm, [], kd, 0, false, []⟩ (.slice none 0 0) (.slice none 0 0)) 32 rfl (memCells_one _ _ _ _ _ _ _)
  clear hkd hk4
  go_wp2_with fail
  have HM5 := Lib.hid (show MemB (w4.alloc (.cells #[.string ⟨nm.toArray⟩, .string ⟨#[]⟩, .int .u8 kd, .int .i64 0, .int .i64 0, .int .i64 0, .string ⟨#[]⟩, .string ⟨#[]⟩, .int .i64 0, .int .i64 0, .int .i64 0, .int .i64 0, .int .i64 0, .int .i64 0, .bool false, .slice none 0 0, .slice none 0 0, .slice none 0 0] 32)) w4.heap.size ⟨nm, [], kd, 0, false, []⟩ (.slice none 0 0) (.slice none 0 0) from heap_alloc_new w4 _)
  have hb5 : Below w4.heap.size w4 (w4.alloc (.cells #[.string ⟨nm.toArray⟩, .string ⟨#[]⟩, .int .u8 kd, .int .i64 0, .int .i64 0, .int .i64 0, .string ⟨#[]⟩, .string ⟨#[]⟩, .int .i64 0, .int .i64 0, .int .i64 0, .int .i64 0, .int .i64 0, .int .i64 0, .bool false, .slice none 0 0, .slice none 0 0, .slice none 0 0] 32)) := (Below.refl _ _).alloc (Nat.le_refl _) _
  have HB5 := Lib.hid (HB4.out.trans (hb5.mono HB4.out.size))
  have HZ5 := Lib.hid ((hb5.block _ HLT.out).trans HZ4.out)
  clear hb5 hst b54 b56 hck
  generalize w4.alloc (.cells #[.string ⟨nm.toArray⟩, .string ⟨#[]⟩, .int .u8 kd, .int .i64 0, .int .i64 0, .int .i64 0, .string ⟨#[]⟩, .string ⟨#[]⟩, .int .i64 0, .int .i64 0, .int .i64 0, .int .i64 0, .int .i64 0, .int .i64 0, .bool false, .slice none 0 0, .slice none 0 0, .slice none 0 0] 32) = W5 at HM5 HB5 HZ5 ⊢
  refine (HG0.out _ HB5.out).mono ?_
  rintro e w6 ⟨x2, rfl, hx2, hx2', hwe⟩
  obtain rfl := hwe.symm
  have HT5 := Lib.hid (show MemT W5 ⟨nm, [], kd, 0, false, []⟩ (.slice none 0 0) (.slice none 0 0) from ⟨.inl ⟨rfl, rfl⟩, .inl ⟨rfl, rfl⟩⟩)
  have HN5 := Lib.hid (show (⟨nm, [], kd, 0, false, []⟩ : Mem).name.length ≤ 1000 ∧ (⟨nm, [], kd, 0, false, []⟩ : Mem).link.length ≤ 1000 from ⟨hpl, by simp⟩)
  have HHO5 := Lib.hid (show (⟨nm, [], kd, 0, false, []⟩ : Mem).holes = false from rfl)
  by_cases h200 : 200 < x2
  · have hiz : (i : Int) < (n : Int) := by omega
    have hic : (i : Int) ≤ (c : Int) := by omega
    have hmin : min (i : Int) (n : Int) = i := by omega
    go_wp2_with fail
    refine (path02_any (rd_drop (HRD.out.below HB5.out) i) (fun x hx => hr x (List.mem_of_mem_drop hx)) (by omega)).mono ?_
    rintro e w7 ⟨p, rfl, hp, hb7⟩
    have HMp := HM5.out.below hb7
    have HTp := HT5.out.below hb7
    have HZp := (hb7.block w.heap.size (by have := HLT.out; have := HM5.out.lt; omega)).trans HZ5.out
    have HBp := HB5.out.trans (hb7.mono HB5.out.size)
    have f0 := HMp.frz 0
    have c0 := HMp.cell 0 (.string ⟨nm.toArray⟩) rfl
    have HM7 := Lib.hid (HMp.set 0 (.string ⟨p.toArray⟩) (m' := ⟨p, [], kd, 0, false, []⟩) (pv' := .slice none 0 0) (dv' := .slice none 0 0) rfl)
    have HT7 := Lib.hid (show MemT (w7.setCell ⟨w4.heap.size, 0, none⟩ (.string ⟨p.toArray⟩)) ⟨p, [], kd, 0, false, []⟩ (.slice none 0 0) (.slice none 0 0) from ⟨.inl ⟨rfl, rfl⟩, .inl ⟨rfl, rfl⟩⟩)
    have HZ7 := Lib.hid ((Below.heap_setCell w7 ⟨w4.heap.size, 0, none⟩ (.string ⟨p.toArray⟩) w.heap.size (Nat.ne_of_lt HLT.out)).trans HZp)
    have HB7 := Lib.hid (HBp.setCell (p := ⟨w4.heap.size, 0, none⟩) (Nat.le_of_lt HLT.out) (.string ⟨p.toArray⟩))
    have HN7 := Lib.hid (show (⟨p, [], kd, 0, false, []⟩ : Mem).name.length ≤ 1000 ∧ (⟨p, [], kd, 0, false, []⟩ : Mem).link.length ≤ 1000 from ⟨by show p.length ≤ 1000; omega, by simp⟩)
    have HHO := Lib.hid (show (⟨p, [], kd, 0, false, []⟩ : Mem).holes = false from rfl)
    generalize (⟨p, [], kd, 0, false, []⟩ : Mem) = m1 at HM7 HT7 HN7 HHO
    clear hb7 HMp HTp HZp HBp HM5 HT5 HZ5 HB5 HN5 HHO5
    go_upto_region 4 with fail
    clear f0 c0
    generalize w7.setCell ⟨w4.heap.size, 0, none⟩ (.string ⟨p.toArray⟩) = W7 at HM7 HT7 HZ7 HB7 ⊢
    have c2 := HM7.out.cell 2 (.int .u8 m1.kind) rfl
    have HH7 := Lib.hid (show m1.holes = false from HHO.out)
    generalize hkq : m1.kind = kq at c2
    clear hkq
    by_cases k48 : kq = 48
    · subst k48
      go_wp2_with fail
      clear c2
      refine (HG1.out _ HB7.out).mono ?_
      rintro e w8 ⟨y0, rfl, _, _, hwe⟩
      obtain rfl := hwe.symm
      go_wp2_with fail
      refine (HG2.out _ HB7.out).mono ?_
      rintro e w9 ⟨y1, rfl, _, _, hwe⟩
      obtain rfl := hwe.symm
      have hbA : Below W7.heap.size W7 (W7.alloc (.cells #[.int .u8 y0, .int .u8 y1] 5)) := (Below.refl _ _).alloc (Nat.le_refl _) _
      have hkA := heap_alloc_new W7 (.cells #[.int .u8 y0, .int .u8 y1] 5)
      have HMA := HM7.out.below hbA
      have fA := HMA.frz 17
      have cA := HMA.cell 17 (.slice none 0 0) rfl
      have HM8 := Lib.hid (HMA.set 17 (.slice (some ⟨W7.heap.size, 0, none⟩) 2 2) (m' := { m1 with data := [y0, y1] }) (pv' := .slice none 0 0) (dv' := .slice (some ⟨W7.heap.size, 0, none⟩) 2 2) rfl)
      have HT8 := Lib.hid (MemT.set (i := 17) (v := .slice (some ⟨W7.heap.size, 0, none⟩) 2 2) (show MemT (W7.alloc (.cells #[.int .u8 y0, .int .u8 y1] 5)) { m1 with data := [y0, y1] } (.slice none 0 0) (.slice (some ⟨W7.heap.size, 0, none⟩) 2 2) from ⟨.inr ⟨_, y0, y1, rfl, rfl, hkA⟩, .inl ⟨rfl, HH7.out⟩⟩) HMA)
      have HZ8 := Lib.hid (show ((W7.alloc (.cells #[.int .u8 y0, .int .u8 y1] 5)).setCell ⟨w4.heap.size, 17, none⟩ (.slice (some ⟨W7.heap.size, 0, none⟩) 2 2)).heap[w.heap.size]? = some (.cells #[.string ⟨#[]⟩, .string ⟨#[]⟩, .int .u8 0, .int .i64 0, .int .i64 0, .int .i64 0, .string ⟨#[]⟩, .string ⟨#[]⟩, .int .i64 0, .int .i64 0, .int .i64 0, .int .i64 0, .int .i64 0, .int .i64 0, .bool false, .slice none 0 0, .slice none 0 0, .slice none 0 0] 32 (0, 0)) from (Below.heap_setCell _ ⟨w4.heap.size, 17, none⟩ _ w.heap.size (Nat.ne_of_lt HLT.out)).trans ((hbA.block _ (by have := HLT.out; have := HM7.out.lt; omega)).trans HZ7.out))
      have HB8 := Lib.hid (show Below w.heap.size w ((W7.alloc (.cells #[.int .u8 y0, .int .u8 y1] 5)).setCell ⟨w4.heap.size, 17, none⟩ (.slice (some ⟨W7.heap.size, 0, none⟩) 2 2)) from (HB7.out.trans (hbA.mono HB7.out.size)).setCell (p := ⟨w4.heap.size, 17, none⟩) (Nat.le_of_lt HLT.out) _)
      clear hbA hkA HMA HM7 HT7 HZ7 HB7
      go_wp2_with fail
      clear fA cA
      generalize (W7.alloc (.cells #[.int .u8 y0, .int .u8 y1] 5)).setCell ⟨w4.heap.size, 17, none⟩ (.slice (some ⟨W7.heap.size, 0, none⟩) 2 2) = W8 at HM8 HT8 HZ8 HB8 ⊢
      refine (HG2.out _ HB8.out).mono ?_
      rintro e w10 ⟨y2, rfl, hy2, hy2', hwe⟩
      obtain rfl := hwe.symm
      by_cases hy200 : 200 < y2
      · have f14 := HM8.out.frz 14
        have c14 := HM8.out.cell 14 (.bool m1.holes) rfl
        have HMa := HM8.out.set 14 (.bool true) (m' := { m1 with data := [y0, y1], holes := true }) (pv' := .slice none 0 0) (dv' := (.slice (some ⟨W7.heap.size, 0, none⟩) 2 2)) rfl
        have HTa := HT8.out.set (i := 14) (v := .bool true) HM8.out
        have HZa := (Below.heap_setCell W8 ⟨w4.heap.size, 14, none⟩ (.bool true) w.heap.size (Nat.ne_of_lt HLT.out)).trans HZ8.out
        have HBa := HB8.out.setCell (p := ⟨w4.heap.size, 14, none⟩) (Nat.le_of_lt HLT.out) (.bool true)
        go_upto_region 9 with fail
        clear f14 c14
        generalize W8.setCell ⟨w4.heap.size, 14, none⟩ (.bool true) = Wa at HMa HTa HZa HBa ⊢
        clear HM8 HT8 HZ8 HB8
        have hbb : Below Wa.heap.size Wa (Wa.alloc (.cells #[.int .i64 1, .int .i64 2] 54)) := (Below.refl _ _).alloc (Nat.le_refl _) _
        have hkb := heap_alloc_new Wa (.cells #[.int .i64 1, .int .i64 2] 54)
        have HMb := HMa.below hbb
        have HTb := HTa.below hbb
        have HZb := (hbb.block w.heap.size (by have := HBa.size; have := HMa.lt; have := HLT.out; omega)).trans HZa
        have HBb := HBa.trans (hbb.mono HBa.size)
        have f15 := HMb.frz 15
        have c15 := HMb.cell 15 (.slice none 0 0) rfl
        have hne : Wa.heap.size ≠ w4.heap.size := by have := HMa.lt; omega
        generalize hWb : Wa.alloc (.cells #[.int .i64 1, .int .i64 2] 54) = Wb at hbb hkb HMb HTb HZb HBb f15 c15
        have HMc := HMb.set 15 (.slice (some ⟨Wa.heap.size, 0, none⟩) 1 1) (m' := { m1 with data := [y0, y1], holes := true }) (pv' := .slice (some ⟨Wa.heap.size, 0, none⟩) 1 1) (dv' := (.slice (some ⟨W7.heap.size, 0, none⟩) 2 2)) rfl
        have HTc := HTb.set (i := 15) (v := .slice (some ⟨Wa.heap.size, 0, none⟩) 1 1) HMb
        have hkc := (Below.heap_setCell Wb ⟨w4.heap.size, 15, none⟩ (.slice (some ⟨Wa.heap.size, 0, none⟩) 1 1) Wa.heap.size hne).trans hkb
        have HZc := (Below.heap_setCell Wb ⟨w4.heap.size, 15, none⟩ (.slice (some ⟨Wa.heap.size, 0, none⟩) 1 1) w.heap.size (Nat.ne_of_lt HLT.out)).trans HZb
        have HBc := HBb.setCell (p := ⟨w4.heap.size, 15, none⟩) (Nat.le_of_lt HLT.out) (.slice (some ⟨Wa.heap.size, 0, none⟩) 1 1)
        go_wp2_with fail
        clear f15 c15 hWb hkb hbb HMb HTb HZb HBb
        generalize Wb.setCell ⟨w4.heap.size, 15, none⟩ (.slice (some ⟨Wa.heap.size, 0, none⟩) 1 1) = Wc at HMc HTc hkc HZc HBc ⊢
        refine (HG2.out _ HBc).mono ?_
        rintro e w11 ⟨y3, rfl, hy3, hy3', hwe⟩
        obtain rfl := hwe.symm
        have f13 := HMc.frz 13
        have c13 := HMc.cell 13 (.int .i64 m1.real) rfl
        have hw3 : IntKind.i64.wrap (y3 % 8 + 1) = y3 % 8 + 1 := by rw [IntKind.wrap_i64]; omega
        have HMd := Lib.hid (HMc.set 13 (.int .i64 (y3 % 8 + 1)) (m' := { m1 with data := [y0, y1], holes := true, real := y3 % 8 + 1 }) (pv' := .slice (some ⟨Wa.heap.size, 0, none⟩) 1 1) (dv' := .slice (some ⟨W7.heap.size, 0, none⟩) 2 2) rfl)
        have HTd0 := HTc.set (i := 13) (v := .int .i64 (y3 % 8 + 1)) HMc
        have hkd := (Below.heap_setCell Wc ⟨w4.heap.size, 13, none⟩ (.int .i64 (y3 % 8 + 1)) Wa.heap.size hne).trans hkc
        have HTd := Lib.hid (show MemT (Wc.setCell ⟨w4.heap.size, 13, none⟩ (.int .i64 (y3 % 8 + 1))) { m1 with data := [y0, y1], holes := true, real := y3 % 8 + 1 } (.slice (some ⟨Wa.heap.size, 0, none⟩) 1 1) (.slice (some ⟨W7.heap.size, 0, none⟩) 2 2) from ⟨HTd0.data, .inr ⟨Wa.heap.size, rfl, hkd, rfl, by show 1 ≤ y3 % 8 + 1; omega, by show y3 % 8 + 1 ≤ 8; omega⟩⟩)
        have HZd := Lib.hid ((Below.heap_setCell Wc ⟨w4.heap.size, 13, none⟩ (.int .i64 (y3 % 8 + 1)) w.heap.size (Nat.ne_of_lt HLT.out)).trans HZc)
        have HBd := Lib.hid (HBc.setCell (p := ⟨w4.heap.size, 13, none⟩) (Nat.le_of_lt HLT.out) (.int .i64 (y3 % 8 + 1)))
        clear HTd0 hkd HMc HTc hkc HZc HBc
        go_upto_region 14 with fail
        clear f13 c13 hw3
        generalize Wc.setCell ⟨w4.heap.size, 13, none⟩ (.int .i64 (y3 % 8 + 1)) = Wd at HMd HTd HZd HBd ⊢
        apply wp_region_lit
        obtain ⟨i56, hi56, hz56⟩ := size56
        refine wpList_load_row 32 _ i56 ⟨w4.heap.size, 0, none⟩ (memCells ({ m1 with data := [y0, y1], holes := true, real := y3 % 8 + 1 }) (.slice (some ⟨Wa.heap.size, 0, none⟩) 1 1) (.slice (some ⟨W7.heap.size, 0, none⟩) 2 2)) hi56 hz56 (agg56 _) rfl (row_cells HMd.out) ?_
        refine wpList_store_at 32 _ _ i56 w.heap.size #[.string ⟨#[]⟩, .string ⟨#[]⟩, .int .u8 0, .int .i64 0, .int .i64 0, .int .i64 0, .string ⟨#[]⟩, .string ⟨#[]⟩, .int .i64 0, .int .i64 0, .int .i64 0, .int .i64 0, .int .i64 0, .int .i64 0, .bool false, .slice none 0 0, .slice none 0 0, .slice none 0 0] (memCells ({ m1 with data := [y0, y1], holes := true, real := y3 % 8 + 1 }) (.slice (some ⟨Wa.heap.size, 0, none⟩) 1 1) (.slice (some ⟨W7.heap.size, 0, none⟩) 2 2)) hi56 hz56 HZd.out rfl rfl rfl (memCells_one _ _ _ _ _ _ _) ?_
        have hrow := setRow_heap Wd w.heap.size #[.string ⟨#[]⟩, .string ⟨#[]⟩, .int .u8 0, .int .i64 0, .int .i64 0, .int .i64 0, .string ⟨#[]⟩, .string ⟨#[]⟩, .int .i64 0, .int .i64 0, .int .i64 0, .int .i64 0, .int .i64 0, .int .i64 0, .bool false, .slice none 0 0, .slice none 0 0, .slice none 0 0] (memCells ({ m1 with data := [y0, y1], holes := true, real := y3 % 8 + 1 }) (.slice (some ⟨Wa.heap.size, 0, none⟩) 1 1) (.slice (some ⟨W7.heap.size, 0, none⟩) 2 2)).toArray 32 (0, 0) HZd.out
        have hfin : MemT (Wd.setRow w.heap.size (memCells ({ m1 with data := [y0, y1], holes := true, real := y3 % 8 + 1 }) (.slice (some ⟨Wa.heap.size, 0, none⟩) 1 1) (.slice (some ⟨W7.heap.size, 0, none⟩) 2 2)).toArray) ({ m1 with data := [y0, y1], holes := true, real := y3 % 8 + 1 }) (.slice (some ⟨Wa.heap.size, 0, none⟩) 1 1) (.slice (some ⟨W7.heap.size, 0, none⟩) 2 2) := HTd.out.keeps fun g cs T hg hT => (setRow_other Wd w.heap.size g _ (fun e => by
          subst e
          have hz := HZd.out
          rw [hg] at hz
          injection hz with hz
          injection hz with _ h2 _
          exact hT h2)).trans hg
        have hbf : Below w.heap.size w (Wd.setRow w.heap.size (memCells ({ m1 with data := [y0, y1], holes := true, real := y3 % 8 + 1 }) (.slice (some ⟨Wa.heap.size, 0, none⟩) 1 1) (.slice (some ⟨W7.heap.size, 0, none⟩) 2 2)).toArray) := HBd.out.trans ⟨rfl, rfl, rfl, by simp [World.setRow], fun k hk => setRow_other _ _ k _ (by omega)⟩
        clear HG0 HG1 HG2 HRD
        go_wp2_with fail
        refine bodyPost_ret (results_cell (T := 32) (t := 4) rfl rfl i56 (memCells ({ m1 with data := [y0, y1], holes := true, real := y3 % 8 + 1 }) (.slice (some ⟨Wa.heap.size, 0, none⟩) 1 1) (.slice (some ⟨W7.heap.size, 0, none⟩) 2 2)) hi56 hz56 (agg56 _) (row_cells hrow)) rfl ⟨_, _, _, rfl, hfin, HN7.out.1, HN7.out.2, hbf⟩
      · skip
        go_upto_region 14 with fail
        apply wp_region_lit
        obtain ⟨i56, hi56, hz56⟩ := size56
        refine wpList_load_row 32 _ i56 ⟨w4.heap.size, 0, none⟩ (memCells ({ m1 with data := [y0, y1] }) (.slice none 0 0) (.slice (some ⟨W7.heap.size, 0, none⟩) 2 2)) hi56 hz56 (agg56 _) rfl (row_cells HM8.out) ?_
        refine wpList_store_at 32 _ _ i56 w.heap.size #[.string ⟨#[]⟩, .string ⟨#[]⟩, .int .u8 0, .int .i64 0, .int .i64 0, .int .i64 0, .string ⟨#[]⟩, .string ⟨#[]⟩, .int .i64 0, .int .i64 0, .int .i64 0, .int .i64 0, .int .i64 0, .int .i64 0, .bool false, .slice none 0 0, .slice none 0 0, .slice none 0 0] (memCells ({ m1 with data := [y0, y1] }) (.slice none 0 0) (.slice (some ⟨W7.heap.size, 0, none⟩) 2 2)) hi56 hz56 HZ8.out rfl rfl rfl (memCells_one _ _ _ _ _ _ _) ?_
        have hrow := setRow_heap W8 w.heap.size #[.string ⟨#[]⟩, .string ⟨#[]⟩, .int .u8 0, .int .i64 0, .int .i64 0, .int .i64 0, .string ⟨#[]⟩, .string ⟨#[]⟩, .int .i64 0, .int .i64 0, .int .i64 0, .int .i64 0, .int .i64 0, .int .i64 0, .bool false, .slice none 0 0, .slice none 0 0, .slice none 0 0] (memCells ({ m1 with data := [y0, y1] }) (.slice none 0 0) (.slice (some ⟨W7.heap.size, 0, none⟩) 2 2)).toArray 32 (0, 0) HZ8.out
        have hfin : MemT (W8.setRow w.heap.size (memCells ({ m1 with data := [y0, y1] }) (.slice none 0 0) (.slice (some ⟨W7.heap.size, 0, none⟩) 2 2)).toArray) ({ m1 with data := [y0, y1] }) (.slice none 0 0) (.slice (some ⟨W7.heap.size, 0, none⟩) 2 2) := HT8.out.keeps fun g cs T hg hT => (setRow_other W8 w.heap.size g _ (fun e => by
          subst e
          have hz := HZ8.out
          rw [hg] at hz
          injection hz with hz
          injection hz with _ h2 _
          exact hT h2)).trans hg
        have hbf : Below w.heap.size w (W8.setRow w.heap.size (memCells ({ m1 with data := [y0, y1] }) (.slice none 0 0) (.slice (some ⟨W7.heap.size, 0, none⟩) 2 2)).toArray) := HB8.out.trans ⟨rfl, rfl, rfl, by simp [World.setRow], fun k hk => setRow_other _ _ k _ (by omega)⟩
        clear HG0 HG1 HG2 HRD
        go_wp2_with fail
        refine bodyPost_ret (results_cell (T := 32) (t := 4) rfl rfl i56 (memCells ({ m1 with data := [y0, y1] }) (.slice none 0 0) (.slice (some ⟨W7.heap.size, 0, none⟩) 2 2)) hi56 hz56 (agg56 _) (row_cells hrow)) rfl ⟨_, _, _, rfl, hfin, HN7.out.1, HN7.out.2, hbf⟩

    · have k48b : (kq == 48) = false := by simpa using k48
      by_cases k49 : kq = 49 ∨ kq = 50
      · rcases k49 with rfl | rfl
        · go_wp2_with fail
          have hbl : Below W7.heap.size W7 (W7.alloc (.cells #[.string ⟨#[97]⟩, .string ⟨#[46, 46, 47, 120]⟩, .string ⟨#[98]⟩, .string ⟨#[47, 97, 98, 115]⟩, .string ⟨#[46, 46, 47, 46, 46, 47, 120]⟩, .string ⟨#[97, 47, 98, 47, 99]⟩, .string ⟨#[100]⟩, .string ⟨#[46, 47, 100, 47, 46, 46, 47, 101]⟩] 9)) := (Below.refl _ _).alloc (Nat.le_refl _) _
          have hkl := heap_alloc_new W7 (.cells #[.string ⟨#[97]⟩, .string ⟨#[46, 46, 47, 120]⟩, .string ⟨#[98]⟩, .string ⟨#[47, 97, 98, 115]⟩, .string ⟨#[46, 46, 47, 46, 46, 47, 120]⟩, .string ⟨#[97, 47, 98, 47, 99]⟩, .string ⟨#[100]⟩, .string ⟨#[46, 47, 100, 47, 46, 46, 47, 101]⟩] 9)
          have HMl := HM7.out.below hbl
          have HTl := HT7.out.below hbl
          have HZl := (hbl.block w.heap.size (by have := HLT.out; have := HM7.out.lt; omega)).trans HZ7.out
          have HBl := HB7.out.trans (hbl.mono HB7.out.size)
          refine (HG2.out _ HBl).mono ?_
          rintro e w8 ⟨y0, rfl, hy, hy', hwe⟩
          obtain rfl := hwe.symm
          generalize W7.alloc (.cells #[.string ⟨#[97]⟩, .string ⟨#[46, 46, 47, 120]⟩, .string ⟨#[98]⟩, .string ⟨#[47, 97, 98, 115]⟩, .string ⟨#[46, 46, 47, 46, 46, 47, 120]⟩, .string ⟨#[97, 47, 98, 47, 99]⟩, .string ⟨#[100]⟩, .string ⟨#[46, 47, 100, 47, 46, 46, 47, 101]⟩] 9) = Wl at hbl hkl HMl HTl HZl HBl ⊢
          obtain ⟨ln, hln, hlen⟩ := link_at y0
          have hck : Wl.cell? ⟨W7.heap.size, (y0 % 8).toNat, none⟩ = some (.string ⟨ln.toArray⟩) := by
            unfold World.cell?
            dsimp only
            rw [hkl]
            simpa using hln
          have hm8 : 0 ≤ y0 % 8 ∧ y0 % 8 < 8 := by omega
          have f1 := HMl.frz 1
          have c1 := HMl.cell 1 (.string ⟨m1.link.toArray⟩) rfl
          have HMm := Lib.hid (HMl.set 1 (.string ⟨ln.toArray⟩) (m' := { m1 with link := ln }) (pv' := .slice none 0 0) (dv' := .slice none 0 0) rfl)
          have HTm := Lib.hid (show MemT (Wl.setCell ⟨w4.heap.size, 1, none⟩ (.string ⟨ln.toArray⟩)) { m1 with link := ln } (.slice none 0 0) (.slice none 0 0) from ⟨(HTl.set (i := 1) (v := .string ⟨ln.toArray⟩) HMl).data, (HTl.set (i := 1) (v := .string ⟨ln.toArray⟩) HMl).parts⟩)
          have HZm := Lib.hid ((Below.heap_setCell Wl ⟨w4.heap.size, 1, none⟩ (.string ⟨ln.toArray⟩) w.heap.size (Nat.ne_of_lt HLT.out)).trans HZl)
          have HBm := Lib.hid (HBl.setCell (p := ⟨w4.heap.size, 1, none⟩) (Nat.le_of_lt HLT.out) (.string ⟨ln.toArray⟩))
          have HNm := Lib.hid (show ({ m1 with link := ln } : Mem).name.length ≤ 1000 ∧ ({ m1 with link := ln } : Mem).link.length ≤ 1000 from ⟨HN7.out.1, hlen⟩)
          clear hbl hkl HMl HTl HZl HBl hln c2
          go_upto_region 14 with fail
          clear f1 c1 hck
          generalize Wl.setCell ⟨w4.heap.size, 1, none⟩ (.string ⟨ln.toArray⟩) = Wm at HMm HTm HZm HBm ⊢
          apply wp_region_lit
          obtain ⟨i56, hi56, hz56⟩ := size56
          refine wpList_load_row 32 _ i56 ⟨w4.heap.size, 0, none⟩ (memCells ({ m1 with link := ln }) (.slice none 0 0) (.slice none 0 0)) hi56 hz56 (agg56 _) rfl (row_cells HMm.out) ?_
          refine wpList_store_at 32 _ _ i56 w.heap.size #[.string ⟨#[]⟩, .string ⟨#[]⟩, .int .u8 0, .int .i64 0, .int .i64 0, .int .i64 0, .string ⟨#[]⟩, .string ⟨#[]⟩, .int .i64 0, .int .i64 0, .int .i64 0, .int .i64 0, .int .i64 0, .int .i64 0, .bool false, .slice none 0 0, .slice none 0 0, .slice none 0 0] (memCells ({ m1 with link := ln }) (.slice none 0 0) (.slice none 0 0)) hi56 hz56 HZm.out rfl rfl rfl (memCells_one _ _ _ _ _ _ _) ?_
          have hrow := setRow_heap Wm w.heap.size #[.string ⟨#[]⟩, .string ⟨#[]⟩, .int .u8 0, .int .i64 0, .int .i64 0, .int .i64 0, .string ⟨#[]⟩, .string ⟨#[]⟩, .int .i64 0, .int .i64 0, .int .i64 0, .int .i64 0, .int .i64 0, .int .i64 0, .bool false, .slice none 0 0, .slice none 0 0, .slice none 0 0] (memCells ({ m1 with link := ln }) (.slice none 0 0) (.slice none 0 0)).toArray 32 (0, 0) HZm.out
          have hfin : MemT (Wm.setRow w.heap.size (memCells ({ m1 with link := ln }) (.slice none 0 0) (.slice none 0 0)).toArray) ({ m1 with link := ln }) (.slice none 0 0) (.slice none 0 0) := HTm.out.keeps fun g cs T hg hT => (setRow_other Wm w.heap.size g _ (fun e => by
            subst e
            have hz := HZm.out
            rw [hg] at hz
            injection hz with hz
            injection hz with _ h2 _
            exact hT h2)).trans hg
          have hbf : Below w.heap.size w (Wm.setRow w.heap.size (memCells ({ m1 with link := ln }) (.slice none 0 0) (.slice none 0 0)).toArray) := HBm.out.trans ⟨rfl, rfl, rfl, by simp [World.setRow], fun k hk => setRow_other _ _ k _ (by omega)⟩
          clear HG0 HG1 HG2 HRD
          go_wp2_with fail
          refine bodyPost_ret (results_cell (T := 32) (t := 4) rfl rfl i56 (memCells ({ m1 with link := ln }) (.slice none 0 0) (.slice none 0 0)) hi56 hz56 (agg56 _) (row_cells hrow)) rfl ⟨_, _, _, rfl, hfin, HNm.out.1, HNm.out.2, hbf⟩
        · go_wp2_with fail
          have hbl : Below W7.heap.size W7 (W7.alloc (.cells #[.string ⟨#[97]⟩, .string ⟨#[46, 46, 47, 120]⟩, .string ⟨#[98]⟩, .string ⟨#[47, 97, 98, 115]⟩, .string ⟨#[46, 46, 47, 46, 46, 47, 120]⟩, .string ⟨#[97, 47, 98, 47, 99]⟩, .string ⟨#[100]⟩, .string ⟨#[46, 47, 100, 47, 46, 46, 47, 101]⟩] 9)) := (Below.refl _ _).alloc (Nat.le_refl _) _
          have hkl := heap_alloc_new W7 (.cells #[.string ⟨#[97]⟩, .string ⟨#[46, 46, 47, 120]⟩, .string ⟨#[98]⟩, .string ⟨#[47, 97, 98, 115]⟩, .string ⟨#[46, 46, 47, 46, 46, 47, 120]⟩, .string ⟨#[97, 47, 98, 47, 99]⟩, .string ⟨#[100]⟩, .string ⟨#[46, 47, 100, 47, 46, 46, 47, 101]⟩] 9)
          have HMl := HM7.out.below hbl
          have HTl := HT7.out.below hbl
          have HZl := (hbl.block w.heap.size (by have := HLT.out; have := HM7.out.lt; omega)).trans HZ7.out
          have HBl := HB7.out.trans (hbl.mono HB7.out.size)
          refine (HG2.out _ HBl).mono ?_
          rintro e w8 ⟨y0, rfl, hy, hy', hwe⟩
          obtain rfl := hwe.symm
          generalize W7.alloc (.cells #[.string ⟨#[97]⟩, .string ⟨#[46, 46, 47, 120]⟩, .string ⟨#[98]⟩, .string ⟨#[47, 97, 98, 115]⟩, .string ⟨#[46, 46, 47, 46, 46, 47, 120]⟩, .string ⟨#[97, 47, 98, 47, 99]⟩, .string ⟨#[100]⟩, .string ⟨#[46, 47, 100, 47, 46, 46, 47, 101]⟩] 9) = Wl at hbl hkl HMl HTl HZl HBl ⊢
          obtain ⟨ln, hln, hlen⟩ := link_at y0
          have hck : Wl.cell? ⟨W7.heap.size, (y0 % 8).toNat, none⟩ = some (.string ⟨ln.toArray⟩) := by
            unfold World.cell?
            dsimp only
            rw [hkl]
            simpa using hln
          have hm8 : 0 ≤ y0 % 8 ∧ y0 % 8 < 8 := by omega
          have f1 := HMl.frz 1
          have c1 := HMl.cell 1 (.string ⟨m1.link.toArray⟩) rfl
          have HMm := Lib.hid (HMl.set 1 (.string ⟨ln.toArray⟩) (m' := { m1 with link := ln }) (pv' := .slice none 0 0) (dv' := .slice none 0 0) rfl)
          have HTm := Lib.hid (show MemT (Wl.setCell ⟨w4.heap.size, 1, none⟩ (.string ⟨ln.toArray⟩)) { m1 with link := ln } (.slice none 0 0) (.slice none 0 0) from ⟨(HTl.set (i := 1) (v := .string ⟨ln.toArray⟩) HMl).data, (HTl.set (i := 1) (v := .string ⟨ln.toArray⟩) HMl).parts⟩)
          have HZm := Lib.hid ((Below.heap_setCell Wl ⟨w4.heap.size, 1, none⟩ (.string ⟨ln.toArray⟩) w.heap.size (Nat.ne_of_lt HLT.out)).trans HZl)
          have HBm := Lib.hid (HBl.setCell (p := ⟨w4.heap.size, 1, none⟩) (Nat.le_of_lt HLT.out) (.string ⟨ln.toArray⟩))
          have HNm := Lib.hid (show ({ m1 with link := ln } : Mem).name.length ≤ 1000 ∧ ({ m1 with link := ln } : Mem).link.length ≤ 1000 from ⟨HN7.out.1, hlen⟩)
          clear hbl hkl HMl HTl HZl HBl hln c2
          go_upto_region 14 with fail
          clear f1 c1 hck
          generalize Wl.setCell ⟨w4.heap.size, 1, none⟩ (.string ⟨ln.toArray⟩) = Wm at HMm HTm HZm HBm ⊢
          apply wp_region_lit
          obtain ⟨i56, hi56, hz56⟩ := size56
          refine wpList_load_row 32 _ i56 ⟨w4.heap.size, 0, none⟩ (memCells ({ m1 with link := ln }) (.slice none 0 0) (.slice none 0 0)) hi56 hz56 (agg56 _) rfl (row_cells HMm.out) ?_
          refine wpList_store_at 32 _ _ i56 w.heap.size #[.string ⟨#[]⟩, .string ⟨#[]⟩, .int .u8 0, .int .i64 0, .int .i64 0, .int .i64 0, .string ⟨#[]⟩, .string ⟨#[]⟩, .int .i64 0, .int .i64 0, .int .i64 0, .int .i64 0, .int .i64 0, .int .i64 0, .bool false, .slice none 0 0, .slice none 0 0, .slice none 0 0] (memCells ({ m1 with link := ln }) (.slice none 0 0) (.slice none 0 0)) hi56 hz56 HZm.out rfl rfl rfl (memCells_one _ _ _ _ _ _ _) ?_
          have hrow := setRow_heap Wm w.heap.size #[.string ⟨#[]⟩, .string ⟨#[]⟩, .int .u8 0, .int .i64 0, .int .i64 0, .int .i64 0, .string ⟨#[]⟩, .string ⟨#[]⟩, .int .i64 0, .int .i64 0, .int .i64 0, .int .i64 0, .int .i64 0, .int .i64 0, .bool false, .slice none 0 0, .slice none 0 0, .slice none 0 0] (memCells ({ m1 with link := ln }) (.slice none 0 0) (.slice none 0 0)).toArray 32 (0, 0) HZm.out
          have hfin : MemT (Wm.setRow w.heap.size (memCells ({ m1 with link := ln }) (.slice none 0 0) (.slice none 0 0)).toArray) ({ m1 with link := ln }) (.slice none 0 0) (.slice none 0 0) := HTm.out.keeps fun g cs T hg hT => (setRow_other Wm w.heap.size g _ (fun e => by
            subst e
            have hz := HZm.out
            rw [hg] at hz
            injection hz with hz
            injection hz with _ h2 _
            exact hT h2)).trans hg
          have hbf : Below w.heap.size w (Wm.setRow w.heap.size (memCells ({ m1 with link := ln }) (.slice none 0 0) (.slice none 0 0)).toArray) := HBm.out.trans ⟨rfl, rfl, rfl, by simp [World.setRow], fun k hk => setRow_other _ _ k _ (by omega)⟩
          clear HG0 HG1 HG2 HRD
          go_wp2_with fail
          refine bodyPost_ret (results_cell (T := 32) (t := 4) rfl rfl i56 (memCells ({ m1 with link := ln }) (.slice none 0 0) (.slice none 0 0)) hi56 hz56 (agg56 _) (row_cells hrow)) rfl ⟨_, _, _, rfl, hfin, HNm.out.1, HNm.out.2, hbf⟩
      · have hk1 : (kq == 49) = false := by simp at k49; simpa using k49.1
        have hk2 : (kq == 50) = false := by simp at k49; simpa using k49.2
        go_upto_region 14 with fail
        apply wp_region_lit
        obtain ⟨i56, hi56, hz56⟩ := size56
        refine wpList_load_row 32 _ i56 ⟨w4.heap.size, 0, none⟩ (memCells (m1) (.slice none 0 0) (.slice none 0 0)) hi56 hz56 (agg56 _) rfl (row_cells HM7.out) ?_
        refine wpList_store_at 32 _ _ i56 w.heap.size #[.string ⟨#[]⟩, .string ⟨#[]⟩, .int .u8 0, .int .i64 0, .int .i64 0, .int .i64 0, .string ⟨#[]⟩, .string ⟨#[]⟩, .int .i64 0, .int .i64 0, .int .i64 0, .int .i64 0, .int .i64 0, .int .i64 0, .bool false, .slice none 0 0, .slice none 0 0, .slice none 0 0] (memCells (m1) (.slice none 0 0) (.slice none 0 0)) hi56 hz56 HZ7.out rfl rfl rfl (memCells_one _ _ _ _ _ _ _) ?_
        have hrow := setRow_heap W7 w.heap.size #[.string ⟨#[]⟩, .string ⟨#[]⟩, .int .u8 0, .int .i64 0, .int .i64 0, .int .i64 0, .string ⟨#[]⟩, .string ⟨#[]⟩, .int .i64 0, .int .i64 0, .int .i64 0, .int .i64 0, .int .i64 0, .int .i64 0, .bool false, .slice none 0 0, .slice none 0 0, .slice none 0 0] (memCells (m1) (.slice none 0 0) (.slice none 0 0)).toArray 32 (0, 0) HZ7.out
        have hfin : MemT (W7.setRow w.heap.size (memCells (m1) (.slice none 0 0) (.slice none 0 0)).toArray) (m1) (.slice none 0 0) (.slice none 0 0) := HT7.out.keeps fun g cs T hg hT => (setRow_other W7 w.heap.size g _ (fun e => by
          subst e
          have hz := HZ7.out
          rw [hg] at hz
          injection hz with hz
          injection hz with _ h2 _
          exact hT h2)).trans hg
        have hbf : Below w.heap.size w (W7.setRow w.heap.size (memCells (m1) (.slice none 0 0) (.slice none 0 0)).toArray) := HB7.out.trans ⟨rfl, rfl, rfl, by simp [World.setRow], fun k hk => setRow_other _ _ k _ (by omega)⟩
        clear HG0 HG1 HG2 HRD
        go_wp2_with fail
        refine bodyPost_ret (results_cell (T := 32) (t := 4) rfl rfl i56 (memCells (m1) (.slice none 0 0) (.slice none 0 0)) hi56 hz56 (agg56 _) (row_cells hrow)) rfl ⟨_, _, _, rfl, hfin, HN7.out.1, HN7.out.2, hbf⟩
  · have HM7 := HM5
    have HT7 := HT5
    have HZ7 := HZ5
    have HB7 := HB5
    have HN7 := HN5
    have HHO := HHO5
    generalize (⟨nm, [], kd, 0, false, []⟩ : Mem) = m1 at HM7 HT7 HN7 HHO
    clear HM5 HT5 HZ5 HB5 HN5
    generalize hW7 : W5 = W7 at *
    clear hW7
    have c2 := HM7.out.cell 2 (.int .u8 m1.kind) rfl
    have HH7 := Lib.hid (show m1.holes = false from HHO.out)
    generalize hkq : m1.kind = kq at c2
    clear hkq
    by_cases k48 : kq = 48
    · subst k48
      go_wp2_with fail
      clear c2
      refine (HG1.out _ HB7.out).mono ?_
      rintro e w8 ⟨y0, rfl, _, _, hwe⟩
      obtain rfl := hwe.symm
      go_wp2_with fail
      refine (HG2.out _ HB7.out).mono ?_
      rintro e w9 ⟨y1, rfl, _, _, hwe⟩
      obtain rfl := hwe.symm
      have hbA : Below W7.heap.size W7 (W7.alloc (.cells #[.int .u8 y0, .int .u8 y1] 5)) := (Below.refl _ _).alloc (Nat.le_refl _) _
      have hkA := heap_alloc_new W7 (.cells #[.int .u8 y0, .int .u8 y1] 5)
      have HMA := HM7.out.below hbA
      have fA := HMA.frz 17
      have cA := HMA.cell 17 (.slice none 0 0) rfl
      have HM8 := Lib.hid (HMA.set 17 (.slice (some ⟨W7.heap.size, 0, none⟩) 2 2) (m' := { m1 with data := [y0, y1] }) (pv' := .slice none 0 0) (dv' := .slice (some ⟨W7.heap.size, 0, none⟩) 2 2) rfl)
      have HT8 := Lib.hid (MemT.set (i := 17) (v := .slice (some ⟨W7.heap.size, 0, none⟩) 2 2) (show MemT (W7.alloc (.cells #[.int .u8 y0, .int .u8 y1] 5)) { m1 with data := [y0, y1] } (.slice none 0 0) (.slice (some ⟨W7.heap.size, 0, none⟩) 2 2) from ⟨.inr ⟨_, y0, y1, rfl, rfl, hkA⟩, .inl ⟨rfl, HH7.out⟩⟩) HMA)
      have HZ8 := Lib.hid (show ((W7.alloc (.cells #[.int .u8 y0, .int .u8 y1] 5)).setCell ⟨w4.heap.size, 17, none⟩ (.slice (some ⟨W7.heap.size, 0, none⟩) 2 2)).heap[w.heap.size]? = some (.cells #[.string ⟨#[]⟩, .string ⟨#[]⟩, .int .u8 0, .int .i64 0, .int .i64 0, .int .i64 0, .string ⟨#[]⟩, .string ⟨#[]⟩, .int .i64 0, .int .i64 0, .int .i64 0, .int .i64 0, .int .i64 0, .int .i64 0, .bool false, .slice none 0 0, .slice none 0 0, .slice none 0 0] 32 (0, 0)) from (Below.heap_setCell _ ⟨w4.heap.size, 17, none⟩ _ w.heap.size (Nat.ne_of_lt HLT.out)).trans ((hbA.block _ (by have := HLT.out; have := HM7.out.lt; omega)).trans HZ7.out))
      have HB8 := Lib.hid (show Below w.heap.size w ((W7.alloc (.cells #[.int .u8 y0, .int .u8 y1] 5)).setCell ⟨w4.heap.size, 17, none⟩ (.slice (some ⟨W7.heap.size, 0, none⟩) 2 2)) from (HB7.out.trans (hbA.mono HB7.out.size)).setCell (p := ⟨w4.heap.size, 17, none⟩) (Nat.le_of_lt HLT.out) _)
      clear hbA hkA HMA HM7 HT7 HZ7 HB7
      go_wp2_with fail
      clear fA cA
      generalize (W7.alloc (.cells #[.int .u8 y0, .int .u8 y1] 5)).setCell ⟨w4.heap.size, 17, none⟩ (.slice (some ⟨W7.heap.size, 0, none⟩) 2 2) = W8 at HM8 HT8 HZ8 HB8 ⊢
      refine (HG2.out _ HB8.out).mono ?_
      rintro e w10 ⟨y2, rfl, hy2, hy2', hwe⟩
      obtain rfl := hwe.symm
      by_cases hy200 : 200 < y2
      · have f14 := HM8.out.frz 14
        have c14 := HM8.out.cell 14 (.bool m1.holes) rfl
        have HMa := HM8.out.set 14 (.bool true) (m' := { m1 with data := [y0, y1], holes := true }) (pv' := .slice none 0 0) (dv' := (.slice (some ⟨W7.heap.size, 0, none⟩) 2 2)) rfl
        have HTa := HT8.out.set (i := 14) (v := .bool true) HM8.out
        have HZa := (Below.heap_setCell W8 ⟨w4.heap.size, 14, none⟩ (.bool true) w.heap.size (Nat.ne_of_lt HLT.out)).trans HZ8.out
        have HBa := HB8.out.setCell (p := ⟨w4.heap.size, 14, none⟩) (Nat.le_of_lt HLT.out) (.bool true)
        go_upto_region 9 with fail
        clear f14 c14
        generalize W8.setCell ⟨w4.heap.size, 14, none⟩ (.bool true) = Wa at HMa HTa HZa HBa ⊢
        clear HM8 HT8 HZ8 HB8
        have hbb : Below Wa.heap.size Wa (Wa.alloc (.cells #[.int .i64 1, .int .i64 2] 54)) := (Below.refl _ _).alloc (Nat.le_refl _) _
        have hkb := heap_alloc_new Wa (.cells #[.int .i64 1, .int .i64 2] 54)
        have HMb := HMa.below hbb
        have HTb := HTa.below hbb
        have HZb := (hbb.block w.heap.size (by have := HBa.size; have := HMa.lt; have := HLT.out; omega)).trans HZa
        have HBb := HBa.trans (hbb.mono HBa.size)
        have f15 := HMb.frz 15
        have c15 := HMb.cell 15 (.slice none 0 0) rfl
        have hne : Wa.heap.size ≠ w4.heap.size := by have := HMa.lt; omega
        generalize hWb : Wa.alloc (.cells #[.int .i64 1, .int .i64 2] 54) = Wb at hbb hkb HMb HTb HZb HBb f15 c15
        have HMc := HMb.set 15 (.slice (some ⟨Wa.heap.size, 0, none⟩) 1 1) (m' := { m1 with data := [y0, y1], holes := true }) (pv' := .slice (some ⟨Wa.heap.size, 0, none⟩) 1 1) (dv' := (.slice (some ⟨W7.heap.size, 0, none⟩) 2 2)) rfl
        have HTc := HTb.set (i := 15) (v := .slice (some ⟨Wa.heap.size, 0, none⟩) 1 1) HMb
        have hkc := (Below.heap_setCell Wb ⟨w4.heap.size, 15, none⟩ (.slice (some ⟨Wa.heap.size, 0, none⟩) 1 1) Wa.heap.size hne).trans hkb
        have HZc := (Below.heap_setCell Wb ⟨w4.heap.size, 15, none⟩ (.slice (some ⟨Wa.heap.size, 0, none⟩) 1 1) w.heap.size (Nat.ne_of_lt HLT.out)).trans HZb
        have HBc := HBb.setCell (p := ⟨w4.heap.size, 15, none⟩) (Nat.le_of_lt HLT.out) (.slice (some ⟨Wa.heap.size, 0, none⟩) 1 1)
        go_wp2_with fail
        clear f15 c15 hWb hkb hbb HMb HTb HZb HBb
        generalize Wb.setCell ⟨w4.heap.size, 15, none⟩ (.slice (some ⟨Wa.heap.size, 0, none⟩) 1 1) = Wc at HMc HTc hkc HZc HBc ⊢
        refine (HG2.out _ HBc).mono ?_
        rintro e w11 ⟨y3, rfl, hy3, hy3', hwe⟩
        obtain rfl := hwe.symm
        have f13 := HMc.frz 13
        have c13 := HMc.cell 13 (.int .i64 m1.real) rfl
        have hw3 : IntKind.i64.wrap (y3 % 8 + 1) = y3 % 8 + 1 := by rw [IntKind.wrap_i64]; omega
        have HMd := Lib.hid (HMc.set 13 (.int .i64 (y3 % 8 + 1)) (m' := { m1 with data := [y0, y1], holes := true, real := y3 % 8 + 1 }) (pv' := .slice (some ⟨Wa.heap.size, 0, none⟩) 1 1) (dv' := .slice (some ⟨W7.heap.size, 0, none⟩) 2 2) rfl)
        have HTd0 := HTc.set (i := 13) (v := .int .i64 (y3 % 8 + 1)) HMc
        have hkd := (Below.heap_setCell Wc ⟨w4.heap.size, 13, none⟩ (.int .i64 (y3 % 8 + 1)) Wa.heap.size hne).trans hkc
        have HTd := Lib.hid (show MemT (Wc.setCell ⟨w4.heap.size, 13, none⟩ (.int .i64 (y3 % 8 + 1))) { m1 with data := [y0, y1], holes := true, real := y3 % 8 + 1 } (.slice (some ⟨Wa.heap.size, 0, none⟩) 1 1) (.slice (some ⟨W7.heap.size, 0, none⟩) 2 2) from ⟨HTd0.data, .inr ⟨Wa.heap.size, rfl, hkd, rfl, by show 1 ≤ y3 % 8 + 1; omega, by show y3 % 8 + 1 ≤ 8; omega⟩⟩)
        have HZd := Lib.hid ((Below.heap_setCell Wc ⟨w4.heap.size, 13, none⟩ (.int .i64 (y3 % 8 + 1)) w.heap.size (Nat.ne_of_lt HLT.out)).trans HZc)
        have HBd := Lib.hid (HBc.setCell (p := ⟨w4.heap.size, 13, none⟩) (Nat.le_of_lt HLT.out) (.int .i64 (y3 % 8 + 1)))
        clear HTd0 hkd HMc HTc hkc HZc HBc
        go_upto_region 14 with fail
        clear f13 c13 hw3
        generalize Wc.setCell ⟨w4.heap.size, 13, none⟩ (.int .i64 (y3 % 8 + 1)) = Wd at HMd HTd HZd HBd ⊢
        apply wp_region_lit
        obtain ⟨i56, hi56, hz56⟩ := size56
        refine wpList_load_row 32 _ i56 ⟨w4.heap.size, 0, none⟩ (memCells ({ m1 with data := [y0, y1], holes := true, real := y3 % 8 + 1 }) (.slice (some ⟨Wa.heap.size, 0, none⟩) 1 1) (.slice (some ⟨W7.heap.size, 0, none⟩) 2 2)) hi56 hz56 (agg56 _) rfl (row_cells HMd.out) ?_
        refine wpList_store_at 32 _ _ i56 w.heap.size #[.string ⟨#[]⟩, .string ⟨#[]⟩, .int .u8 0, .int .i64 0, .int .i64 0, .int .i64 0, .string ⟨#[]⟩, .string ⟨#[]⟩, .int .i64 0, .int .i64 0, .int .i64 0, .int .i64 0, .int .i64 0, .int .i64 0, .bool false, .slice none 0 0, .slice none 0 0, .slice none 0 0] (memCells ({ m1 with data := [y0, y1], holes := true, real := y3 % 8 + 1 }) (.slice (some ⟨Wa.heap.size, 0, none⟩) 1 1) (.slice (some ⟨W7.heap.size, 0, none⟩) 2 2)) hi56 hz56 HZd.out rfl rfl rfl (memCells_one _ _ _ _ _ _ _) ?_
        have hrow := setRow_heap Wd w.heap.size #[.string ⟨#[]⟩, .string ⟨#[]⟩, .int .u8 0, .int .i64 0, .int .i64 0, .int .i64 0, .string ⟨#[]⟩, .string ⟨#[]⟩, .int .i64 0, .int .i64 0, .int .i64 0, .int .i64 0, .int .i64 0, .int .i64 0, .bool false, .slice none 0 0, .slice none 0 0, .slice none 0 0] (memCells ({ m1 with data := [y0, y1], holes := true, real := y3 % 8 + 1 }) (.slice (some ⟨Wa.heap.size, 0, none⟩) 1 1) (.slice (some ⟨W7.heap.size, 0, none⟩) 2 2)).toArray 32 (0, 0) HZd.out
        have hfin : MemT (Wd.setRow w.heap.size (memCells ({ m1 with data := [y0, y1], holes := true, real := y3 % 8 + 1 }) (.slice (some ⟨Wa.heap.size, 0, none⟩) 1 1) (.slice (some ⟨W7.heap.size, 0, none⟩) 2 2)).toArray) ({ m1 with data := [y0, y1], holes := true, real := y3 % 8 + 1 }) (.slice (some ⟨Wa.heap.size, 0, none⟩) 1 1) (.slice (some ⟨W7.heap.size, 0, none⟩) 2 2) := HTd.out.keeps fun g cs T hg hT => (setRow_other Wd w.heap.size g _ (fun e => by
          subst e
          have hz := HZd.out
          rw [hg] at hz
          injection hz with hz
          injection hz with _ h2 _
          exact hT h2)).trans hg
        have hbf : Below w.heap.size w (Wd.setRow w.heap.size (memCells ({ m1 with data := [y0, y1], holes := true, real := y3 % 8 + 1 }) (.slice (some ⟨Wa.heap.size, 0, none⟩) 1 1) (.slice (some ⟨W7.heap.size, 0, none⟩) 2 2)).toArray) := HBd.out.trans ⟨rfl, rfl, rfl, by simp [World.setRow], fun k hk => setRow_other _ _ k _ (by omega)⟩
        clear HG0 HG1 HG2 HRD
        go_wp2_with fail
        refine bodyPost_ret (results_cell (T := 32) (t := 4) rfl rfl i56 (memCells ({ m1 with data := [y0, y1], holes := true, real := y3 % 8 + 1 }) (.slice (some ⟨Wa.heap.size, 0, none⟩) 1 1) (.slice (some ⟨W7.heap.size, 0, none⟩) 2 2)) hi56 hz56 (agg56 _) (row_cells hrow)) rfl ⟨_, _, _, rfl, hfin, HN7.out.1, HN7.out.2, hbf⟩
      · skip
        go_upto_region 14 with fail
        apply wp_region_lit
        obtain ⟨i56, hi56, hz56⟩ := size56
        refine wpList_load_row 32 _ i56 ⟨w4.heap.size, 0, none⟩ (memCells ({ m1 with data := [y0, y1] }) (.slice none 0 0) (.slice (some ⟨W7.heap.size, 0, none⟩) 2 2)) hi56 hz56 (agg56 _) rfl (row_cells HM8.out) ?_
        refine wpList_store_at 32 _ _ i56 w.heap.size #[.string ⟨#[]⟩, .string ⟨#[]⟩, .int .u8 0, .int .i64 0, .int .i64 0, .int .i64 0, .string ⟨#[]⟩, .string ⟨#[]⟩, .int .i64 0, .int .i64 0, .int .i64 0, .int .i64 0, .int .i64 0, .int .i64 0, .bool false, .slice none 0 0, .slice none 0 0, .slice none 0 0] (memCells ({ m1 with data := [y0, y1] }) (.slice none 0 0) (.slice (some ⟨W7.heap.size, 0, none⟩) 2 2)) hi56 hz56 HZ8.out rfl rfl rfl (memCells_one _ _ _ _ _ _ _) ?_
        have hrow := setRow_heap W8 w.heap.size #[.string ⟨#[]⟩, .string ⟨#[]⟩, .int .u8 0, .int .i64 0, .int .i64 0, .int .i64 0, .string ⟨#[]⟩, .string ⟨#[]⟩, .int .i64 0, .int .i64 0, .int .i64 0, .int .i64 0, .int .i64 0, .int .i64 0, .bool false, .slice none 0 0, .slice none 0 0, .slice none 0 0] (memCells ({ m1 with data := [y0, y1] }) (.slice none 0 0) (.slice (some ⟨W7.heap.size, 0, none⟩) 2 2)).toArray 32 (0, 0) HZ8.out
        have hfin : MemT (W8.setRow w.heap.size (memCells ({ m1 with data := [y0, y1] }) (.slice none 0 0) (.slice (some ⟨W7.heap.size, 0, none⟩) 2 2)).toArray) ({ m1 with data := [y0, y1] }) (.slice none 0 0) (.slice (some ⟨W7.heap.size, 0, none⟩) 2 2) := HT8.out.keeps fun g cs T hg hT => (setRow_other W8 w.heap.size g _ (fun e => by
          subst e
          have hz := HZ8.out
          rw [hg] at hz
          injection hz with hz
          injection hz with _ h2 _
          exact hT h2)).trans hg
        have hbf : Below w.heap.size w (W8.setRow w.heap.size (memCells ({ m1 with data := [y0, y1] }) (.slice none 0 0) (.slice (some ⟨W7.heap.size, 0, none⟩) 2 2)).toArray) := HB8.out.trans ⟨rfl, rfl, rfl, by simp [World.setRow], fun k hk => setRow_other _ _ k _ (by omega)⟩
        clear HG0 HG1 HG2 HRD
        go_wp2_with fail
        refine bodyPost_ret (results_cell (T := 32) (t := 4) rfl rfl i56 (memCells ({ m1 with data := [y0, y1] }) (.slice none 0 0) (.slice (some ⟨W7.heap.size, 0, none⟩) 2 2)) hi56 hz56 (agg56 _) (row_cells hrow)) rfl ⟨_, _, _, rfl, hfin, HN7.out.1, HN7.out.2, hbf⟩

    · have k48b : (kq == 48) = false := by simpa using k48
      by_cases k49 : kq = 49 ∨ kq = 50
      · rcases k49 with rfl | rfl
        · go_wp2_with fail
          have hbl : Below W7.heap.size W7 (W7.alloc (.cells #[.string ⟨#[97]⟩, .string ⟨#[46, 46, 47, 120]⟩, .string ⟨#[98]⟩, .string ⟨#[47, 97, 98, 115]⟩, .string ⟨#[46, 46, 47, 46, 46, 47, 120]⟩, .string ⟨#[97, 47, 98, 47, 99]⟩, .string ⟨#[100]⟩, .string ⟨#[46, 47, 100, 47, 46, 46, 47, 101]⟩] 9)) := (Below.refl _ _).alloc (Nat.le_refl _) _
          have hkl := heap_alloc_new W7 (.cells #[.string ⟨#[97]⟩, .string ⟨#[46, 46, 47, 120]⟩, .string ⟨#[98]⟩, .string ⟨#[47, 97, 98, 115]⟩, .string ⟨#[46, 46, 47, 46, 46, 47, 120]⟩, .string ⟨#[97, 47, 98, 47, 99]⟩, .string ⟨#[100]⟩, .string ⟨#[46, 47, 100, 47, 46, 46, 47, 101]⟩] 9)
          have HMl := HM7.out.below hbl
          have HTl := HT7.out.below hbl
          have HZl := (hbl.block w.heap.size (by have := HLT.out; have := HM7.out.lt; omega)).trans HZ7.out
          have HBl := HB7.out.trans (hbl.mono HB7.out.size)
          refine (HG2.out _ HBl).mono ?_
          rintro e w8 ⟨y0, rfl, hy, hy', hwe⟩
          obtain rfl := hwe.symm
          generalize W7.alloc (.cells #[.string ⟨#[97]⟩, .string ⟨#[46, 46, 47, 120]⟩, .string ⟨#[98]⟩, .string ⟨#[47, 97, 98, 115]⟩, .string ⟨#[46, 46, 47, 46, 46, 47, 120]⟩, .string ⟨#[97, 47, 98, 47, 99]⟩, .string ⟨#[100]⟩, .string ⟨#[46, 47, 100, 47, 46, 46, 47, 101]⟩] 9) = Wl at hbl hkl HMl HTl HZl HBl ⊢
          obtain ⟨ln, hln, hlen⟩ := link_at y0
          have hck : Wl.cell? ⟨W7.heap.size, (y0 % 8).toNat, none⟩ = some (.string ⟨ln.toArray⟩) := by
            unfold World.cell?
            dsimp only
            rw [hkl]
            simpa using hln
          have hm8 : 0 ≤ y0 % 8 ∧ y0 % 8 < 8 := by omega
          have f1 := HMl.frz 1
          have c1 := HMl.cell 1 (.string ⟨m1.link.toArray⟩) rfl
          have HMm := Lib.hid (HMl.set 1 (.string ⟨ln.toArray⟩) (m' := { m1 with link := ln }) (pv' := .slice none 0 0) (dv' := .slice none 0 0) rfl)
          have HTm := Lib.hid (show MemT (Wl.setCell ⟨w4.heap.size, 1, none⟩ (.string ⟨ln.toArray⟩)) { m1 with link := ln } (.slice none 0 0) (.slice none 0 0) from ⟨(HTl.set (i := 1) (v := .string ⟨ln.toArray⟩) HMl).data, (HTl.set (i := 1) (v := .string ⟨ln.toArray⟩) HMl).parts⟩)
          have HZm := Lib.hid ((Below.heap_setCell Wl ⟨w4.heap.size, 1, none⟩ (.string ⟨ln.toArray⟩) w.heap.size (Nat.ne_of_lt HLT.out)).trans HZl)
          have HBm := Lib.hid (HBl.setCell (p := ⟨w4.heap.size, 1, none⟩) (Nat.le_of_lt HLT.out) (.string ⟨ln.toArray⟩))
          have HNm := Lib.hid (show ({ m1 with link := ln } : Mem).name.length ≤ 1000 ∧ ({ m1 with link := ln } : Mem).link.length ≤ 1000 from ⟨HN7.out.1, hlen⟩)
          clear hbl hkl HMl HTl HZl HBl hln c2
          go_upto_region 14 with fail
          clear f1 c1 hck
          generalize Wl.setCell ⟨w4.heap.size, 1, none⟩ (.string ⟨ln.toArray⟩) = Wm at HMm HTm HZm HBm ⊢
          apply wp_region_lit
          obtain ⟨i56, hi56, hz56⟩ := size56
          refine wpList_load_row 32 _ i56 ⟨w4.heap.size, 0, none⟩ (memCells ({ m1 with link := ln }) (.slice none 0 0) (.slice none 0 0)) hi56 hz56 (agg56 _) rfl (row_cells HMm.out) ?_
          refine wpList_store_at 32 _ _ i56 w.heap.size #[.string ⟨#[]⟩, .string ⟨#[]⟩, .int .u8 0, .int .i64 0, .int .i64 0, .int .i64 0, .string ⟨#[]⟩, .string ⟨#[]⟩, .int .i64 0, .int .i64 0, .int .i64 0, .int .i64 0, .int .i64 0, .int .i64 0, .bool false, .slice none 0 0, .slice none 0 0, .slice none 0 0] (memCells ({ m1 with link := ln }) (.slice none 0 0) (.slice none 0 0)) hi56 hz56 HZm.out rfl rfl rfl (memCells_one _ _ _ _ _ _ _) ?_
          have hrow := setRow_heap Wm w.heap.size #[.string ⟨#[]⟩, .string ⟨#[]⟩, .int .u8 0, .int .i64 0, .int .i64 0, .int .i64 0, .string ⟨#[]⟩, .string ⟨#[]⟩, .int .i64 0, .int .i64 0, .int .i64 0, .int .i64 0, .int .i64 0, .int .i64 0, .bool false, .slice none 0 0, .slice none 0 0, .slice none 0 0] (memCells ({ m1 with link := ln }) (.slice none 0 0) (.slice none 0 0)).toArray 32 (0, 0) HZm.out
          have hfin : MemT (Wm.setRow w.heap.size (memCells ({ m1 with link := ln }) (.slice none 0 0) (.slice none 0 0)).toArray) ({ m1 with link := ln }) (.slice none 0 0) (.slice none 0 0) := HTm.out.keeps fun g cs T hg hT => (setRow_other Wm w.heap.size g _ (fun e => by
            subst e
            have hz := HZm.out
            rw [hg] at hz
            injection hz with hz
            injection hz with _ h2 _
            exact hT h2)).trans hg
          have hbf : Below w.heap.size w (Wm.setRow w.heap.size (memCells ({ m1 with link := ln }) (.slice none 0 0) (.slice none 0 0)).toArray) := HBm.out.trans ⟨rfl, rfl, rfl, by simp [World.setRow], fun k hk => setRow_other _ _ k _ (by omega)⟩
          clear HG0 HG1 HG2 HRD
          go_wp2_with fail
          refine bodyPost_ret (results_cell (T := 32) (t := 4) rfl rfl i56 (memCells ({ m1 with link := ln }) (.slice none 0 0) (.slice none 0 0)) hi56 hz56 (agg56 _) (row_cells hrow)) rfl ⟨_, _, _, rfl, hfin, HNm.out.1, HNm.out.2, hbf⟩
        · go_wp2_with fail
          have hbl : Below W7.heap.size W7 (W7.alloc (.cells #[.string ⟨#[97]⟩, .string ⟨#[46, 46, 47, 120]⟩, .string ⟨#[98]⟩, .string ⟨#[47, 97, 98, 115]⟩, .string ⟨#[46, 46, 47, 46, 46, 47, 120]⟩, .string ⟨#[97, 47, 98, 47, 99]⟩, .string ⟨#[100]⟩, .string ⟨#[46, 47, 100, 47, 46, 46, 47, 101]⟩] 9)) := (Below.refl _ _).alloc (Nat.le_refl _) _
          have hkl := heap_alloc_new W7 (.cells #[.string ⟨#[97]⟩, .string ⟨#[46, 46, 47, 120]⟩, .string ⟨#[98]⟩, .string ⟨#[47, 97, 98, 115]⟩, .string ⟨#[46, 46, 47, 46, 46, 47, 120]⟩, .string ⟨#[97, 47, 98, 47, 99]⟩, .string ⟨#[100]⟩, .string ⟨#[46, 47, 100, 47, 46, 46, 47, 101]⟩] 9)
          have HMl := HM7.out.below hbl
          have HTl := HT7.out.below hbl
          have HZl := (hbl.block w.heap.size (by have := HLT.out; have := HM7.out.lt; omega)).trans HZ7.out
          have HBl := HB7.out.trans (hbl.mono HB7.out.size)
          refine (HG2.out _ HBl).mono ?_
          rintro e w8 ⟨y0, rfl, hy, hy', hwe⟩
          obtain rfl := hwe.symm
          generalize W7.alloc (.cells #[.string ⟨#[97]⟩, .string ⟨#[46, 46, 47, 120]⟩, .string ⟨#[98]⟩, .string ⟨#[47, 97, 98, 115]⟩, .string ⟨#[46, 46, 47, 46, 46, 47, 120]⟩, .string ⟨#[97, 47, 98, 47, 99]⟩, .string ⟨#[100]⟩, .string ⟨#[46, 47, 100, 47, 46, 46, 47, 101]⟩] 9) = Wl at hbl hkl HMl HTl HZl HBl ⊢
          obtain ⟨ln, hln, hlen⟩ := link_at y0
          have hck : Wl.cell? ⟨W7.heap.size, (y0 % 8).toNat, none⟩ = some (.string ⟨ln.toArray⟩) := by
            unfold World.cell?
            dsimp only
            rw [hkl]
            simpa using hln
          have hm8 : 0 ≤ y0 % 8 ∧ y0 % 8 < 8 := by omega
          have f1 := HMl.frz 1
          have c1 := HMl.cell 1 (.string ⟨m1.link.toArray⟩) rfl
          have HMm := Lib.hid (HMl.set 1 (.string ⟨ln.toArray⟩) (m' := { m1 with link := ln }) (pv' := .slice none 0 0) (dv' := .slice none 0 0) rfl)
          have HTm := Lib.hid (show MemT (Wl.setCell ⟨w4.heap.size, 1, none⟩ (.string ⟨ln.toArray⟩)) { m1 with link := ln } (.slice none 0 0) (.slice none 0 0) from ⟨(HTl.set (i := 1) (v := .string ⟨ln.toArray⟩) HMl).data, (HTl.set (i := 1) (v := .string ⟨ln.toArray⟩) HMl).parts⟩)
          have HZm := Lib.hid ((Below.heap_setCell Wl ⟨w4.heap.size, 1, none⟩ (.string ⟨ln.toArray⟩) w.heap.size (Nat.ne_of_lt HLT.out)).trans HZl)
          have HBm := Lib.hid (HBl.setCell (p := ⟨w4.heap.size, 1, none⟩) (Nat.le_of_lt HLT.out) (.string ⟨ln.toArray⟩))
          have HNm := Lib.hid (show ({ m1 with link := ln } : Mem).name.length ≤ 1000 ∧ ({ m1 with link := ln } : Mem).link.length ≤ 1000 from ⟨HN7.out.1, hlen⟩)
          clear hbl hkl HMl HTl HZl HBl hln c2
          go_upto_region 14 with fail
          clear f1 c1 hck
          generalize Wl.setCell ⟨w4.heap.size, 1, none⟩ (.string ⟨ln.toArray⟩) = Wm at HMm HTm HZm HBm ⊢
          apply wp_region_lit
          obtain ⟨i56, hi56, hz56⟩ := size56
          refine wpList_load_row 32 _ i56 ⟨w4.heap.size, 0, none⟩ (memCells ({ m1 with link := ln }) (.slice none 0 0) (.slice none 0 0)) hi56 hz56 (agg56 _) rfl (row_cells HMm.out) ?_
          refine wpList_store_at 32 _ _ i56 w.heap.size #[.string ⟨#[]⟩, .string ⟨#[]⟩, .int .u8 0, .int .i64 0, .int .i64 0, .int .i64 0, .string ⟨#[]⟩, .string ⟨#[]⟩, .int .i64 0, .int .i64 0, .int .i64 0, .int .i64 0, .int .i64 0, .int .i64 0, .bool false, .slice none 0 0, .slice none 0 0, .slice none 0 0] (memCells ({ m1 with link := ln }) (.slice none 0 0) (.slice none 0 0)) hi56 hz56 HZm.out rfl rfl rfl (memCells_one _ _ _ _ _ _ _) ?_
          have hrow := setRow_heap Wm w.heap.size #[.string ⟨#[]⟩, .string ⟨#[]⟩, .int .u8 0, .int .i64 0, .int .i64 0, .int .i64 0, .string ⟨#[]⟩, .string ⟨#[]⟩, .int .i64 0, .int .i64 0, .int .i64 0, .int .i64 0, .int .i64 0, .int .i64 0, .bool false, .slice none 0 0, .slice none 0 0, .slice none 0 0] (memCells ({ m1 with link := ln }) (.slice none 0 0) (.slice none 0 0)).toArray 32 (0, 0) HZm.out
          have hfin : MemT (Wm.setRow w.heap.size (memCells ({ m1 with link := ln }) (.slice none 0 0) (.slice none 0 0)).toArray) ({ m1 with link := ln }) (.slice none 0 0) (.slice none 0 0) := HTm.out.keeps fun g cs T hg hT => (setRow_other Wm w.heap.size g _ (fun e => by
            subst e
            have hz := HZm.out
            rw [hg] at hz
            injection hz with hz
            injection hz with _ h2 _
            exact hT h2)).trans hg
          have hbf : Below w.heap.size w (Wm.setRow w.heap.size (memCells ({ m1 with link := ln }) (.slice none 0 0) (.slice none 0 0)).toArray) := HBm.out.trans ⟨rfl, rfl, rfl, by simp [World.setRow], fun k hk => setRow_other _ _ k _ (by omega)⟩
          clear HG0 HG1 HG2 HRD
          go_wp2_with fail
          refine bodyPost_ret (results_cell (T := 32) (t := 4) rfl rfl i56 (memCells ({ m1 with link := ln }) (.slice none 0 0) (.slice none 0 0)) hi56 hz56 (agg56 _) (row_cells hrow)) rfl ⟨_, _, _, rfl, hfin, HNm.out.1, HNm.out.2, hbf⟩
      · have hk1 : (kq == 49) = false := by simp at k49; simpa using k49.1
        have hk2 : (kq == 50) = false := by simp at k49; simpa using k49.2
        go_upto_region 14 with fail
        apply wp_region_lit
        obtain ⟨i56, hi56, hz56⟩ := size56
        refine wpList_load_row 32 _ i56 ⟨w4.heap.size, 0, none⟩ (memCells (m1) (.slice none 0 0) (.slice none 0 0)) hi56 hz56 (agg56 _) rfl (row_cells HM7.out) ?_
        refine wpList_store_at 32 _ _ i56 w.heap.size #[.string ⟨#[]⟩, .string ⟨#[]⟩, .int .u8 0, .int .i64 0, .int .i64 0, .int .i64 0, .string ⟨#[]⟩, .string ⟨#[]⟩, .int .i64 0, .int .i64 0, .int .i64 0, .int .i64 0, .int .i64 0, .int .i64 0, .bool false, .slice none 0 0, .slice none 0 0, .slice none 0 0] (memCells (m1) (.slice none 0 0) (.slice none 0 0)) hi56 hz56 HZ7.out rfl rfl rfl (memCells_one _ _ _ _ _ _ _) ?_
        have hrow := setRow_heap W7 w.heap.size #[.string ⟨#[]⟩, .string ⟨#[]⟩, .int .u8 0, .int .i64 0, .int .i64 0, .int .i64 0, .string ⟨#[]⟩, .string ⟨#[]⟩, .int .i64 0, .int .i64 0, .int .i64 0, .int .i64 0, .int .i64 0, .int .i64 0, .bool false, .slice none 0 0, .slice none 0 0, .slice none 0 0] (memCells (m1) (.slice none 0 0) (.slice none 0 0)).toArray 32 (0, 0) HZ7.out
        have hfin : MemT (W7.setRow w.heap.size (memCells (m1) (.slice none 0 0) (.slice none 0 0)).toArray) (m1) (.slice none 0 0) (.slice none 0 0) := HT7.out.keeps fun g cs T hg hT => (setRow_other W7 w.heap.size g _ (fun e => by
          subst e
          have hz := HZ7.out
          rw [hg] at hz
          injection hz with hz
          injection hz with _ h2 _
          exact hT h2)).trans hg
        have hbf : Below w.heap.size w (W7.setRow w.heap.size (memCells (m1) (.slice none 0 0) (.slice none 0 0)).toArray) := HB7.out.trans ⟨rfl, rfl, rfl, by simp [World.setRow], fun k hk => setRow_other _ _ k _ (by omega)⟩
        clear HG0 HG1 HG2 HRD
        go_wp2_with fail
        refine bodyPost_ret (results_cell (T := 32) (t := 4) rfl rfl i56 (memCells (m1) (.slice none 0 0) (.slice none 0 0)) hi56 hz56 (agg56 _) (row_cells hrow)) rfl ⟨_, _, _, rfl, hfin, HN7.out.1, HN7.out.2, hbf⟩

end Go.Proofs.YtlbipmlbkcdmnaaGreat
