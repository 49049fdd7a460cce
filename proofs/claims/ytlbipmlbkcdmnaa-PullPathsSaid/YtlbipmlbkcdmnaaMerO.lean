/-
  A puller lays a file.
-/
import Derived.Test.YtlbipmlbkcdmnaaMerN
import Derived.Test.YtlbipmlbkcdmnaaOgV
namespace Go.Proofs.Ytlbipmlbkcdmnaa
open Go.RowKit Go.Shelf

/-- Bytes that lie somewhere. -/
def DataAt (w : World) (v : Value) (bs : List Int) : Prop :=
  ∃ (A : Option Addr) (c : Nat), v = .slice A bs.length c ∧ Rd w .u8 A bs.length bs ∧ bs.length ≤ c ∧ bs.length ≤ 4000000000000
/-- The one part of the law's members. -/
def PartsAt (w : World) (v : Value) : Prop :=
  ∃ (b off c : Nat), v = .slice (some ⟨b, off, none⟩) 1 c ∧ w.cell? ⟨b, off, none⟩ = some (.int .i64 1) ∧ w.cell? ⟨b, off + 1, none⟩ = some (.int .i64 2)
/-- A puller's member. -/
structure MemIn (w : World) (r : Req) (m : Mem) : Prop where
  name : r.name = m.name
  link : r.link = m.link
  kind : r.kind = m.kind
  real : r.real = m.real
  holes : r.holes = m.holes
  data : DataAt w r.data m.data
  slice : ∃ A n c, r.parts = .slice A n c
  parts : m.holes = true → PartsAt w r.parts ∧ m.data.length = 2 ∧ 1 ≤ m.real ∧ m.real ≤ 8

/-- All of a puller's member. -/
structure PullRest (w : World) (P : Nat) : Prop where
  c4 : w.cell? ⟨P, 4, none⟩ = some (.int .i64 0)
  c5 : w.cell? ⟨P, 5, none⟩ = some (.int .i64 0)
  c6 : w.cell? ⟨P, 6, none⟩ = some (.int .i64 0)
  c7 : w.cell? ⟨P, 7, none⟩ = some (.string ⟨#[]⟩)
  c8 : w.cell? ⟨P, 8, none⟩ = some (.string ⟨#[]⟩)
  c9 : w.cell? ⟨P, 9, none⟩ = some (.int .i64 0)
  c10 : w.cell? ⟨P, 10, none⟩ = some (.int .i64 0)
  c11 : w.cell? ⟨P, 11, none⟩ = some (.int .i64 0)
  c12 : w.cell? ⟨P, 12, none⟩ = some (.int .i64 0)
  c13 : w.cell? ⟨P, 13, none⟩ = some (.int .i64 0)
  c17 : w.cell? ⟨P, 17, none⟩ = some (.slice none 0 0)
theorem PullAt.rest {w : World} {P : Nat} {lv : Value} {path : List UInt8} {r : Req} (h : PullAt w P lv path r) : PullRest w P := by
  obtain ⟨cs, h0, a0, a1, a2, a3, a14, a15, a16, a18, a19, a20, a21, a22, ar⟩ := h
  exact ⟨(pull_cell h0 ar.c4).1, (pull_cell h0 ar.c5).1, (pull_cell h0 ar.c6).1, (pull_cell h0 ar.c7).1, (pull_cell h0 ar.c8).1, (pull_cell h0 ar.c9).1, (pull_cell h0 ar.c10).1, (pull_cell h0 ar.c11).1, (pull_cell h0 ar.c12).1, (pull_cell h0 ar.c13).1, (pull_cell h0 ar.c17).1⟩

theorem Did.pre {w w1 w' : World} {P : Nat} {path : List UInt8} {r : Req} {x : List Sn × Int} {e : Ending} (ho : Out (· = P) w w1) (h : Did w1 w' P path r x e) : Did w w' P path r x e := by
  obtain ⟨h1, lv, h2, h3, h4⟩ := h
  exact ⟨h1, lv, h2, h3, ho.trans h4⟩

theorem Rd.out {w w' : World} {k : IntKind} {A : Option Addr} {n P : Nat} {xs : List Int} (h : Rd w k A n xs) (ho : Out (· = P) w w') (hA : ∀ ad, A = some ad → ad.block ≠ P) : Rd w' k A n xs := by
  refine ⟨h.1, fun j hj => ?_⟩
  obtain ⟨ad, h1, h2⟩ := h.2 j hj
  refine ⟨ad, h1, ?_⟩
  have hl := World.block_lt_of_cell? w _ h2
  have hb : (ad.add j).block = ad.block := by unfold Addr.add; split <;> rfl
  refine (World.cell?_of_block (ho.block _ hl ?_)).trans h2
  rw [hb]
  exact hA ad h1

set_option maxRecDepth 100000 in
set_option maxHeartbeats 1000000 in
theorem file_plain {w : World} {P : Nat} {lv : Value} {path : List UInt8} {r : Req} {ss : List Sn} {m : Mem} (h : PullAt w P lv path r) (hR : RowOwn w 0 lv ss) (hF : Fits r path ss) (hM : ∀ W, Out (· = P) w W → MemIn W r m) (hmh : m.holes = false) :
    Calls Try.prog 87 #[.pointer (some ⟨P, 0, none⟩)] w fun e w' => Did w w' P path r (fileE r.opt ss m path) e := by
  obtain ⟨e4, e5, e6, e7, e8, e9, e10, e11, e12, e13, e17⟩ := h.rest
  have p1 := h.cells.name
  have p2 := h.cells.link
  have p3 := h.cells.kind
  have p14 := h.cells.real
  have p15 := h.cells.holes
  have p16 := h.cells.parts
  have p18 := h.cells.data
  have p22 := h.cells.path
  have HP := Lib.hid h
  have HR := Lib.hid hR
  have HF := Lib.hid hF
  have HM := Lib.hid hM
  clear h hR hF hM
  have HM0 := Lib.hid (HM.out w (Out.of_below (Below.refl _ _)))
  obtain ⟨pA, pn, pc, hps⟩ := HM0.out.slice
  obtain ⟨dA, dc, hds, hdr, hdc, hdl⟩ := HM0.out.data
  rw [hps] at p16
  rw [hds] at p18
  rw [HM0.out.holes] at p15
  rw [HM0.out.real] at p14
  have HE := Lib.hid (show fileE r.opt ss m path = if m.holes = true then if m.real < 3 then (ss, 11) else putE r.opt ss ⟨path, 48, expandL m, []⟩ else putE r.opt ss ⟨path, 48, m.data, []⟩ from rfl)
  have HPS := Lib.hid hps
  have HDS := Lib.hid hds
  have HDR := Lib.hid hdr
  clear hps hds hdr
  rw [hmh] at p15
  rw [hmh, if_neg (by decide)] at HE
  clear hmh
  have hb1 : Below w.heap.size w (w.alloc (.cells #[.string ⟨r.name.toArray⟩, .string ⟨r.link.toArray⟩, .int .u8 r.kind, .int .i64 0, .int .i64 0, .int .i64 0, .string ⟨#[]⟩, .string ⟨#[]⟩, .int .i64 0, .int .i64 0, .int .i64 0, .int .i64 0, .int .i64 0, .int .i64 m.real, .bool false, .slice pA pn pc, .slice none 0 0] 54)) := (Below.refl _ _).alloc (Nat.le_refl _) _
  have hP1 := HP.out.below hb1
  have p22' := hP1.cells.path
  have HPut := put'_any hP1 (HR.out.below hb1) HF.out ⟨path, 48, dA, m.data.length, dc, []⟩ ⟨path, 48, m.data, []⟩ (fun W hW => ⟨rfl, rfl, rfl, by
    obtain ⟨A', c', e1, e2, _, _⟩ := (HM.out W ((Out.of_below hb1).trans hW)).data
    rw [HDS.out] at e1
    injection e1 with i1 i2 i3
    rw [i1]
    exact e2, hdc, hdl⟩) rfl
  unfold Nd.cells at HPut
  dsimp only at HPut
  have HB1 := Lib.hid hb1
  clear hb1 hP1
  obtain ⟨i54, hi54, hz54⟩ := size54
  have HLD := Lib.hid (show ∀ j v, ([.string ⟨r.name.toArray⟩, .string ⟨r.link.toArray⟩, .int .u8 r.kind, .int .i64 0, .int .i64 0, .int .i64 0, .string ⟨#[]⟩, .string ⟨#[]⟩, .int .i64 0, .int .i64 0, .int .i64 0, .int .i64 0, .int .i64 0, .int .i64 m.real, .bool false, .slice pA pn pc, .slice none 0 0] : List Value)[j]? = some v → w.cell? ((⟨P, 1, none⟩ : Addr).add j) = some v from fun j v hj => by
    rw [Addr.add_lit]
    match j, hj with
    | 0, hj => cases hj; exact p1
    | 1, hj => cases hj; exact p2
    | 2, hj => cases hj; exact p3
    | 3, hj => cases hj; exact e4
    | 4, hj => cases hj; exact e5
    | 5, hj => cases hj; exact e6
    | 6, hj => cases hj; exact e7
    | 7, hj => cases hj; exact e8
    | 8, hj => cases hj; exact e9
    | 9, hj => cases hj; exact e10
    | 10, hj => cases hj; exact e11
    | 11, hj => cases hj; exact e12
    | 12, hj => cases hj; exact e13
    | 13, hj => cases hj; exact p14
    | 14, hj => cases hj; exact p15
    | 15, hj => cases hj; exact p16
    | 16, hj => cases hj; exact e17
    | n + 17, hj => simp at hj)
  have HS54 := Lib.hid hz54
  have HI54 := Lib.hid hi54
  clear hz54 hi54
  go_enter Try.func87, Try.ntmps87
  go_upto_region 2 with fail
  apply wp_region_lit
  iterate 12 go_step
  refine wpList_load_row 54 _ i54 ⟨P, 1, none⟩ _ HI54.out ?_ (agg54 _) ?_ HLD.out ?_
  · exact HS54.out
  · rfl
  iterate 3 go_step
  refine wpList_store_new 54 _ _ i54 _ [.string ⟨r.name.toArray⟩, .string ⟨r.link.toArray⟩, .int .u8 r.kind, .int .i64 0, .int .i64 0, .int .i64 0, .string ⟨#[]⟩, .string ⟨#[]⟩, .int .i64 0, .int .i64 0, .int .i64 0, .int .i64 0, .int .i64 0, .int .i64 m.real, .bool false, .slice pA pn pc, .slice none 0 0] HI54.out HS54.out rfl rfl rfl (by simp [Value.oneCell']) ?_
  go_wp2_with fail
  refine HPut.mono ?_
  rintro e w3 hd
  have HD := Lib.hid (hd.pre (Out.of_below HB1.out))
  obtain ⟨rfl, _⟩ := hd
  go_wp2_with fail
  go_ret
  rw [HE.out]
  exact HD.out

set_option maxRecDepth 100000 in
set_option maxHeartbeats 1000000 in
theorem file_holes {w : World} {P : Nat} {lv : Value} {path : List UInt8} {r : Req} {ss : List Sn} {m : Mem} (h : PullAt w P lv path r) (hR : RowOwn w 0 lv ss) (hF : Fits r path ss) (hM : ∀ W, Out (· = P) w W → MemIn W r m) (hmh : m.holes = true) :
    Calls Try.prog 87 #[.pointer (some ⟨P, 0, none⟩)] w fun e w' => Did w w' P path r (fileE r.opt ss m path) e := by
  obtain ⟨e4, e5, e6, e7, e8, e9, e10, e11, e12, e13, e17⟩ := h.rest
  have p1 := h.cells.name
  have p2 := h.cells.link
  have p3 := h.cells.kind
  have p14 := h.cells.real
  have p15 := h.cells.holes
  have p16 := h.cells.parts
  have p18 := h.cells.data
  have p22 := h.cells.path
  have HP := Lib.hid h
  have HR := Lib.hid hR
  have HF := Lib.hid hF
  have HM := Lib.hid hM
  clear h hR hF hM
  have HM0 := Lib.hid (HM.out w (Out.of_below (Below.refl _ _)))
  obtain ⟨pA, pn, pc, hps⟩ := HM0.out.slice
  obtain ⟨dA, dc, hds, hdr, hdc, hdl⟩ := HM0.out.data
  rw [hps] at p16
  rw [hds] at p18
  rw [HM0.out.holes] at p15
  rw [HM0.out.real] at p14
  have HE := Lib.hid (show fileE r.opt ss m path = if m.holes = true then if m.real < 3 then (ss, 11) else putE r.opt ss ⟨path, 48, expandL m, []⟩ else putE r.opt ss ⟨path, 48, m.data, []⟩ from rfl)
  have HPS := Lib.hid hps
  have HDS := Lib.hid hds
  have HDR := Lib.hid hdr
  clear hps hds hdr
  rw [hmh] at p15
  rw [hmh, if_pos rfl] at HE
  obtain ⟨⟨pb, po, pcc, hpp, pp0, pp1⟩, hm2, hm1, hm8⟩ := HM0.out.parts hmh
  rw [HPS.out] at hpp
  injection hpp with i1 i2 i3
  subst i1; subst i2; subst i3
  clear hmh
  obtain ⟨i54, hi54, hz54⟩ := size54
  have HLD := Lib.hid (show ∀ j v, ([.string ⟨r.name.toArray⟩, .string ⟨r.link.toArray⟩, .int .u8 r.kind, .int .i64 0, .int .i64 0, .int .i64 0, .string ⟨#[]⟩, .string ⟨#[]⟩, .int .i64 0, .int .i64 0, .int .i64 0, .int .i64 0, .int .i64 0, .int .i64 m.real, .bool true, .slice (some ⟨pb, po, none⟩) 1 pc, .slice none 0 0] : List Value)[j]? = some v → w.cell? ((⟨P, 1, none⟩ : Addr).add j) = some v from fun j v hj => by
    rw [Addr.add_lit]
    match j, hj with
    | 0, hj => cases hj; exact p1
    | 1, hj => cases hj; exact p2
    | 2, hj => cases hj; exact p3
    | 3, hj => cases hj; exact e4
    | 4, hj => cases hj; exact e5
    | 5, hj => cases hj; exact e6
    | 6, hj => cases hj; exact e7
    | 7, hj => cases hj; exact e8
    | 8, hj => cases hj; exact e9
    | 9, hj => cases hj; exact e10
    | 10, hj => cases hj; exact e11
    | 11, hj => cases hj; exact e12
    | 12, hj => cases hj; exact e13
    | 13, hj => cases hj; exact p14
    | 14, hj => cases hj; exact p15
    | 15, hj => cases hj; exact p16
    | 16, hj => cases hj; exact e17
    | n + 17, hj => simp at hj)
  have HS54 := Lib.hid hz54
  have HI54 := Lib.hid hi54
  clear hz54 hi54
  go_enter Try.func87, Try.ntmps87
  go_upto_region 2 with fail
  apply wp_region_lit
  iterate 12 go_step
  refine wpList_load_row 54 _ i54 ⟨P, 1, none⟩ _ HI54.out ?_ (agg54 _) ?_ HLD.out ?_
  · exact HS54.out
  · rfl
  iterate 3 go_step
  refine wpList_store_new 54 _ _ i54 _ [.string ⟨r.name.toArray⟩, .string ⟨r.link.toArray⟩, .int .u8 r.kind, .int .i64 0, .int .i64 0, .int .i64 0, .string ⟨#[]⟩, .string ⟨#[]⟩, .int .i64 0, .int .i64 0, .int .i64 0, .int .i64 0, .int .i64 0, .int .i64 m.real, .bool true, .slice (some ⟨pb, po, none⟩) 1 pc, .slice none 0 0] HI54.out HS54.out rfl rfl rfl (by simp [Value.oneCell']) ?_
  go_wp2_with fail
  have hb1 : Below w.heap.size w (w.alloc (.cells #[.string ⟨r.name.toArray⟩, .string ⟨r.link.toArray⟩, .int .u8 r.kind, .int .i64 0, .int .i64 0, .int .i64 0, .string ⟨#[]⟩, .string ⟨#[]⟩, .int .i64 0, .int .i64 0, .int .i64 0, .int .i64 0, .int .i64 0, .int .i64 m.real, .bool true, .slice (some ⟨pb, po, none⟩) 1 pc, .slice none 0 0] 54)) := (Below.refl _ _).alloc (Nat.le_refl _) _
  generalize w.alloc (.cells #[.string ⟨r.name.toArray⟩, .string ⟨r.link.toArray⟩, .int .u8 r.kind, .int .i64 0, .int .i64 0, .int .i64 0, .string ⟨#[]⟩, .string ⟨#[]⟩, .int .i64 0, .int .i64 0, .int .i64 0, .int .i64 0, .int .i64 0, .int .i64 m.real, .bool true, .slice (some ⟨pb, po, none⟩) 1 pc, .slice none 0 0] 54) = w1 at hb1 ⊢
  have q0 := (hb1.cell (World.block_lt_of_cell? w _ pp0)).trans pp0
  have q1 := (hb1.cell (World.block_lt_of_cell? w _ pp1)).trans pp1
  by_cases h3 : m.real < 3
  · rw [if_pos h3] at HE
    refine (expand_bad q0 q1 hm1 h3 rfl).mono ?_
    rintro e w2 ⟨rfl, hb2⟩
    have HB2 := Lib.hid (hb1.trans (hb2.mono hb1.size))
    clear hb1 hb2 q0 q1
    go_wp2_with fail
    go_ret
    rw [HE.out]
    exact ⟨rfl, lv, HP.out.below HB2.out, HR.out.below HB2.out, Out.of_below HB2.out⟩
  · rw [if_neg h3] at HE
    have HN := Lib.hid (show m.real = (m.real.toNat : Int) by omega)
    have HDR2 := HDR.out.below hb1
    rw [hm2] at HDR2 hdc
    obtain ⟨d0, d1, hdd⟩ : ∃ d0 d1, m.data = [d0, d1] := by
      match m.data, hm2 with
      | [a, b], _ => exact ⟨a, b, rfl⟩
    rw [hdd] at HDR2
    have hX := expand_any (N := m.real.toNat) (c := pc) q0 q1 (by omega) (by omega) HDR2 (by omega)
    rw [← HN.out] at hX
    refine hX.mono ?_
    rintro e w2 ⟨g, rfl, hg, hrd, hb2⟩
    have HB2 := Lib.hid (hb1.trans (hb2.mono hb1.size))
    have hP2 := HP.out.below HB2.out
    have p22' := hP2.cells.path
    have hPl := HP.out.lt
    have hel : (expandL m) = 0 :: d0 :: d1 :: List.replicate (m.real.toNat - 3) 0 := by unfold expandL; rw [hdd]; rfl
    have hgP : g ≠ P := by have := hb1.size; omega
    have HPut := put'_any hP2 (HR.out.below HB2.out) HF.out ⟨path, 48, some ⟨g, 0, none⟩, m.real.toNat, m.real.toNat, []⟩ ⟨path, 48, expandL m, []⟩ (fun W hW => ⟨rfl, rfl, rfl, by rw [hel]; exact hrd.out hW (fun ad ha => by injection ha with ha; rw [← ha]; exact hgP), Nat.le_refl _, show m.real.toNat ≤ 4000000000000 by omega⟩) rfl
    unfold Nd.cells at HPut
    dsimp only at HPut
    clear hb1 hb2 q0 q1 hX hrd hP2 HDR2 hdd hel
    go_wp2_with fail
    refine HPut.mono ?_
    rintro e w3 hd
    have HD := Lib.hid (hd.pre (Out.of_below HB2.out))
    obtain ⟨rfl, _⟩ := hd
    go_wp2_with fail
    go_ret
    rw [HE.out]
    exact HD.out
theorem file_any {w : World} {P : Nat} {lv : Value} {path : List UInt8} {r : Req} {ss : List Sn} {m : Mem} (h : PullAt w P lv path r) (hR : RowOwn w 0 lv ss) (hF : Fits r path ss) (hM : ∀ W, Out (· = P) w W → MemIn W r m) :
    Calls Try.prog 87 #[.pointer (some ⟨P, 0, none⟩)] w fun e w' => Did w w' P path r (fileE r.opt ss m path) e := by
  cases hmh : m.holes with
  | true => exact file_holes h hR hF hM hmh
  | false => exact file_plain h hR hF hM hmh

end Go.Proofs.Ytlbipmlbkcdmnaa

/-
  A puller lays a link.
-/
namespace Go.Proofs.Ytlbipmlbkcdmnaa
open Go.RowKit Go.Shelf

set_option maxRecDepth 100000 in
set_option maxHeartbeats 1000000 in
theorem soft_any {w : World} {P : Nat} {lv : Value} {path : List UInt8} {r : Req} {ss : List Sn} {m : Mem} (h : PullAt w P lv path r) (hR : RowOwn w 0 lv ss) (hF : Fits r path ss) (hml : r.link = m.link) :
    Calls Try.prog 88 #[.pointer (some ⟨P, 0, none⟩)] w fun e w' => Did w w' P path r (softE r.opt ss m path) e := by
  have HT := fun w => target_any r.root path r.link (by have := hF.root; omega) (by have := hF.path; omega) (by have := hF.link; omega) w
  have p2 := h.cells.link
  have p19 := h.cells.root
  have p20 := h.cells.links
  have p22 := h.cells.path
  have HE := Lib.hid (show softE r.opt ss m path = if r.links = true then if (targetV r.root path r.link).2 = true then putE r.opt ss ⟨path, 50, [], r.link⟩ else (ss, 64) else (ss, 61) from by rw [hml]; rfl)
  generalize targetV r.root path r.link = tv at HT HE
  obtain ⟨tp, tb⟩ := tv
  dsimp only at HT HE
  have HP := Lib.hid h
  have HR := Lib.hid hR
  have HF := Lib.hid hF
  clear h hR hF hml
  generalize hrl : r.links = rl at p20 HE
  clear hrl
  cases rl with
  | false =>
    go_enter Try.func88, Try.ntmps88
    go_wp2_with fail
    go_ret
    rw [HE.out]
    exact ⟨rfl, lv, HP.out, HR.out, Out.of_below (Below.refl _ _)⟩
  | true =>
    go_enter Try.func88, Try.ntmps88
    clear p2 p19 p22
    go_upto_region 3 with fail
    refine wp_region_ordV [0, 1, 2, 3, 4, 5, 6, 7, 8, 9, 10, 11, 12, 13, 14, 15, 16, 17, 18, 19, 20] [15] (by kernel_rfl) (by kernel_rfl) (by kernel_rfl) (fun d _ _ _ _ h => by cases d <;> exact h) (by kernel_rfl) ?_
    intro WG hWG hBG
    have HPG := Lib.hid (HP.out.below hBG)
    have HBG := Lib.hid hBG
    have u2 := fun W (hW : Below WG.heap.size WG W) => (HPG.out.below hW).cells.link
    have u19 := fun W (hW : Below WG.heap.size WG W) => (HPG.out.below hW).cells.root
    have u22 := fun W (hW : Below WG.heap.size WG W) => (HPG.out.below hW).cells.path
    clear hBG hWG p20
    repeat (first | (refine wpOrd_take (v := ?_) rfl rfl rfl (fun W hW => ?_) ?_; rotate_left; (focus (go_simp; with_reducible rfl)); simp only [Act.put, List.setIfInBounds_toArray, List.set_cons_succ, List.set_cons_zero]) | (refine wpOrd_skip rfl rfl ?_; simp only [Act.put, List.setIfInBounds_toArray, List.set_cons_succ, List.set_cons_zero]))
    refine wpOrd_call rfl rfl rfl ?_
    go_simp
    refine (HT _).mono ?_
    rintro e w1 ⟨rfl, hb1⟩
    refine ⟨hb1, ?_⟩
    repeat (first | (refine wpOrd_take (v := ?_) rfl rfl rfl (fun W hW => ?_) ?_; rotate_left; (focus (go_simp; with_reducible rfl)); simp only [Act.put, List.setIfInBounds_toArray, List.set_cons_succ, List.set_cons_zero]) | (refine wpOrd_skip rfl rfl ?_; simp only [Act.put, List.setIfInBounds_toArray, List.set_cons_succ, List.set_cons_zero]))
    refine wpOrd_nil ?_
    have HP1 := Lib.hid (HPG.out.below hb1)
    have HB1 := Lib.hid (HBG.out.trans (hb1.mono HBG.out.size))
    clear hb1 HT u2 u19 u22
    cases tb with
    | false =>
      go_wp2_with fail
      go_ret
      rw [HE.out]
      exact ⟨rfl, lv, HP1.out, HR.out.below HB1.out, Out.of_below HB1.out⟩
    | true =>
      go_upto_region 6 with fail
      refine wp_region_ordZ 12 [0, 1, 2, 3, 4, 5, 6, 7, 8, 9, 10, 11, 12, 13] [12, 13] (by kernel_rfl) (by kernel_rfl) (by kernel_rfl) (fun d _ _ _ _ h => by cases d <;> exact h) (by kernel_rfl) ?_
      intro WH hWH hBH
      have HPH := Lib.hid (HP1.out.below hBH)
      have HBH := Lib.hid (HB1.out.trans (hBH.mono HB1.out.size))
      have u2 := fun W (hW : Below WH.heap.size WH W) => (HPH.out.below hW).cells.link
      have u22 := fun W (hW : Below WH.heap.size WH W) => (HPH.out.below hW).cells.path
      clear hBH hWH
      have HPut := put'_any HPH.out (HR.out.below HBH.out) HF.out ⟨path, 50, none, 0, 0, r.link⟩ ⟨path, 50, [], r.link⟩ (fun W _ => ⟨rfl, rfl, rfl, ⟨rfl, fun j hj => absurd hj (Nat.not_lt_zero _)⟩, Nat.le_refl _, Nat.zero_le _⟩) rfl
      unfold Nd.cells at HPut
      dsimp only at HPut
      repeat (first | (refine wpOrdZ_take (v := ?_) rfl rfl rfl (fun W hW => ?_) ?_; rotate_left; (focus (go_simp; with_reducible rfl)); simp only [Act.put, List.setIfInBounds_toArray, List.set_cons_succ, List.set_cons_zero]) | (refine wpOrdZ_skip rfl rfl ?_; simp only [Act.put, List.setIfInBounds_toArray, List.set_cons_succ, List.set_cons_zero]))
      refine wpOrdZ_call rfl rfl rfl ?_
      go_simp
      refine HPut.mono ?_
      rintro e w3 hd
      have HD := Lib.hid (hd.pre (Out.of_below HBH.out))
      obtain ⟨rfl, _⟩ := hd
      go_simp
      refine wpOrdZ_call rfl rfl rfl ?_
      go_simp
      refine ⟨Below.refl _ _, ?_⟩
      refine wpOrdZ_nil ?_
      go_wp2_with fail
      go_ret
      rw [HE.out]
      exact HD.out

end Go.Proofs.Ytlbipmlbkcdmnaa

/-
  A puller lays a hard link.
-/
namespace Go.Proofs.Ytlbipmlbkcdmnaa
open Go.RowKit Go.Shelf

theorem find_own {w : World} {v : Value} {ss : List Sn} (h : RowOf w v ss) (p : List UInt8) (hs : Short ss) :
    Calls Try.prog 35 #[v, .string ⟨p.toArray⟩] w fun e w' => ∃ y : Nd, e = .returned (.tuple #[.agg y.cells.toArray, .bool (findL ss p).2]) ∧ NdOwn w' w.heap.size y (findL ss p).1 ∧ Below w.heap.size w w' := by
  obtain ⟨A, c, ms, rfl, h1, h2, h3⟩ := h
  exact find_any p h1 h2 h2.1.symm (by have := hs.1; omega)

set_option maxRecDepth 100000 in
set_option maxHeartbeats 2000000 in
theorem hard_any {w : World} {P : Nat} {lv : Value} {path : List UInt8} {r : Req} {ss : List Sn} {m : Mem} (h : PullAt w P lv path r) (hR : RowOwn w 0 lv ss) (hF : Fits r path ss) (hml : r.link = m.link) :
    Calls Try.prog 89 #[.pointer (some ⟨P, 0, none⟩)] w fun e w' => Did w w' P path r (hardE r.opt ss m path) e := by
  have HT := fun w => where_any r.root r.link (by have := hF.root; omega) (by have := hF.link; omega) w
  have p20 := h.cells.links
  have hwl : (whereV r.root r.link).1.length ≤ 3000000 := by
    unfold whereV
    split
    · simp
    · have h1 := joinL_len r.root (cleanV r.link).1
      have h2 := clean_len r.link
      have := hF.root
      have := hF.link
      show (joinL r.root (cleanV r.link).1).length ≤ _
      omega
  have HE := Lib.hid (show hardE r.opt ss m path = if r.links = true then
      if ((whereV r.root r.link).2 && (whereV r.root r.link).1 != path && isAt ss (whereV r.root r.link).1 48 && (aheadL r.root (whereV r.root r.link).1).all (isAt ss · 53)) = true
      then putE r.opt ss ⟨path, 48, (findL ss (whereV r.root r.link).1).1.data, []⟩ else (ss, 64) else (ss, 61) from by rw [hml]; rfl)
  generalize whereV r.root r.link = tv at HT HE hwl
  obtain ⟨t1, tb⟩ := tv
  dsimp only at HT HE hwl
  have HP := Lib.hid h
  have HR := Lib.hid hR
  have HF := Lib.hid hF
  clear h hR hF hml
  generalize hrl : r.links = rl at p20 HE
  clear hrl
  cases rl with
  | false =>
    go_enter Try.func89, Try.ntmps89
    go_wp2_with fail
    go_ret
    rw [HE.out]
    exact ⟨rfl, lv, HP.out, HR.out, Out.of_below (Below.refl _ _)⟩
  | true =>
    rw [if_pos rfl] at HE
    go_enter Try.func89, Try.ntmps89
    go_upto_region 3 with fail
    refine wp_region_ordV [0, 1, 2, 3, 4, 5, 6, 7, 8, 9, 10, 11, 12, 13, 14, 15, 16] [11] (by kernel_rfl) (by kernel_rfl) (by kernel_rfl) (fun d _ _ _ _ h => by cases d <;> exact h) (by kernel_rfl) ?_
    intro WG hWG hBG
    have HPG := Lib.hid (HP.out.below hBG)
    have HBG := Lib.hid hBG
    have u2 := fun W (hW : Below WG.heap.size WG W) => (HPG.out.below hW).cells.link
    have u19 := fun W (hW : Below WG.heap.size WG W) => (HPG.out.below hW).cells.root
    clear hBG hWG p20
    repeat (first | (refine wpOrd_take (v := ?_) rfl rfl rfl (fun W hW => ?_) ?_; rotate_left; (focus (go_simp; with_reducible rfl)); simp only [Act.put, List.setIfInBounds_toArray, List.set_cons_succ, List.set_cons_zero]) | (refine wpOrd_skip rfl rfl ?_; simp only [Act.put, List.setIfInBounds_toArray, List.set_cons_succ, List.set_cons_zero]))
    refine wpOrd_call rfl rfl rfl ?_
    go_simp
    refine (HT _).mono ?_
    rintro e w1 ⟨rfl, hb1⟩
    refine ⟨hb1, ?_⟩
    repeat (first | (refine wpOrd_take (v := ?_) rfl rfl rfl (fun W hW => ?_) ?_; rotate_left; (focus (go_simp; with_reducible rfl)); simp only [Act.put, List.setIfInBounds_toArray, List.set_cons_succ, List.set_cons_zero]) | (refine wpOrd_skip rfl rfl ?_; simp only [Act.put, List.setIfInBounds_toArray, List.set_cons_succ, List.set_cons_zero]))
    refine wpOrd_nil ?_
    have HP1 := Lib.hid (HPG.out.below hb1)
    have HB1 := Lib.hid (HBG.out.trans (hb1.mono HBG.out.size))
    have HR1 := Lib.hid (HR.out.below HB1.out)
    have p22 := HP1.out.cells.path
    have HI := is_any HP1.out HR1.out.row HF.out.short t1 48
    clear hb1 HT u2 u19
    go_wp2_with fail
    refine HI.mono ?_
    rintro e w2 ⟨rfl, hb2⟩
    have HP2 := Lib.hid (HP1.out.below hb2)
    have HB2 := Lib.hid (HB1.out.trans (hb2.mono HB1.out.size))
    have HR2 := Lib.hid (HR1.out.below hb2)
    have q22 := HP2.out.cells.path
    clear hb2 HI p22
    generalize hfq : ((findL ss t1).2 && (findL ss t1).1.kind == 48) = fq
    rw [show isAt ss t1 48 = fq from hfq] at HE
    have HFI := fun W lvk (hW : RowOf W lvk ss) => find_own hW t1 HF.out.short
    have HFB := Lib.hid hfq
    clear hfq
    generalize (findL ss t1).2 = fb at HFB HFI ⊢
    generalize (findL ss t1).1 = fs at HE HFB HFI
    have hal := ahead_short r.root t1
    have HA := ahead_any HP2.out (by have := HF.out.root; omega) t1 (by omega)
    generalize aheadL r.root t1 = al at HE HA hal
    cases tb with
    | false =>
      go_wp2_with fail
      go_ret
      rw [HE.out]
      exact ⟨rfl, lv, HP2.out, HR2.out, Out.of_below HB2.out⟩
    | true =>
      by_cases htp : t1 = path
      · subst htp
        have htb : (t1 == t1) = true := by simp
        have HE2 := Lib.hid (show hardE r.opt ss m t1 = (ss, 64) by rw [HE.out]; simp)
        go_wp2_with fail
        go_ret
        rw [HE2.out]
        exact ⟨rfl, lv, HP2.out, HR2.out, Out.of_below HB2.out⟩
      · have htb : (t1 == path) = false := by simpa using htp
        have htn : (t1 != path) = true := by simpa using htp
        cases fq with
        | false =>
          have HE2 := Lib.hid (show hardE r.opt ss m path = (ss, 64) by rw [HE.out]; simp)
          go_wp2_with fail
          go_ret
          rw [HE2.out]
          exact ⟨rfl, lv, HP2.out, HR2.out, Out.of_below HB2.out⟩
        | true =>
          have HE2 := Lib.hid (show hardE r.opt ss m path = if (al.all (isAt ss · 53)) = true then putE r.opt ss ⟨path, 48, fs.data, []⟩ else (ss, 64) by rw [HE.out, htn]; simp)
          clear HE
          go_wp2_with fail
          refine HA.mono ?_
          rintro e w3 ⟨va, rfl, hrow, hb3⟩
          have HP3 := Lib.hid (HP2.out.below hb3)
          have HR3 := Lib.hid (HR2.out.below hb3)
          have HB3 := Lib.hid (HB2.out.trans (hb3.mono HB2.out.size))
          obtain ⟨A, c, rfl, hcell⟩ := hrow
          have HS := Lib.hid (show ∀ W, Below w3.heap.size w3 W → ∀ (j : Nat) (a : List UInt8), al[j]? = some a → ∃ g, A = some ⟨g, 0, none⟩ ∧ W.cell? ⟨g, j, none⟩ = some (.string ⟨a.toArray⟩) from fun W hW j a hj => by
            obtain ⟨g, hA, hB, hc⟩ := hcell j a hj
            exact ⟨g, hA, (hW.cell (World.block_lt_of_cell? _ _ hc)).trans hc⟩)
          clear hcell HA hb3 q22
          go_wp2_with fail
          go_loopw [8, 9, 10, 62, 63, 64, 65, 66, 67, 68, 69, 70, 71, 72, 73, 74, 75, 76] (fun _ _ _ v62 _ _ _ _ _ _ _ _ _ _ _ _ _ _ wr => ∃ k : Nat, k ≤ al.length ∧ v62 = .int .i64 k ∧ (∀ a ∈ al.take k, isAt ss a 53 = true) ∧ Below w3.heap.size w3 wr)
            (fun _ _ _ v62 _ _ _ _ _ _ _ _ _ _ _ _ _ _ _ => al.length - (intOf v62).toNat)
          case atStart => exact ⟨0, Nat.zero_le _, rfl, by simp, Below.refl _ _⟩
          case round =>
            obtain ⟨k, hk, rfl, hall, hb4⟩ := hrel
            have HP4 := Lib.hid (HP3.out.below hb4)
            have HR4 := Lib.hid (HR3.out.below hb4)
            have HB4 := Lib.hid (HB3.out.trans (hb4.mono HB3.out.size))
            have HB34 := Lib.hid hb4
            have HALL := Lib.hid hall
            clear hall
            have hkl := hal.1
            by_cases hkz : k < al.length
            · have hkz' : (k : Int) < (al.length : Int) := by omega
              obtain ⟨a, ha⟩ : ∃ a, al[k]? = some a := ⟨_, List.getElem?_eq_getElem hkz⟩
              obtain ⟨g, rfl, ca⟩ := HS.out wr hb4 k a ha
              have HI := is_any HP4.out HR4.out.row HF.out.short a 53
              generalize hdq : ((findL ss a).2 && (findL ss a).1.kind == 53) = dq at HI
              have HDQ := Lib.hid (show isAt ss a 53 = dq from hdq)
              have HTK := Lib.hid (show al.take (k + 1) = al.take k ++ [a] by rw [List.take_add_one, ha]; rfl)
              have HMEM := Lib.hid (List.mem_of_getElem? ha)
              clear hdq hb4 ha
              cases dq with
              | true =>
                go_wp2_with fail
                refine HI.mono ?_
                rintro e w4 ⟨rfl, hb5⟩
                clear HI
                go_wp2_with fail
                go_roundw
                case rel =>
                  refine ⟨k + 1, by omega, by go_num, fun b hb => ?_, HB34.out.trans (hb5.mono HB34.out.size)⟩
                  rw [HTK.out] at hb
                  rcases List.mem_append.1 hb with hb | hb
                  · exact HALL.out b hb
                  · rw [List.mem_singleton.1 hb]; exact HDQ.out
                case measure => simp only [intOf]; omega
              | false =>
                go_wp2_with fail
                refine HI.mono ?_
                rintro e w4 ⟨rfl, hb5⟩
                clear HI
                go_wp2_with fail
                go_ret
                have hno : ¬ (al.all (isAt ss · 53)) = true := fun h => by
                  have := List.all_eq_true.1 h a HMEM.out
                  rw [HDQ.out] at this
                  cases this
                rw [HE2.out, if_neg hno]
                exact ⟨rfl, lv, HP4.out.below hb5, HR4.out.below hb5, Out.of_below (HB4.out.trans (hb5.mono HB4.out.size))⟩
            · obtain rfl : k = al.length := by omega
              have hyes : (al.all (isAt ss · 53)) = true := List.all_eq_true.2 fun a ha => HALL.out a (by rw [List.take_length]; exact ha)
              have HE3 := Lib.hid (show hardE r.opt ss m path = putE r.opt ss ⟨path, 48, fs.data, []⟩ by rw [HE2.out, if_pos hyes])
              have p0 := HP4.out.cells.row
              have HFD := HFI wr lv HR4.out.row
              clear hyes hb4 HE2 HS HALL
              go_wp2_with fail
              refine HFD.mono ?_
              rintro e w5 ⟨y, rfl, hy, hb5⟩
              have HY := Lib.hid hy
              have HP5 := Lib.hid (HP4.out.below hb5)
              have HR5 := Lib.hid (HR4.out.below hb5)
              have HB5 := Lib.hid (HB4.out.trans (hb5.mono HB4.out.size))
              clear hy hb5 HFD HFI p0
              unfold Nd.cells
              have hN := heap_alloc_new w5 (.cells #[.string ⟨y.path.toArray⟩, .int .u8 y.kind, .slice y.adr y.len y.cap, .string ⟨y.link.toArray⟩] 31)
              have hb6 : Below w5.heap.size w5 (w5.alloc (.cells #[.string ⟨y.path.toArray⟩, .int .u8 y.kind, .slice y.adr y.len y.cap, .string ⟨y.link.toArray⟩] 31)) := (Below.refl _ _).alloc (Nat.le_refl _) _
              have HN := Lib.hid hN
              have HB6 := Lib.hid hb6
              clear hN hb6
              go_upto_region 15 with fail
              refine wp_region_ordZ 8 [0, 1, 2, 3, 4, 5, 6, 7, 8, 9] [8, 9] (by kernel_rfl) (by kernel_rfl) (by kernel_rfl) (fun d _ _ _ _ h => by cases d <;> exact h) (by kernel_rfl) ?_
              intro WG hWG hBG
              have hnc := node_cells ((show WG.heap[w5.heap.size]? = _ by rw [hWG]).trans HN.out)
              have hgl : w5.heap.size < WG.heap.size := by rw [hWG]; exact (Array.getElem?_eq_some_iff.1 HN.out).1
              have u2 := fun W (hW : Below WG.heap.size WG W) => (hW.cell (p := ⟨w5.heap.size, 2, none⟩) hgl).trans hnc.2.2.1
              have hBG5 := HB6.out.trans (hBG.mono HB6.out.size)
              have HPG := Lib.hid (HP5.out.below hBG5)
              have HBG := Lib.hid (HB5.out.trans (hBG5.mono HB5.out.size))
              have u22 := fun W (hW : Below WG.heap.size WG W) => (HPG.out.below hW).cells.path
              have hyG := HY.out.below hBG5
              obtain ⟨csP, hcP, _⟩ := HPG.out
              have HPut := put'_any HPG.out (HR5.out.below hBG5) HF.out ⟨path, 48, y.adr, y.len, y.cap, []⟩ ⟨path, 48, fs.data, []⟩ (fun W hW => ⟨rfl, rfl, rfl, rd_of_own (own_other hyG.2.2.2.1 hcP (by decide) fun k hk hkP => hW.block k hk hkP), own_cap hyG.2.2.2.1, hyG.2.2.2.2⟩) rfl
              unfold Nd.cells at HPut
              dsimp only at HPut
              clear hBG hWG hnc hgl hBG5 hyG hcP
              repeat (first | (refine wpOrdZ_take (v := ?_) rfl rfl rfl (fun W hW => ?_) ?_; rotate_left; (focus (go_simp; with_reducible rfl)); simp only [Act.put, List.setIfInBounds_toArray, List.set_cons_succ, List.set_cons_zero]) | (refine wpOrdZ_skip rfl rfl ?_; simp only [Act.put, List.setIfInBounds_toArray, List.set_cons_succ, List.set_cons_zero]))
              refine wpOrdZ_call rfl rfl rfl ?_
              go_simp
              refine HPut.mono ?_
              rintro e w6 hd
              have HD := Lib.hid (hd.pre (Out.of_below HBG.out))
              obtain ⟨rfl, _⟩ := hd
              clear HPut u2 u22
              go_simp
              refine wpOrdZ_call rfl rfl rfl ?_
              go_simp
              refine ⟨Below.refl _ _, ?_⟩
              refine wpOrdZ_nil ?_
              go_wp2_with fail
              go_ret
              rw [HE3.out]
              exact HD.out

end Go.Proofs.Ytlbipmlbkcdmnaa
