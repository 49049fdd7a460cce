/-
  A puller lays a node.
-/
import Derived.Test.YtlbipmlbkcdmnaaMerK
import Derived.Test.YtlbipmlbkcdmnaaMerL
namespace Go.Proofs.Ytlbipmlbkcdmnaa
open Go.RowKit Go.Shelf

theorem RowOwn.form {w : World} {B : Nat} {v : Value} {ss : List Sn} (h : RowOwn w B v ss) : ∃ A n c, v = .slice A n c := by
  obtain ⟨m, ms, h1, _⟩ := h
  obtain ⟨A, c, rfl⟩ := own_form h1
  exact ⟨A, m, c, rfl⟩

theorem PullAt.frz {w : World} {P : Nat} {lv : Value} {path : List UInt8} {r : Req} (h : PullAt w P lv path r) (i : Nat) : w.frozen? ⟨P, i, none⟩ = false := by
  obtain ⟨cs, h0, _⟩ := h
  unfold World.frozen?
  dsimp only
  rw [h0]
  rfl

set_option maxRecDepth 100000 in
set_option maxHeartbeats 1000000 in
theorem lay_any {w : World} {P : Nat} {lv : Value} {path : List UInt8} {r : Req} {ss : List Sn} (h : PullAt w P lv path r) (hR : RowOwn w 0 lv ss) (hr : r.root.length ≤ 1000000) (hs : ss.length ≤ 1000000) (hsp : ∀ s ∈ ss, s.path.length ≤ 1000000)
    (x : Nd) (s : Sn) (hx : ∀ W, Out (· = P) w W → NdAt W x s) (hp : s.path.length ≤ 1000000) :
    Calls Try.prog 97 #[.pointer (some ⟨P, 0, none⟩), .agg x.cells.toArray] w fun e w' => (∃ v, e = .returned v) ∧ ∃ lv', PullAt w' P lv' path r ∧ RowOwn w' 0 lv' (layL r.root s ss) ∧ Out (· = P) w w' := by
  have hal := ahead_short r.root s.path
  have hLay := Lib.hid (show layL r.root s ss = putG Sn.path s (goneL s.path ((aheadL r.root s.path).foldl layDir ss)) from rfl)
  have hb0 : Below w.heap.size w (w.alloc (.cells #[.string ⟨s.path.toArray⟩, .int .u8 x.kind, .slice x.adr x.len x.cap, .string ⟨x.link.toArray⟩] 31)) := (Below.refl _ _).alloc (Nat.le_refl _) _
  have hN := heap_alloc_new w (.cells #[.string ⟨s.path.toArray⟩, .int .u8 x.kind, .slice x.adr x.len x.cap, .string ⟨x.link.toArray⟩] 31)
  have HA := ahead_any (h.below hb0) (by omega) s.path (by omega)
  have hxp : x.path = s.path := (hx w (Out.of_below (Below.refl _ _))).1
  have hPN : P < w.heap.size := h.lt
  generalize hw1 : w.alloc (.cells #[.string ⟨s.path.toArray⟩, .int .u8 x.kind, .slice x.adr x.len x.cap, .string ⟨x.link.toArray⟩] 31) = w1 at hb0 hN HA
  have hP1 := h.below hb0
  have hR1 := hR.below hb0
  have HX := Lib.hid (fun W (hW : Out (· = P) w1 W) => hx W ((Out.of_below hb0).trans hW))
  have hN1 : w.heap.size < w1.heap.size := (Array.getElem?_eq_some_iff.1 hN).1
  clear h hR hx
  obtain ⟨cn0, cn1, cn2, cn3⟩ := node_cells hN
  unfold Nd.cells
  rw [hxp]
  have HXP := Lib.hid hxp
  clear hxp
  generalize aheadL r.root s.path = al at hal HA hLay
  go_enter Try.func97, Try.ntmps97
  go_wp2_with fail
  refine HA.mono ?_
  rintro e w2 ⟨va, rfl, hrow, hb2⟩
  have hP2 := hP1.below hb2
  have hR2 := hR1.below hb2
  have hrow' := hrow
  obtain ⟨A, c, rfl, hcell⟩ := hrow'
  clear hrow
  have HS := Lib.hid (show ∀ W, Out (· = P) w2 W → ∀ (j : Nat) (a : List UInt8), al[j]? = some a → ∃ g, A = some ⟨g, 0, none⟩ ∧ W.cell? ⟨g, j, none⟩ = some (.string ⟨a.toArray⟩) from fun W hW j a hj => by
    obtain ⟨g, hA, hB, hc⟩ := hcell j a hj
    exact ⟨g, hA, (World.cell?_of_block (hW.block g (World.block_lt_of_cell? _ _ hc) (by omega))).trans hc⟩)
  clear hcell
  clear HA
  go_wp2_with fail
  go_loopw [5, 6, 7, 13, 14, 15, 16, 17, 18, 19, 20, 21, 22, 23, 24, 25, 26, 27, 28, 29, 30, 31, 32, 33, 34, 35] (fun _ _ _ i _ _ _ _ _ _ _ _ _ _ _ _ _ _ _ _ _ _ _ _ _ _ wr => ∃ (k : Nat) (lvk : Value), k ≤ al.length ∧ i = .int .i64 k ∧ PullAt wr P lvk path r ∧ RowOwn wr 0 lvk ((al.take k).foldl layDir ss) ∧ Out (· = P) w2 wr)
    (fun _ _ _ i _ _ _ _ _ _ _ _ _ _ _ _ _ _ _ _ _ _ _ _ _ _ _ => al.length - (intOf i).toNat)
  case atStart => exact ⟨0, lv, Nat.zero_le _, rfl, hP2, hR2, Out.of_below (Below.refl _ _)⟩
  case round =>
    obtain ⟨k, lvk, hk, rfl, hPk, hRk, hOk⟩ := hrel
    have hsk := layDirs_short (al.take k) ss (m := 1000000) (fun a ha => by have := hal.2 a (List.mem_of_mem_take ha); omega) hsp
    have hft := fun a h => @foldl_take _ _ layDir ss al k a h
    rw [List.length_take] at hsk
    have hkl := hal.1
    by_cases hkz : k < al.length
    · have hkz' : (k : Int) < (al.length : Int) := by omega
      obtain ⟨a, ha⟩ : ∃ a, al[k]? = some a := ⟨_, List.getElem?_eq_getElem hkz⟩
      obtain ⟨g, rfl, ca⟩ := HS.out wr hOk k a ha
      have hft := hft a ha
      have hal2 := hal.2 a (List.mem_of_getElem? ha)
      generalize (al.take k).foldl layDir ss = sk at hsk hRk hft
      have hSk : Short sk := ⟨by omega, fun s hs => by have := hsk.2 s hs; omega⟩
      have HI := is_any hPk hRk.row hSk a 53
      have HPk := Lib.hid hPk
      have HRk := Lib.hid hRk
      have HOk := Lib.hid hOk
      have HFT := Lib.hid (show (al.take (k + 1)).foldl layDir ss = if (findL sk a).2 then sk else putG Sn.path ⟨a, 53, [], []⟩ sk from hft)
      clear hPk hRk hOk hft ha
      generalize hfd : findL sk a = fd at HI HFT
      obtain ⟨fs, fb⟩ := fd
      dsimp only at HI HFT
      clear hfd
      cases fb with
      | true =>
        go_wp2_with fail
        refine HI.mono ?_
        rintro e w3 ⟨rfl, hb3⟩
        clear HI
        go_wp2_with fail
        go_roundw
        case rel => exact ⟨k + 1, lvk, by omega, by go_num, HPk.out.below hb3, by rw [HFT.out]; simpa using HRk.out.below hb3, HOk.out.trans (Out.of_below hb3)⟩
        case measure => simp only [intOf]; omega
      | false =>
        go_wp2_with fail
        refine HI.mono ?_
        rintro e w3 ⟨rfl, hb3⟩
        clear HI
        have c3 := (HPk.out.below hb3).cells.row
        have HPT := put_own (HRk.out.below hb3).row ⟨a, 53, none, 0, 0, []⟩ ⟨a, 53, [], []⟩ ⟨rfl, rfl, rfl, ⟨rfl, fun j hj => absurd hj (Nat.not_lt_zero _)⟩, Nat.le_refl _, Nat.zero_le _⟩ hSk
        unfold Nd.cells at HPT
        dsimp only at HPT
        go_wp2_with fail
        refine HPT.mono ?_
        rintro e w4 ⟨v4, rfl, hR4, hb4⟩
        clear HPT
        obtain ⟨A4, n4, c4', rfl⟩ := hR4.form
        have hP4 := (HPk.out.below hb3).below hb4
        have f4 := hP4.frz 0
        have c4 := hP4.cells.row
        have HST := Lib.hid (pull_store hP4 (hR4.wider (Nat.zero_le _)))
        have HOS := Lib.hid (((HOk.out.trans (Out.of_below hb3)).trans (Out.of_below hb4)).trans (Out.set w4 P (.slice A4 n4 c4')))
        clear hR4 hP4 hb4
        go_wp2_with fail
        go_roundw
        case rel => exact ⟨k + 1, _, by omega, by go_num, HST.out.1, by rw [HFT.out]; simpa using HST.out.2, HOS.out⟩
        case measure => simp only [intOf]; omega
    · obtain rfl : k = al.length := by omega
      rw [List.take_length] at hsk hRk
      clear hft
      have HN := Lib.hid (show ∀ W, Below wr.heap.size wr W → W.cell? ⟨w.heap.size, 0, none⟩ = some (.string ⟨s.path.toArray⟩) ∧ W.cell? ⟨w.heap.size, 1, none⟩ = some (.int .u8 x.kind) ∧ W.cell? ⟨w.heap.size, 2, none⟩ = some (.slice x.adr x.len x.cap) ∧ W.cell? ⟨w.heap.size, 3, none⟩ = some (.string ⟨x.link.toArray⟩) from fun W hW =>
        node_cells ((hW.block _ (by have := hOk.size; have := hb2.size; omega)).trans ((hOk.block _ (by have := hb2.size; omega) (by omega)).trans ((hb2.block _ hN1).trans hN))))
      generalize al.foldl layDir ss = sk at hsk hRk hLay
      have hSk : Short sk := ⟨by omega, fun s hs => by have := hsk.2 s hs; omega⟩
      have HPC := Lib.hid (show ∀ W, Below wr.heap.size wr W → W.cell? ⟨P, 0, none⟩ = some lvk from fun W hW => (hPk.below hW).cells.row)
      have HPk := Lib.hid hPk
      have HRk := Lib.hid hRk
      have HOk := Lib.hid hOk
      clear hPk hRk hOk hN cn0 cn1 cn2 cn3 hw1
      go_upto_region 8 with fail
      refine wp_region_ordZ 12 [0, 1, 2, 3, 4, 5, 6, 8, 7, 9, 10, 11, 12] [7, 9, 10, 11, 12] (by kernel_rfl) (by kernel_rfl) (by kernel_rfl) (fun d _ _ _ _ h => by cases d <;> exact h) (by kernel_rfl) ?_
      intro WG hWG hBG
      have u0 := fun W (hW : Below WG.heap.size WG W) => HPC.out W (hBG.trans (hW.mono hBG.size))
      have u1 := fun W (hW : Below WG.heap.size WG W) => (HN.out W (hBG.trans (hW.mono hBG.size))).1
      have u2 := fun W (hW : Below WG.heap.size WG W) => (HN.out W (hBG.trans (hW.mono hBG.size))).2.1
      have u3 := fun W (hW : Below WG.heap.size WG W) => (HN.out W (hBG.trans (hW.mono hBG.size))).2.2.1
      have u4 := fun W (hW : Below WG.heap.size WG W) => (HN.out W (hBG.trans (hW.mono hBG.size))).2.2.2
      have HPG := Lib.hid (HPk.out.below hBG)
      have HRG := Lib.hid (HRk.out.below hBG)
      have HOG := Lib.hid ((HOk.out.trans (Out.of_below hBG)))
      clear hBG hWG
      repeat (first | (refine wpOrdZ_take (v := ?_) rfl rfl rfl (fun W hW => ?_) ?_; rotate_left; (focus (go_simp; with_reducible rfl)); simp only [Act.put, List.setIfInBounds_toArray, List.set_cons_succ, List.set_cons_zero]) | (refine wpOrdZ_skip rfl rfl ?_; simp only [Act.put, List.setIfInBounds_toArray, List.set_cons_succ, List.set_cons_zero]))
      refine wpOrdZ_call rfl rfl rfl ?_
      go_simp
      refine (remove_own HRG.out.row s.path (by omega) hSk).mono ?_
      rintro e w3 ⟨v3, rfl, hR3, hb3⟩
      refine ⟨hb3, ?_⟩
      have HXN := (HX.out w3 (((Out.of_below hb2).trans HOG.out).trans (Out.of_below hb3)))
      have HP2 := put_own hR3.row x s HXN (hSk.gone s.path)
      unfold Nd.cells at HP2
      rw [HXP.out] at HP2
      have HLY := Lib.hid hLay
      clear HXN
      repeat (first | (refine wpOrdZ_take (v := ?_) rfl rfl rfl (fun W hW => ?_) ?_; rotate_left; (focus (go_simp; with_reducible rfl)); simp only [Act.put, List.setIfInBounds_toArray, List.set_cons_succ, List.set_cons_zero]) | (refine wpOrdZ_skip rfl rfl ?_; simp only [Act.put, List.setIfInBounds_toArray, List.set_cons_succ, List.set_cons_zero]))
      refine wpOrdZ_call rfl rfl rfl ?_
      go_simp
      refine HP2.mono ?_
      rintro e w4 ⟨v4, rfl, hR4, hb4⟩
      refine ⟨hb4, ?_⟩
      obtain ⟨A4, n4, c4', rfl⟩ := hR4.form
      have hP4 := (HPG.out.below hb3).below hb4
      have f4 := hP4.frz 0
      have c4 := hP4.cells.row
      have HST := Lib.hid (pull_store hP4 (hR4.wider (Nat.zero_le _)))
      have HOS := Lib.hid ((((Out.of_below hb0).trans ((Out.of_below hb2).trans HOG.out)).trans ((Out.of_below hb3).trans (Out.of_below hb4))).trans (Out.set w4 P (.slice A4 n4 c4')))
      clear hR4 hP4
      refine wpOrdZ_call rfl rfl rfl ?_
      go_simp
      refine ⟨Below.refl _ _, ?_⟩
      refine wpOrdZ_call rfl rfl rfl ?_
      go_simp
      refine ⟨Below.refl _ _, ?_⟩
      refine wpOrdZ_call rfl rfl rfl ?_
      go_simp
      refine wpOrdZ_nil ?_
      go_wp2_with fail
      go_end0
      exact ⟨⟨_, rfl⟩, _, HST.out.1, by rw [HLY.out]; exact HST.out.2, HOS.out⟩

end Go.Proofs.Ytlbipmlbkcdmnaa

/-
  What laying a member makes of a tree, in plain words.
-/
namespace Go.Proofs.Ytlbipmlbkcdmnaa
open Go.RowKit Go.Shelf

/-- A member, as far as it is read. -/
structure Mem where
  name : List UInt8
  link : List UInt8
  kind : Int
  real : Int
  holes : Bool
  data : List Int

structure Opt where
  root : List UInt8
  links : Bool
  replace : Bool

def thereAt (ss : List Sn) (p : List UInt8) : Bool := (findL ss p).2
def isAt (ss : List Sn) (p : List UInt8) (k : Int) : Bool := (findL ss p).2 && (findL ss p).1.kind == k

def putE (o : Opt) (ss : List Sn) (s : Sn) : List Sn × Int :=
  if (isAt ss s.path 53 || thereAt ss s.path && !o.replace) = true then (ss, 62) else (layL o.root s ss, 0)
def dirE (o : Opt) (ss : List Sn) (p : List UInt8) : List Sn × Int :=
  if isAt ss p 53 = true then (ss, 0) else if (thereAt ss p && !o.replace) = true then (ss, 62) else (layL o.root ⟨p, 53, [], []⟩ ss, 0)
/-- A file with its holes: of two bytes, behind the first. -/
def expandL (m : Mem) : List Int := 0 :: m.data ++ List.replicate (m.real.toNat - 3) 0
def fileE (o : Opt) (ss : List Sn) (m : Mem) (p : List UInt8) : List Sn × Int :=
  if m.holes = true then if m.real < 3 then (ss, 11) else putE o ss ⟨p, 48, expandL m, []⟩ else putE o ss ⟨p, 48, m.data, []⟩
def softE (o : Opt) (ss : List Sn) (m : Mem) (p : List UInt8) : List Sn × Int :=
  if o.links = true then if (targetV o.root p m.link).2 = true then putE o ss ⟨p, 50, [], m.link⟩ else (ss, 64) else (ss, 61)
def hardE (o : Opt) (ss : List Sn) (m : Mem) (p : List UInt8) : List Sn × Int :=
  if o.links = true then
    if ((whereV o.root m.link).2 && (whereV o.root m.link).1 != p && isAt ss (whereV o.root m.link).1 48 && (aheadL o.root (whereV o.root m.link).1).all (isAt ss · 53)) = true
    then putE o ss ⟨p, 48, (findL ss (whereV o.root m.link).1).1.data, []⟩ else (ss, 64)
  else (ss, 61)
def kindE (o : Opt) (ss : List Sn) (m : Mem) (p : List UInt8) : List Sn × Int :=
  if m.kind = 53 then dirE o ss p else if m.kind = 48 then fileE o ss m p else if m.kind = 50 then softE o ss m p else if m.kind = 49 then hardE o ss m p else (ss, 31)
def oneV (o : Opt) (ss : List Sn) (m : Mem) : List Sn × Int :=
  if ((cleanV o.root).2 && (cleanV o.root).1 == o.root && isAt ss o.root 53) = true then
    if (whereV o.root m.name).2 = true then
      if ((aheadL o.root (whereV o.root m.name).1).all fun a => !thereAt ss a || isAt ss a 53) = true then kindE o ss m (whereV o.root m.name).1 else (ss, 63)
    else (ss, 60)
  else (ss, 65)

/-- One behind the other; and why others are not laid. -/
def stepV (o : Opt) (st : List Sn × List (Nat × Int)) (km : Mem × Nat) : List Sn × List (Nat × Int) :=
  ((oneV o st.1 km.1).1, if (oneV o st.1 km.1).2 = 0 then st.2 else st.2 ++ [(km.2, (oneV o st.1 km.1).2)])
def extractV (o : Opt) (ss : List Sn) (ms : List Mem) : List Sn × List (Nat × Int) := ms.zipIdx.foldl (stepV o) (ss, [])

def treeV (o : Opt) (ss : List Sn) (ms : List Mem) : List Sn := ms.foldl (fun s m => (oneV o s m).1) ss

theorem steps_tree (o : Opt) : ∀ (ms : List Mem) (k : Nat) (st : List Sn × List (Nat × Int)), ((ms.zipIdx k).foldl (stepV o) st).1 = treeV o st.1 ms
  | [], _, _ => rfl
  | m :: r, k, st => by
    rw [List.zipIdx_cons, List.foldl_cons, steps_tree o r]
    rfl
theorem extract_tree (o : Opt) (ss : List Sn) (ms : List Mem) : (extractV o ss ms).1 = treeV o ss ms := steps_tree o ms 0 _

/-- How many are refused. -/
def badN (o : Opt) : List Sn → List Mem → Nat
  | _, [] => 0
  | ss, m :: r => (if (oneV o ss m).2 = 0 then 0 else 1) + badN o (oneV o ss m).1 r

theorem steps_bad (o : Opt) : ∀ (ms : List Mem) (k : Nat) (st : List Sn × List (Nat × Int)), ((ms.zipIdx k).foldl (stepV o) st).2.length = st.2.length + badN o st.1 ms
  | [], _, _ => rfl
  | m :: r, k, st => by
    rw [List.zipIdx_cons, List.foldl_cons, steps_bad o r, badN]
    unfold stepV
    dsimp only
    split <;> simp <;> omega
theorem extract_bad (o : Opt) (ss : List Sn) (ms : List Mem) : (extractV o ss ms).2.length = badN o ss ms := by
  unfold extractV
  rw [steps_bad]
  simp

theorem tree_append (o : Opt) (ss : List Sn) (a b : List Mem) : treeV o ss (a ++ b) = treeV o (treeV o ss a) b := by
  unfold treeV
  rw [List.foldl_append]
theorem bad_append (o : Opt) : ∀ (a : List Mem) (ss : List Sn) (b : List Mem), badN o ss (a ++ b) = badN o ss a + badN o (treeV o ss a) b
  | [], ss, b => by simp [badN, treeV]
  | m :: r, ss, b => by
    rw [List.cons_append, badN, badN, bad_append o r]
    unfold treeV
    rw [List.foldl_cons]
    omega
theorem bad_le (o : Opt) : ∀ (a : List Mem) (ss : List Sn), badN o ss a ≤ a.length
  | [], ss => by simp [badN]
  | m :: r, ss => by
    have := bad_le o r (oneV o ss m).1
    rw [badN]
    split <;> simp <;> omega

end Go.Proofs.Ytlbipmlbkcdmnaa

/-
  A puller puts a node, if nothing is in the way; a directory.
-/
namespace Go.Proofs.Ytlbipmlbkcdmnaa
open Go.RowKit Go.Shelf

def Req.opt (r : Req) : Opt := ⟨r.root, r.links, r.replace⟩

/-- An error, as it is handed back. -/
def errV (c : Int) : Value := if c = 0 then .nilIface else .iface 100 (.agg #[.int .u16 c])

/-- What a laying has done. -/
def Did (w w' : World) (P : Nat) (path : List UInt8) (r : Req) (x : List Sn × Int) (e : Ending) : Prop :=
  e = .returned (errV x.2) ∧ ∃ lv', PullAt w' P lv' path r ∧ RowOwn w' 0 lv' x.1 ∧ Out (· = P) w w'

/-- Bounds of what is laid. -/
structure Fits (r : Req) (path : List UInt8) (ss : List Sn) : Prop where
  root : r.root.length ≤ 1000000
  link : r.link.length ≤ 1000000
  name : r.name.length ≤ 1000000
  path : path.length ≤ 1000000
  len : ss.length ≤ 1000000
  paths : ∀ s ∈ ss, s.path.length ≤ 1000000

theorem Fits.short {r : Req} {path : List UInt8} {ss : List Sn} (h : Fits r path ss) : Short ss := ⟨by have := h.len; omega, fun s hs => by have := h.paths s hs; omega⟩

set_option maxRecDepth 100000 in
set_option maxHeartbeats 1000000 in
theorem put'_any {w : World} {P : Nat} {lv : Value} {path : List UInt8} {r : Req} {ss : List Sn} (h : PullAt w P lv path r) (hR : RowOwn w 0 lv ss) (hF : Fits r path ss)
    (x : Nd) (s : Sn) (hx : ∀ W, Out (· = P) w W → NdAt W x s) (hsp : s.path = path) :
    Calls Try.prog 99 #[.pointer (some ⟨P, 0, none⟩), .agg x.cells.toArray] w fun e w' => Did w w' P path r (putE r.opt ss s) e := by
  have hb0 : Below w.heap.size w (w.alloc (.cells #[.string ⟨x.path.toArray⟩, .int .u8 x.kind, .slice x.adr x.len x.cap, .string ⟨x.link.toArray⟩] 31)) := (Below.refl _ _).alloc (Nat.le_refl _) _
  have hN := heap_alloc_new w (.cells #[.string ⟨x.path.toArray⟩, .int .u8 x.kind, .slice x.adr x.len x.cap, .string ⟨x.link.toArray⟩] 31)
  have hPN : P < w.heap.size := h.lt
  generalize hw1 : w.alloc (.cells #[.string ⟨x.path.toArray⟩, .int .u8 x.kind, .slice x.adr x.len x.cap, .string ⟨x.link.toArray⟩] 31) = w1 at hb0 hN
  have hP1 := h.below hb0
  have hR1 := hR.below hb0
  have HX := Lib.hid (fun W (hW : Out (· = P) w1 W) => hx W ((Out.of_below hb0).trans hW))
  have HI := is_any hP1 hR1.row hF.short path 53
  have HE := Lib.hid (show putE r.opt ss s = if (isAt ss path 53 || thereAt ss path && !r.replace) = true then (ss, 62) else (layL r.root s ss, 0) from by unfold putE; rw [hsp]; rfl)
  unfold isAt thereAt at HE
  have hN1 : w.heap.size < w1.heap.size := (Array.getElem?_eq_some_iff.1 hN).1
  have cP := hP1.cells.path
  have HN := Lib.hid hN
  have HF := Lib.hid hF
  have HSP := Lib.hid hsp
  clear h hR hx hF hsp hN
  have HP1 := Lib.hid hP1
  have HR1 := Lib.hid hR1
  clear hP1 hR1
  unfold Nd.cells
  generalize findL ss path = fd at HI HE
  obtain ⟨fs, fb⟩ := fd
  dsimp only at HI HE
  go_enter Try.func99, Try.ntmps99
  go_wp2_with fail
  refine HI.mono ?_
  rintro e w2 ⟨rfl, hb2⟩
  have HP2 := Lib.hid (HP1.out.below hb2)
  have HR2 := Lib.hid (HR1.out.below hb2)
  have cr := HP2.out.cells.replace
  obtain ⟨cn0, cn1, cn2, cn3⟩ := node_cells ((hb2.block _ hN1).trans HN.out)
  have HL := lay_any HP2.out HR2.out HF.out.root HF.out.len HF.out.paths x s (fun W hW => HX.out W ((Out.of_below hb2).trans hW)) (by rw [HSP.out]; exact HF.out.path)
  unfold Nd.cells at HL
  have HO2 := Lib.hid (show Out (· = P) w w2 from (Out.of_below hb0).trans (Out.of_below hb2))
  clear HI hw1 hb2 cP
  by_cases hq : ((fb && fs.kind == 53) || fb && !r.replace) = true
  · rw [if_pos hq] at HE
    rcases fb with _ | _
    · simp at hq
    · cases hk : fs.kind == 53 with
      | true =>
        clear hq
        go_wp2_with fail
        go_ret
        rw [HE.out]
        exact ⟨rfl, lv, HP2.out, HR2.out, HO2.out⟩
      | false =>
        simp only [hk] at hq ⊢
        have hrp : r.replace = false := by simpa using hq
        rw [hrp] at cr
        go_wp2_with fail
        go_ret
        rw [HE.out]
        exact ⟨rfl, lv, HP2.out, HR2.out, HO2.out⟩
  · rw [if_neg hq] at HE
    have hd : (fb && fs.kind == 53) = false := by
      cases h : (fb && fs.kind == 53) with
      | false => rfl
      | true => rw [h] at hq; simp at hq
    rw [hd]
    cases fb with
    | false =>
      clear hq hd
      go_wp2_with fail
      refine HL.mono ?_
      rintro e w3 ⟨⟨v, rfl⟩, lv', hP3, hR3, hO3⟩
      clear HL
      go_wp2_with fail
      go_ret
      rw [HE.out]
      exact ⟨rfl, lv', hP3, hR3, HO2.out.trans hO3⟩
    | true =>
      have hrp : r.replace = true := by
        cases h : r.replace with
        | true => rfl
        | false => rw [h] at hq; simp at hq
      rw [hrp] at cr
      clear hq hd
      go_wp2_with fail
      refine HL.mono ?_
      rintro e w3 ⟨⟨v, rfl⟩, lv', hP3, hR3, hO3⟩
      clear HL
      go_wp2_with fail
      go_ret
      rw [HE.out]
      exact ⟨rfl, lv', hP3, hR3, HO2.out.trans hO3⟩

set_option maxRecDepth 100000 in
set_option maxHeartbeats 1000000 in
theorem dir_any {w : World} {P : Nat} {lv : Value} {path : List UInt8} {r : Req} {ss : List Sn} (h : PullAt w P lv path r) (hR : RowOwn w 0 lv ss) (hF : Fits r path ss) :
    Calls Try.prog 86 #[.pointer (some ⟨P, 0, none⟩)] w fun e w' => Did w w' P path r (dirE r.opt ss path) e := by
  have HI := is_any h hR.row hF.short path 53
  have HE := Lib.hid (show dirE r.opt ss path = if isAt ss path 53 = true then (ss, 0) else if (thereAt ss path && !r.replace) = true then (ss, 62) else (layL r.root ⟨path, 53, [], []⟩ ss, 0) from rfl)
  unfold isAt thereAt at HE
  have cP := h.cells.path
  have HP := Lib.hid h
  have HR := Lib.hid hR
  have HF := Lib.hid hF
  clear h hR hF
  generalize findL ss path = fd at HI HE
  obtain ⟨fs, fb⟩ := fd
  dsimp only at HI HE
  go_enter Try.func86, Try.ntmps86
  go_wp2_with fail
  refine HI.mono ?_
  rintro e w2 ⟨rfl, hb2⟩
  have HP2 := Lib.hid (HP.out.below hb2)
  have HR2 := Lib.hid (HR.out.below hb2)
  have cP2 := HP2.out.cells.path
  have cr := HP2.out.cells.replace
  have HL := lay_any HP2.out HR2.out HF.out.root HF.out.len HF.out.paths ⟨path, 53, none, 0, 0, []⟩ ⟨path, 53, [], []⟩ (fun W _ => ⟨rfl, rfl, rfl, ⟨rfl, fun j hj => absurd hj (Nat.not_lt_zero _)⟩, Nat.le_refl _, Nat.zero_le _⟩) HF.out.path
  unfold Nd.cells at HL
  dsimp only at HL
  have HO2 := Lib.hid (show Out (· = P) w w2 from Out.of_below hb2)
  clear HI hb2 cP
  by_cases hq : (fb && fs.kind == 53) = true
  · rw [if_pos hq] at HE
    rw [hq]
    have hfb : fb = true := by cases fb <;> simp_all
    subst hfb
    clear hq
    go_wp2_with fail
    go_ret
    rw [HE.out]
    exact ⟨rfl, lv, HP2.out, HR2.out, HO2.out⟩
  · rw [if_neg hq] at HE
    have hd : (fb && fs.kind == 53) = false := by
      cases h : (fb && fs.kind == 53) with
      | false => rfl
      | true => exact absurd h hq
    rw [hd]
    clear hq hd
    cases fb with
    | false =>
      go_wp2_with fail
      refine HL.mono ?_
      rintro e w3 ⟨⟨v, rfl⟩, lv', hP3, hR3, hO3⟩
      clear HL
      go_wp2_with fail
      go_ret
      rw [HE.out]
      exact ⟨rfl, lv', hP3, hR3, HO2.out.trans hO3⟩
    | true =>
      generalize hrp : r.replace = rp at HE cr
      cases rp with
      | true =>
        go_wp2_with fail
        refine HL.mono ?_
        rintro e w3 ⟨⟨v, rfl⟩, lv', hP3, hR3, hO3⟩
        clear HL
        go_wp2_with fail
        go_ret
        rw [HE.out]
        exact ⟨rfl, lv', hP3, hR3, HO2.out.trans hO3⟩
      | false =>
        go_wp2_with fail
        go_ret
        rw [HE.out]
        exact ⟨rfl, lv, HP2.out, HR2.out, HO2.out⟩

end Go.Proofs.Ytlbipmlbkcdmnaa

/-
  A file with its holes, as the law's members have them.
-/
namespace Go.Proofs.Ytlbipmlbkcdmnaa
open Go.RowKit Go.Shelf

set_option maxRecDepth 100000 in
set_option maxHeartbeats 1000000 in
theorem check_any {w : World} {b off c : Nat} {real : Int} (h0 : w.cell? ⟨b, off, none⟩ = some (.int .i64 1)) (h1 : w.cell? ⟨b, off + 1, none⟩ = some (.int .i64 2)) (hr1 : 1 ≤ real) (hr2 : real ≤ 8) :
    Calls Try.prog 103 #[.slice (some ⟨b, off, none⟩) 1 c, .int .i64 2, .int .i64 real] w fun e w' => e = .returned (.int .u16 (if real < 3 then 11 else 0)) ∧ Below w.heap.size w w' := by
  have hreal : real = 1 ∨ real = 2 ∨ real = 3 ∨ real = 4 ∨ real = 5 ∨ real = 6 ∨ real = 7 ∨ real = 8 := by omega
  have hreal : real = 1 ∨ real = 2 ∨ real = 3 ∨ real = 4 ∨ real = 5 ∨ real = 6 ∨ real = 7 ∨ real = 8 := by omega
  have hreal : real = 1 ∨ real = 2 ∨ real = 3 ∨ real = 4 ∨ real = 5 ∨ real = 6 ∨ real = 7 ∨ real = 8 := by omega
  go_enter Try.func103, Try.ntmps103
  go_wp2_with fail
  go_loopw [1, 6, 7, 9, 23, 24, 25, 26, 27, 28, 29, 30, 31, 32, 33, 34, 35, 36, 37, 38, 39, 40, 41, 42, 43, 44, 45, 46, 47, 48, 49, 50, 51, 52, 53, 54, 55, 56, 57, 58, 59, 60] (fun v1 _ v7 _ v23 _ _ _ _ _ _ _ _ _ _ _ _ _ _ _ _ _ _ _ _ _ _ _ _ _ _ _ _ _ _ _ _ _ _ _ _ _ wr => (v1 = .int .i64 2 ∧ v7 = .int .i64 0 ∧ v23 = .int .i64 0 ∧ wr = w) ∨ (v1 = .int .i64 0 ∧ v7 = .int .i64 3 ∧ v23 = .int .i64 1 ∧ 3 ≤ real ∧ Below w.heap.size w wr))
  (fun v1 _ v7 _ v23 _ _ _ _ _ _ _ _ _ _ _ _ _ _ _ _ _ _ _ _ _ _ _ _ _ _ _ _ _ _ _ _ _ _ _ _ _ _ => 1 - (intOf v23).toNat)
  case atStart => exact .inl ⟨rfl, rfl, rfl, rfl⟩
  case round =>
    rcases hrel with ⟨rfl, rfl, rfl, hwr⟩ | ⟨rfl, rfl, rfl, h3, hb⟩
    · obtain rfl := hwr.symm
      have hk1 := heap_alloc_new w (.cells #[.int .i64 1, .int .i64 2] 87)
      have hb1 : Below w.heap.size w (w.alloc (.cells #[.int .i64 1, .int .i64 2] 87)) := (Below.refl _ _).alloc (Nat.le_refl _) _
      rcases hreal with rfl | rfl | rfl | rfl | rfl | rfl | rfl | rfl
      all_goals go_wp2_with fail
      all_goals first
        | (go_ret; exact ⟨rfl, hb1⟩)
        | (refine ⟨.inr ⟨rfl, rfl, rfl, by omega, hb1⟩, ?_⟩; simp [intOf])
    · go_wp2_with fail
      go_ret
      exact ⟨rfl, hb⟩

end Go.Proofs.Ytlbipmlbkcdmnaa

/-
  A file with its holes: its bytes.
-/
namespace Go.Proofs.Ytlbipmlbkcdmnaa
open Go.RowKit Go.Shelf

set_option maxRecDepth 100000 in
set_option maxHeartbeats 1000000 in
theorem expand_bad {w : World} {b off c : Nat} {real : Int} {A : Option Addr} {n dc : Nat} (h0 : w.cell? ⟨b, off, none⟩ = some (.int .i64 1)) (h1 : w.cell? ⟨b, off + 1, none⟩ = some (.int .i64 2)) (hr1 : 1 ≤ real) (hr2 : real < 3) (hn : n = 2) :
    Calls Try.prog 98 #[.slice (some ⟨b, off, none⟩) 1 c, .int .i64 real, .slice A n dc] w fun e w' => e = .returned (.tuple #[.slice none 0 0, .int .u16 11]) ∧ Below w.heap.size w w' := by
  subst hn
  have HC := check_any (c := c) h0 h1 hr1 (by omega)
  rw [if_pos hr2] at HC
  go_enter Try.func98, Try.ntmps98
  go_wp2_with fail
  refine HC.mono ?_
  rintro e w1 ⟨rfl, hb1⟩
  go_wp2_with fail
  go_ret2
  exact ⟨rfl, hb1⟩

/-- copy at cells of bytes: what is read lies somewhere, what is written lies in block g. -/
theorem run_copy1 (w : World) (ty g o dLen dCap : Nat) (a : Addr) (sLen sCap : Nat) (cur : Array Value) (cs : List Value)
    (hg : w.heap[g]? = some (.cells cur 5 (0, 0))) (hn : cs.length = Nat.min sLen dLen)
    (hsrc : ∀ j v, cs[j]? = some v → w.cell? (a.add j) = some v) (hfit : o + cs.length ≤ cur.size) (h1 : ∀ v ∈ cs, v.oneCell' = true) :
    (Builtin.copy_ #[29, 29] ty #[.slice (some ⟨g, o, none⟩) dLen dCap, .slice (some a) sLen sCap]).run Try.prog w =
      .ok (goInt (Nat.min sLen dLen)) (w.setRow g (cur.toList.take o ++ cs ++ cur.toList.drop (o + cs.length)).toArray) := by
  have hl := run_loadCells_list (P := Try.prog) w a cs hsrc
  have hst := run_storeCells_at Try.prog g o 5 cs 0 cur w hg (by simpa using hfit) h1
  obtain ⟨i0, hi, hz0, hz1, hz2⟩ := info_parts Try.info5
  simp [Builtin.copy_, run_underlying Try.underlying29, Builtin.lenOf, Builtin.firstCells, sizeOf, typeInfo, hi, hz1, ← hn, hl, hst]

theorem wp_region_ordT {P : Program} {ops : Array Oper} {Q : Exit → Act → World → Prop} {id : Nat} {a : Act} {w : World} (T : TypeId) (B : Nat) (order eff : List Nat) (hm : P.follows .mixedOrders = true) (hs : Region.noSelect ops = true) (hlen : order.length = ops.size)
    (hQ : ∀ d v c a w, Q (.panic c) (a.put d v) w → Q (.panic c) a w) (hok : okOrd .any ops eff order (Array.replicate ops.size false) = true)
    (h : ∀ W, W.heap = w.heap → Below w.heap.size w W → wpOrd P ops Q (AddsT T B) eff order a W) : (Code.region id ops true).wp P Q a w :=
  wp_region_any hm (wpAny_of_B _ _ _ _ (by have h1 := wpAnyB_of_ord (AddsT.refl T B) AddsT.trans hs hQ order _ a w.drew hok (h w.drew rfl (Below.refl _ _).drew); rwa [hlen] at h1))

theorem made_bytes (N : Nat) : (madeCells #[.int .u8 0] N).toList = List.replicate N (.int .u8 0) := by
  apply List.ext_getElem
  · simp [madeCells]
  · intro i h1 h2
    simp [madeCells, Nat.mod_one]

theorem two_cells {w : World} {g : Nat} {a b : Value} {t : Nat} (h : w.heap[g]? = some (.cells #[a, b] t (0, 0))) : w.cell? ⟨g, 0, none⟩ = some a ∧ w.cell? ⟨g, 1, none⟩ = some b := by
  unfold World.cell?
  dsimp only
  rw [h]
  exact ⟨rfl, rfl⟩

set_option maxRecDepth 100000 in
set_option maxHeartbeats 1000000 in
theorem expand_any {w : World} {b off c : Nat} {N : Nat} {A : Option Addr} {d0 d1 : Int} {dc : Nat} (h0 : w.cell? ⟨b, off, none⟩ = some (.int .i64 1)) (h1 : w.cell? ⟨b, off + 1, none⟩ = some (.int .i64 2)) (hr1 : 3 ≤ N) (hr2 : N ≤ 8) (hd : Rd w .u8 A 2 [d0, d1]) (hdc : 2 ≤ dc) :
    Calls Try.prog 98 #[.slice (some ⟨b, off, none⟩) 1 c, .int .i64 N, .slice A 2 dc] w fun e w' => ∃ g, e = .returned (.tuple #[.slice (some ⟨g, 0, none⟩) N N, .int .u16 0]) ∧ w.heap.size ≤ g ∧ Rd w' .u8 (some ⟨g, 0, none⟩) N (0 :: d0 :: d1 :: List.replicate (N - 3) 0) ∧ Below w.heap.size w w' := by
  have HC := check_any (c := c) (real := N) h0 h1 (by omega) (by omega)
  rw [if_neg (by omega)] at HC
  obtain ⟨i0, hi, hz0, hz1, hz2⟩ := info_parts Try.info5
  have hmk := fun W : World => run_makeSlice (P := Try.prog) (w := W) 29 5 i0 (.int .u8 0) Try.underlying29 hi hz0 .i64 .i64 N N (by omega) (Int.le_refl _) (by rw [hz1]; simp; omega) (by rw [hz2]; simp; omega) (by omega)
  simp only [Int.toNat_natCast, hz1] at hmk
  go_enter Try.func98, Try.ntmps98
  go_wp2_with fail
  refine HC.mono ?_
  rintro e w1 ⟨rfl, hb1⟩
  clear HC
  have g0 := (hb1.cell (World.block_lt_of_cell? w _ h0)).trans h0
  have g1 := (hb1.cell (World.block_lt_of_cell? w _ h1)).trans h1
  have hmk1 := hmk w1
  go_wp2_with fail
  generalize hW1 : w1.alloc (.cells (madeCells #[.int .u8 0] N) 5) = W1
  have hg1 : W1.heap[w1.heap.size]? = some (.cells (madeCells #[.int .u8 0] N) 5 (0, 0)) := by rw [← hW1]; exact heap_alloc_new _ _
  have hbW : Below w1.heap.size w1 W1 := by rw [← hW1]; exact (Below.refl _ _).alloc (Nat.le_refl _) _
  have HSZ := Lib.hid (show W1.heap.size = w1.heap.size + 1 by rw [← hW1]; simp)
  obtain ⟨ad, rfl, hd0⟩ := hd.2 0 (by omega)
  obtain ⟨ad', hA, hd1⟩ := hd.2 1 (by omega)
  obtain rfl : ad = ad' := by injection hA
  have hsrc : ∀ W, Below w1.heap.size w1 W → ∀ j v, ([.int .u8 d0, .int .u8 d1] : List Value)[j]? = some v → W.cell? (ad.add j) = some v := fun W hW j v hj => by
    have hB := hb1.trans (hW.mono hb1.size)
    match j, hj with
    | 0, hj => cases hj; exact (hB.cell (World.block_lt_of_cell? w _ hd0)).trans hd0
    | 1, hj => cases hj; exact (hB.cell (World.block_lt_of_cell? w _ hd1)).trans hd1
  have hR : ((madeCells #[.int .u8 0] N).toList.take 1 ++ [.int .u8 d0, .int .u8 d1] ++ (madeCells #[.int .u8 0] N).toList.drop 3) = (0 :: d0 :: d1 :: List.replicate (N - 3) (0 : Int)).map (Value.int .u8) := by
    obtain ⟨M, rfl⟩ : ∃ M, N = M + 3 := ⟨N - 3, by omega⟩
    rw [made_bytes]
    simp [List.replicate_succ]
  have hsR : (madeCells #[.int .u8 0] N).size = N := by simp [madeCells]
  generalize madeCells #[.int .u8 0] N = ROW at hg1 hR hsR hmk hmk1 hW1
  have m0 := (hbW.cell (World.block_lt_of_cell? w1 _ g0)).trans g0
  have m1 := (hbW.cell (World.block_lt_of_cell? w1 _ g1)).trans g1
  have hN1 : (1 : Int) ≤ (N : Int) := by omega
  have hN2 : N ≠ 1 := by omega
  have hdc2 : (2 : Int) ≤ (dc : Int) := by omega
  clear hmk hmk1 hi hz0 hz1 hz2 hd hd0 hd1 hA g0 g1
  clear hW1
  go_loopw [2, 11, 26, 27, 28, 29, 30, 31, 32, 33, 34, 35, 36, 37, 38, 39, 40, 41, 42, 43] (fun v2 _ v26 _ _ _ _ _ _ _ _ _ _ _ _ _ _ _ _ _ wr => (v2 = .slice (some ad) 2 dc ∧ v26 = .int .i64 0 ∧ wr = W1) ∨ (v26 = .int .i64 1 ∧ wr.heap[w1.heap.size]? = some (.cells ((0 :: d0 :: d1 :: List.replicate (N - 3) (0 : Int)).map (Value.int .u8)).toArray 5 (0, 0)) ∧ Below w1.heap.size w1 wr))
  (fun v2 _ v26 _ _ _ _ _ _ _ _ _ _ _ _ _ _ _ _ _ _ => 1 - (intOf v26).toNat)
  case atStart => exact .inl ⟨rfl, rfl, rfl⟩
  case round =>
    rcases hrel with ⟨rfl, rfl, hwr⟩ | ⟨rfl, hg, hb⟩
    · obtain rfl := hwr.symm
      have hk1 := heap_alloc_new W1 (.cells #[.int .i64 1, .int .i64 2] 87)
      have hb2 : Below W1.heap.size W1 (W1.alloc (.cells #[.int .i64 1, .int .i64 2] 87)) := (Below.refl _ _).alloc (Nat.le_refl _) _
      go_upto_region 10 with fail
      generalize hW2 : W1.alloc (.cells #[.int .i64 1, .int .i64 2] 87) = W2 at hk1 hb2
      have hq1 := (Array.getElem?_eq_some_iff.1 hk1).1
      have HW2 := Lib.hid (show Below w1.heap.size w1 W2 from hbW.trans (hb2.mono hbW.size))
      have HG2 := Lib.hid (show W2.heap[w1.heap.size]? = some (.cells ROW 5 (0, 0)) from (hb2.block _ (by have := HSZ.out; omega)).trans hg1)
      have HK1 := Lib.hid hk1
      clear hk1 hb2 hg1 hbW m0 m1
      refine wp_region_ordT 5 w1.heap.size [0, 1, 2, 3, 4, 5, 6, 7, 8] [8] (by kernel_rfl) (by kernel_rfl) (by kernel_rfl) (fun d _ _ _ _ h => by cases d <;> exact h) (by kernel_rfl) ?_
      intro WG hWG hBG
      have hkG : WG.heap[W1.heap.size]? = some (.cells #[.int .i64 1, .int .i64 2] 87 (0, 0)) := by rw [hWG]; exact HK1.out
      have hgG : WG.heap[w1.heap.size]? = some (.cells ROW 5 (0, 0)) := by rw [hWG]; exact HG2.out
      have u0 := fun W (hW : AddsT 5 w1.heap.size WG W) => (two_cells (hW.other hkG (by decide))).1
      have u1 := fun W (hW : AddsT 5 w1.heap.size WG W) => (two_cells (hW.other hkG (by decide))).2
      have HBG := Lib.hid (HW2.out.trans (hBG.mono HW2.out.size))
      have HKG := Lib.hid hkG
      have HGG := Lib.hid hgG
      clear hBG hWG hkG hgG
      try clear hW2
      repeat (first | (refine wpOrd_take (v := ?_) rfl rfl rfl (fun W hW => ?_) ?_; rotate_left; (focus (go_simp; with_reducible rfl)); simp only [Act.put, List.setIfInBounds_toArray, List.set_cons_succ, List.set_cons_zero]) | (refine wpOrd_skip rfl rfl ?_; simp only [Act.put, List.setIfInBounds_toArray, List.set_cons_succ, List.set_cons_zero]))
      refine wpOrd_step rfl rfl ?_
      have hcp := run_copy1 WG 3 w1.heap.size 1 (N - 1) (N - 1) ad 2 dc ROW [.int .u8 d0, .int .u8 d1] HGG.out (by simp [Nat.min_def]; omega) (hsrc WG HBG.out) (by simp; omega) (by simp [Value.oneCell'])
      rw [show ROW.toList.drop (1 + [Value.int .u8 d0, Value.int .u8 d1].length) = ROW.toList.drop 3 from rfl, hR] at hcp
      refine step_copy_runI rfl _ _ 29 29 rfl (.slice (some ⟨w1.heap.size, 1, none⟩) (N - 1) (N - 1)) (.slice (some ad) 2 dc) (by simp [Act.eval]) (by simp [Act.eval]) hcp ?_
      have hgl : w1.heap.size < WG.heap.size := (Array.getElem?_eq_some_iff.1 HGG.out).1
      generalize hRW : ((0 :: d0 :: d1 :: List.replicate (N - 3) (0 : Int)).map (Value.int .u8)).toArray = RW
      have hkR : (WG.setRow w1.heap.size RW).heap[W1.heap.size]? = some (.cells #[.int .i64 1, .int .i64 2] 87 (0, 0)) := by rw [setRow_other WG w1.heap.size _ RW (by have := HSZ.out; omega)]; exact HKG.out
      have hgR : (WG.setRow w1.heap.size RW).heap[w1.heap.size]? = some (.cells RW 5 (0, 0)) := setRow_heap WG w1.heap.size ROW RW 5 (0, 0) HGG.out
      have hBR : Below w1.heap.size WG (WG.setRow w1.heap.size RW) := ⟨rfl, rfl, rfl, by simp [World.setRow], fun k hk => setRow_other _ _ k RW (by omega)⟩
      refine ⟨⟨hBR, fun k _ hk => setRow_other _ _ k RW (fun e => by rw [e] at hk; exact hk _ _ HGG.out)⟩, ?_⟩
      refine wpOrd_nil ?_
      obtain ⟨q0, q1⟩ := two_cells hkR
      have HGR := Lib.hid hgR
      have HBR := Lib.hid (HBG.out.trans hBR)
      have HRW := Lib.hid hRW
      clear u0 u1 hkR hgR hBR hcp hRW hsrc hR
      generalize WG.setRow w1.heap.size RW = WR at q0 q1 HGR HBR
      go_wp2_with fail
      go_roundw
      case rel => exact .inr ⟨by go_num, by rw [HRW.out]; exact HGR.out, HBR.out⟩
      case measure => simp [intOf]
    · go_wp2_with fail
      go_ret2
      refine ⟨w1.heap.size, rfl, hb1.size, ⟨by simp; omega, fun j hj => ⟨_, rfl, ?_⟩⟩, hb1.trans (hb.mono hb1.size)⟩
      rw [Addr.add_lit, Nat.zero_add]
      unfold World.cell?
      dsimp only
      rw [hg]
      have hj2 : j < (0 :: d0 :: d1 :: List.replicate (N - 3) (0 : Int)).length := by simp; omega
      generalize (0 :: d0 :: d1 :: List.replicate (N - 3) (0 : Int)) = l at hj2 ⊢
      simp [List.getD_eq_getElem?_getD, List.getElem?_eq_getElem hj2]

end Go.Proofs.Ytlbipmlbkcdmnaa
