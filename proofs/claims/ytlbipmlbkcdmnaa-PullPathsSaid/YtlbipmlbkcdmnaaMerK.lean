/-
  A puller: what lies in it; whether a path is a node of a kind.
-/
import Derived.Test.YtlbipmlbkcdmnaaMerJ
namespace Go.Proofs.Ytlbipmlbkcdmnaa
open Go.RowKit Go.Shelf

/-- What a puller was asked: its member, as far as it is read, and its options. -/
structure Req where
  name : List UInt8
  link : List UInt8
  kind : Int
  real : Int
  holes : Bool
  parts : Value
  data : Value
  root : List UInt8
  links : Bool
  replace : Bool

/-- What of a member's cells is nothing. -/
structure Rest (cs : Array Value) : Prop where
  c4 : cs[4]? = some (.int .i64 0)
  c5 : cs[5]? = some (.int .i64 0)
  c6 : cs[6]? = some (.int .i64 0)
  c7 : cs[7]? = some (.string ⟨#[]⟩)
  c8 : cs[8]? = some (.string ⟨#[]⟩)
  c9 : cs[9]? = some (.int .i64 0)
  c10 : cs[10]? = some (.int .i64 0)
  c11 : cs[11]? = some (.int .i64 0)
  c12 : cs[12]? = some (.int .i64 0)
  c13 : cs[13]? = some (.int .i64 0)
  c17 : cs[17]? = some (.slice none 0 0)

theorem Rest.set {cs : Array Value} (h : Rest cs) (i : Nat) (v : Value) (hi : i = 0 ∨ i = 22) : Rest (cs.setIfInBounds i v) := by
  obtain ⟨c4, c5, c6, c7, c8, c9, c10, c11, c12, c13, c17⟩ := h
  constructor
  all_goals
    rw [Array.getElem?_setIfInBounds_ne (by omega)]
    assumption

/-- Block P is a puller. -/
def PullAt (w : World) (P : Nat) (lv : Value) (path : List UInt8) (r : Req) : Prop :=
  ∃ cs : Array Value, w.heap[P]? = some (.cells cs 98 (0, 0)) ∧ cs[0]? = some lv ∧ cs[1]? = some (.string ⟨r.name.toArray⟩) ∧ cs[2]? = some (.string ⟨r.link.toArray⟩) ∧ cs[3]? = some (.int .u8 r.kind) ∧
    cs[14]? = some (.int .i64 r.real) ∧ cs[15]? = some (.bool r.holes) ∧ cs[16]? = some r.parts ∧ cs[18]? = some r.data ∧ cs[19]? = some (.string ⟨r.root.toArray⟩) ∧ cs[20]? = some (.bool r.links) ∧ cs[21]? = some (.bool r.replace) ∧ cs[22]? = some (.string ⟨path.toArray⟩) ∧ Rest cs

theorem PullAt.block {w w' : World} {P : Nat} {lv : Value} {path : List UInt8} {r : Req} (h : PullAt w P lv path r) (hb : w'.heap[P]? = w.heap[P]?) : PullAt w' P lv path r := by
  obtain ⟨cs, h1, h2⟩ := h
  exact ⟨cs, hb.trans h1, h2⟩
theorem PullAt.lt {w : World} {P : Nat} {lv : Value} {path : List UInt8} {r : Req} (h : PullAt w P lv path r) : P < w.heap.size := by
  obtain ⟨cs, h1, _⟩ := h
  exact (Array.getElem?_eq_some_iff.1 h1).1
theorem PullAt.below {w w' : World} {P : Nat} {lv : Value} {path : List UInt8} {r : Req} (h : PullAt w P lv path r) (hb : Below w.heap.size w w') : PullAt w' P lv path r := h.block (hb.block P h.lt)

theorem pull_cell {w : World} {P i : Nat} {cs : Array Value} {v : Value} (h : w.heap[P]? = some (.cells cs 98 (0, 0))) (hi : cs[i]? = some v) : w.cell? ⟨P, i, none⟩ = some v ∧ w.frozen? ⟨P, i, none⟩ = false := by
  unfold World.cell? World.frozen?
  dsimp only
  rw [h]
  exact ⟨by simpa using hi, rfl⟩

structure PullCells (w : World) (P : Nat) (lv : Value) (path : List UInt8) (r : Req) : Prop where
  row : w.cell? ⟨P, 0, none⟩ = some lv
  name : w.cell? ⟨P, 1, none⟩ = some (.string ⟨r.name.toArray⟩)
  link : w.cell? ⟨P, 2, none⟩ = some (.string ⟨r.link.toArray⟩)
  kind : w.cell? ⟨P, 3, none⟩ = some (.int .u8 r.kind)
  real : w.cell? ⟨P, 14, none⟩ = some (.int .i64 r.real)
  holes : w.cell? ⟨P, 15, none⟩ = some (.bool r.holes)
  parts : w.cell? ⟨P, 16, none⟩ = some r.parts
  data : w.cell? ⟨P, 18, none⟩ = some r.data
  root : w.cell? ⟨P, 19, none⟩ = some (.string ⟨r.root.toArray⟩)
  links : w.cell? ⟨P, 20, none⟩ = some (.bool r.links)
  replace : w.cell? ⟨P, 21, none⟩ = some (.bool r.replace)
  path : w.cell? ⟨P, 22, none⟩ = some (.string ⟨path.toArray⟩)

theorem PullAt.cells {w : World} {P : Nat} {lv : Value} {path : List UInt8} {r : Req} (h : PullAt w P lv path r) : PullCells w P lv path r := by
  obtain ⟨cs, h0, a0, a1, a2, a3, a14, a15, a16, a18, a19, a20, a21, a22, ar⟩ := h
  exact ⟨(pull_cell h0 a0).1, (pull_cell h0 a1).1, (pull_cell h0 a2).1, (pull_cell h0 a3).1, (pull_cell h0 a14).1, (pull_cell h0 a15).1, (pull_cell h0 a16).1, (pull_cell h0 a18).1, (pull_cell h0 a19).1, (pull_cell h0 a20).1, (pull_cell h0 a21).1, (pull_cell h0 a22).1⟩

/-- Its tree is exchanged. -/
theorem PullAt.setRow {w : World} {P : Nat} {lv : Value} {path : List UInt8} {r : Req} (h : PullAt w P lv path r) (v : Value) : PullAt (w.setCell ⟨P, 0, none⟩ v) P v path r := by
  obtain ⟨cs, h0, a0, a1, a2, a3, a14, a15, a16, a18, a19, a20, a21, a22, ar⟩ := h
  have hlt := (Array.getElem?_eq_some_iff.1 a0).1
  refine ⟨cs.setIfInBounds 0 v, heap_setCell_same _ P 0 _ 98 v h0, ?_, ?_, ?_, ?_, ?_, ?_, ?_, ?_, ?_, ?_, ?_, ?_, ar.set 0 v (.inl rfl)⟩
  all_goals first
    | (rw [Array.getElem?_setIfInBounds_ne (by decide)]; assumption)
    | simp [hlt]
/-- Its path is set. -/
theorem PullAt.setPath {w : World} {P : Nat} {lv : Value} {path : List UInt8} {r : Req} (h : PullAt w P lv path r) (p : List UInt8) : PullAt (w.setCell ⟨P, 22, none⟩ (.string ⟨p.toArray⟩)) P lv p r := by
  obtain ⟨cs, h0, a0, a1, a2, a3, a14, a15, a16, a18, a19, a20, a21, a22, ar⟩ := h
  have hlt := (Array.getElem?_eq_some_iff.1 a22).1
  refine ⟨cs.setIfInBounds 22 (.string ⟨p.toArray⟩), heap_setCell_same _ P 22 _ 98 _ h0, ?_, ?_, ?_, ?_, ?_, ?_, ?_, ?_, ?_, ?_, ?_, ?_, ar.set 22 _ (.inr rfl)⟩
  all_goals first
    | (rw [Array.getElem?_setIfInBounds_ne (by decide)]; assumption)
    | simp [hlt]

set_option maxRecDepth 100000 in
set_option maxHeartbeats 1000000 in
theorem is_any {w : World} {P : Nat} {lv : Value} {path : List UInt8} {r : Req} {ss : List Sn} (h : PullAt w P lv path r) (hR : RowOf w lv ss) (hs : Short ss) (p : List UInt8) (k : Int) :
    Calls Try.prog 84 #[.pointer (some ⟨P, 0, none⟩), .string ⟨p.toArray⟩, .int .u8 k] w fun e w' => e = .returned (.tuple #[.bool ((findL ss p).2 && (findL ss p).1.kind == k), .bool (findL ss p).2]) ∧ Below w.heap.size w w' := by
  have HF := find_row hR p hs
  have c0 := h.cells.row
  clear h hR
  generalize findL ss p = fd at HF ⊢
  obtain ⟨fs, fb⟩ := fd
  dsimp only at HF ⊢
  go_enter Try.func84, Try.ntmps84
  go_wp2_with fail
  refine HF.mono ?_
  rintro e w1 ⟨y, rfl, hy, hb1⟩
  have hk : y.kind = fs.kind := hy.2.1
  have HK := Lib.hid hk
  clear hk
  unfold Nd.cells
  cases fb with
  | false =>
    go_wp2_with fail
    go_ret2
    exact ⟨rfl, hb1.alloc hb1.size _⟩
  | true =>
    go_wp2_with fail
    go_ret2
    exact ⟨by rw [← HK.out]; simp, hb1.alloc hb1.size _⟩

end Go.Proofs.Ytlbipmlbkcdmnaa

/-
  A puller: the paths that a path begins with.
-/
namespace Go.Proofs.Ytlbipmlbkcdmnaa
open Go.RowKit Go.Shelf

/-- A slice of strings, in a block from B on, that reads as xs. -/
def StrRow (w : World) (B : Nat) (v : Value) (xs : List (List UInt8)) : Prop :=
  ∃ (A : Option Addr) (c : Nat), v = .slice A xs.length c ∧ ∀ (j : Nat) (x : List UInt8), xs[j]? = some x → ∃ g, A = some ⟨g, 0, none⟩ ∧ B ≤ g ∧ w.cell? ⟨g, j, none⟩ = some (.string ⟨x.toArray⟩)

theorem StrRow.below {w w' : World} {B : Nat} {v : Value} {xs : List (List UInt8)} (h : StrRow w B v xs) (hb : Below w.heap.size w w') : StrRow w' B v xs := by
  obtain ⟨A, c, rfl, h⟩ := h
  refine ⟨A, c, rfl, fun j x hx => ?_⟩
  obtain ⟨g, hA, hB, hc⟩ := h j x hx
  exact ⟨g, hA, hB, (hb.cell (World.block_lt_of_cell? w _ hc)).trans hc⟩
/-- While a block ahead of it is turned. -/
theorem StrRow.out {w w' : World} {B P : Nat} {v : Value} {xs : List (List UInt8)} (h : StrRow w B v xs) (hP : P < B) (ho : Out (· = P) w w') : StrRow w' B v xs := by
  obtain ⟨A, c, rfl, h⟩ := h
  refine ⟨A, c, rfl, fun j x hx => ?_⟩
  obtain ⟨g, hA, hB, hc⟩ := h j x hx
  exact ⟨g, hA, hB, (World.cell?_of_block (ho.block g (World.block_lt_of_cell? w _ hc) (by omega))).trans hc⟩

def upsF (root : List UInt8) : Nat → List UInt8 → List (List UInt8)
  | 0, _ => []
  | f + 1, a => if belowP root a then a :: upsF root f (upL a) else []

/-- pull's ahead. -/
def aheadL (root path : List UInt8) : List (List UInt8) := (upsF root (path.length + 1) (upL path)).reverse

theorem below_ne {root a : List UInt8} (h : belowP root a = true) : a ≠ [] := by
  intro e
  subst e
  unfold belowP Lib.hasPrefix at h
  cases root <;> simp at h

theorem up_short {a : List UInt8} (h : a ≠ []) : (upL a).length < a.length := by
  by_cases hu : upL a = []
  · rw [hu]
    exact List.length_pos_iff.2 h
  · obtain ⟨r, hr⟩ := up_parts a hu
    have : a.length = (upL a).length + (47 :: r).length := by
      have h1 := congrArg List.length hr
      rwa [List.length_append] at h1
    simp at this
    omega

def strLen : Value → Nat
  | .string b => b.size
  | _ => 0

theorem putRow_below {α : Type} [Inhabited α] {enc : α → Value} {w : World} {B g : Nat} {d : Array α} (h : B ≤ g) (n : Nat) : Below B w (Sort.putRow enc (Sort.ahead w n) g 0 d) :=
  ⟨rfl, rfl, rfl, by simp [Sort.putRow, Sort.mapBlock, Sort.ahead], fun k hk => by
    unfold Sort.putRow Sort.mapBlock Sort.ahead
    rw [Array.getElem?_modify, if_neg (by omega)]⟩

set_option maxRecDepth 100000 in
set_option maxHeartbeats 1000000 in
theorem ahead_any {w : World} {P : Nat} {lv : Value} {path0 : List UInt8} {r : Req} (h : PullAt w P lv path0 r) (hr : r.root.length ≤ 10000000000) (p : List UInt8) (hp : p.length ≤ 10000000000) :
    Calls Try.prog 85 #[.pointer (some ⟨P, 0, none⟩), .string ⟨p.toArray⟩] w fun e w' => ∃ v, e = .returned v ∧ StrRow w' w.heap.size v (aheadL r.root p) ∧ Below w.heap.size w w' := by
  obtain ⟨i0, hi, hz0, hz1, hz2⟩ := info_parts Try.info9
  have HU := fun w => up_any p (by omega) w
  have hul := upL_len p
  have HP := Lib.hid h
  have HA := Lib.hid (show aheadL r.root p = (upsF r.root (p.length + 1) (upL p)).reverse from rfl)
  clear h
  generalize aheadL r.root p = al at HA ⊢
  generalize upL p = a0 at HU HA hul
  go_enter Try.func85, Try.ntmps85
  go_wp2_with (go_at_call 19; refine (HU _).mono ?_; rintro e w2 ⟨rfl, hw2⟩; obtain rfl := hw2.symm)
  clear HU
  go_loopw [5, 6, 9, 10, 11, 12, 13, 14, 15, 16, 17, 18, 19, 20, 21] (fun v5 v6 _ _ _ _ _ _ _ _ _ _ _ _ _ wr => ∃ (xs : List (List UInt8)) (a : List UInt8) (f : Nat), v6 = .string ⟨a.toArray⟩ ∧ wr.ownsRow w.heap.size 9 1 v5 xs.length (xs.map encS) ∧ xs.length + f ≤ p.length + 1 ∧ a.length < f ∧ xs ++ upsF r.root f a = upsF r.root (p.length + 1) a0 ∧ Below w.heap.size w wr)
    (fun _ v6 _ _ _ _ _ _ _ _ _ _ _ _ _ _ => strLen v6)
  case atStart => exact ⟨[], a0, p.length + 1, rfl, World.ownsRow_nil _ _ _ _, by simp, by omega, rfl, Below.refl _ _⟩
  case round =>
    obtain ⟨xs, a, f, rfl, ho, hlen, haf, hups, hb⟩ := hrel
    have hPc := (HP.out.below hb).cells
    have c19 := hPc.root
    clear hPc
    have HB := fun w => belowP_any r.root a (by omega) w
    obtain ⟨A5, c5, rfl⟩ := own_form ho
    have HO := Lib.hid ho; have HBB := Lib.hid hb
    clear ho hb
    obtain ⟨f, rfl⟩ : ∃ f', f = f' + 1 := ⟨f - 1, by omega⟩
    rw [upsF] at hups
    cases hq : belowP r.root a with
    | true =>
      rw [hq] at HB hups
      rw [if_pos rfl] at hups
      have hne := below_ne hq
      have hsh := up_short hne
      have HU2 := fun w => up_any a (by omega) w
      have HUPS := Lib.hid hups
      clear hq hups
      generalize hau : upL a = au at HU2 hsh HUPS
      clear hau
      go_wp2_with (first
        | (go_at_call 77; refine (HB _).mono ?_; rintro e w4 ⟨rfl, hw4⟩; obtain rfl := hw4.symm)
        | (go_at_call 19; refine (HU2 _).mono ?_; rintro e w4 ⟨rfl, hw4⟩; obtain rfl := hw4.symm)
        | (at_builtin; refine wpList_append_own _ rfl _ _ 71 rfl w.heap.size 9 i0 (.string ⟨#[]⟩) 1 16 Try.underlying71 hi hz0 hz1 hz2 rfl (by decide) (.slice A5 xs.length c5) xs.length (xs.map encS) rfl (HO.out.alloc _) ⟨_, 0, none⟩ 1 1 [encS a] rfl rfl (cells_new _ #[encS a] 9) (encS_one a) (by unfold maxLen; omega) (by omega) (by have := HBB.out.size; simp; omega) ?_; intro v' w3 hown3 hgrow3 _; obtain ⟨A6, c6, rfl⟩ := own_form hown3; have hb3 := (HBB.out.alloc HBB.out.size _).grown hgrow3 (by have := HBB.out.size; simp; omega) (fun j e => own_from HO.out j e)))
      go_roundw
      case rel => exact ⟨xs ++ [a], au, f, rfl, by simpa using hown3, by simp; omega, by omega, by rw [← HUPS.out, List.append_assoc]; rfl, hb3⟩
      case measure => exact hsh
    | false =>
      rw [hq] at HB hups
      rw [if_neg (by decide), List.append_nil] at hups
      have HAL := Lib.hid (show al = xs.reverse by rw [HA.out, hups])
      clear hq hups HA
      have HO2 := HO.out.2
      rcases HO2 with ⟨hv, h0⟩ | ⟨g, cap, cur, hv, hgb, hg, _⟩
      · have hx : xs = [] := List.eq_nil_of_length_eq_zero h0
        subst hx
        go_wp2_with (go_at_call 77; refine (HB _).mono ?_; rintro e w4 ⟨rfl, hw4⟩; obtain rfl := hw4.symm)
        refine (Try.slices_Reverse_string_empty _ _ _).mono ?_
        rintro e w4 ⟨rfl, hw4⟩
        obtain rfl := hw4.symm
        go_wp2_with fail
        go_ret
        exact ⟨_, rfl, ⟨_, _, by rw [HAL.out]; rfl, fun j x hx => by rw [HAL.out] at hx; simp at hx⟩, HBB.out⟩
      · injection hv with hv1 hv2 hv3
        subst hv1
        obtain rfl := hv3
        clear hv2
        have hH : Sort.Holds encStr wr g 0 xs.toArray := fun j hj => by
          have hj' : j < xs.length := by simpa using hj
          have h1 := HO.out.cells (g := g) rfl j (encS xs[j]) (by simp [hj'])
          rw [Addr.add_lit] at h1
          refine ⟨?_, ?_⟩
          · rw [h1, getElem!_pos _ j (by simpa using hj)]
            rfl
          · exact HO.out.frozenAt _
        have HRV := Try.slices_Reverse_string g 0 c5 xs wr hH (by omega)
        have HH := Lib.hid hH
        clear hH
        go_wp2_with (go_at_call 77; refine (HB _).mono ?_; rintro e w4 ⟨rfl, hw4⟩; obtain rfl := hw4.symm)
        refine HRV.mono ?_
        rintro e w5 ⟨rfl, m, hw5⟩
        have hb5 : Below w.heap.size wr w5 := by rw [hw5]; exact putRow_below hgb m
        have hrow : StrRow w5 w.heap.size (.slice (some ⟨g, 0, none⟩) xs.length c5) al := by
          rw [HAL.out]
          refine ⟨_, c5, by rw [List.length_reverse], fun j x hx => ⟨g, rfl, hgb, ?_⟩⟩
          have hj := (List.getElem?_eq_some_iff.1 hx).1
          have hH2 : Sort.Holds encStr (Sort.ahead wr m) g 0 xs.toArray := fun j hj => HH.out j hj
          have h2 := Sort.cell?_putRow encStr (Sort.ahead wr m) g 0 xs.toArray xs.reverse.toArray hH2 (by simp) j (by simpa using hj)
          rw [Nat.zero_add] at h2
          rw [hw5, h2, getElem!_pos _ j (by simpa using hj)]
          have h3 : xs.reverse.toArray[j]'(by simpa using hj) = x := by
            rw [List.getElem?_eq_getElem hj] at hx
            simpa using hx
          rw [h3]
        clear hw5
        go_wp2_with fail
        go_ret
        exact ⟨_, rfl, hrow, HBB.out.trans hb5⟩

end Go.Proofs.Ytlbipmlbkcdmnaa

/-
  Trees of a puller's own: they stay while the puller is turned.
-/
namespace Go.Proofs.Ytlbipmlbkcdmnaa
open Go.RowKit Go.Shelf

/-- A slice of nodes of one's own, their bytes too, from block B on, that reads as ss. -/
def RowOwn (w : World) (B : Nat) (v : Value) (ss : List Sn) : Prop :=
  ∃ (m : Nat) (ms : List Nd), w.ownsRow B 31 4 v m (cellsOf ms) ∧ LikeO w B ms ss

theorem RowOwn.row {w : World} {B : Nat} {v : Value} {ss : List Sn} (h : RowOwn w B v ss) : RowOf w v ss := by
  obtain ⟨m, ms, h1, h2⟩ := h
  exact row_of_own h1 h2.like
theorem RowOwn.below {w w' : World} {B : Nat} {v : Value} {ss : List Sn} (h : RowOwn w B v ss) (hb : Below w.heap.size w w') : RowOwn w' B v ss := by
  obtain ⟨m, ms, h1, h2⟩ := h
  exact ⟨m, ms, own_below h1 hb, h2.below hb⟩
theorem RowOwn.wider {w : World} {B B' : Nat} {v : Value} {ss : List Sn} (h : RowOwn w B v ss) (hB : B' ≤ B) : RowOwn w B' v ss := by
  obtain ⟨m, ms, h1, h2⟩ := h
  exact ⟨m, ms, own_wider h1 hB, h2.1, fun j x s hx hs => (h2.2 j x s hx hs).wider hB⟩
/-- While a puller's block is turned. -/
theorem RowOwn.other {w w' : World} {B P : Nat} {v : Value} {ss : List Sn} (h : RowOwn w B v ss) {cs : Array Value} {f : Nat × Nat} (hP : w.heap[P]? = some (.cells cs 98 f)) (hk : ∀ k, k < w.heap.size → k ≠ P → w'.heap[k]? = w.heap[k]?) : RowOwn w' B v ss := by
  obtain ⟨m, ms, h1, h2⟩ := h
  refine ⟨m, ms, own_other h1 hP (by decide) hk, h2.1, fun j x s hx hs => ?_⟩
  obtain ⟨a, b, c, d, e⟩ := h2.2 j x s hx hs
  exact ⟨a, b, c, own_other d hP (by decide) hk, e⟩

theorem put_own {w : World} {v : Value} {ss : List Sn} (h : RowOf w v ss) (x : Nd) (s : Sn) (hx : NdAt w x s) (hs : Short ss) :
    Calls Try.prog 26 #[v, .agg x.cells.toArray] w fun e w' => ∃ v', e = .returned v' ∧ RowOwn w' w.heap.size v' (putG Sn.path s ss) ∧ Below w.heap.size w w' := by
  obtain ⟨A, c, ms, rfl, h1, h2, h3⟩ := h
  refine (put_any x s h1 h2 hx h2.1.symm hs.1 h3).mono ?_
  rintro e w' ⟨v, m, ms', rfl, ho, hL, hb⟩
  exact ⟨v, rfl, ⟨m, ms', ho, hL⟩, hb⟩

theorem remove_own {w : World} {v : Value} {ss : List Sn} (h : RowOf w v ss) (p : List UInt8) (hp : p.length ≤ 4000000000000) (hs : Short ss) :
    Calls Try.prog 28 #[v, .string ⟨p.toArray⟩] w fun e w' => ∃ v', e = .returned v' ∧ RowOwn w' w.heap.size v' (goneL p ss) ∧ Below w.heap.size w w' := by
  obtain ⟨A, c, ms, rfl, h1, h2, h3⟩ := h
  refine (remove_any p hp h1 h2 h2.1.symm (by have := hs.1; omega) h3).mono ?_
  rintro e w' ⟨v, m, ms', rfl, ho, hL, hb⟩
  exact ⟨v, rfl, ⟨m, ms', ho, hL⟩, hb⟩

theorem below_own {w : World} {v : Value} {ss : List Sn} (h : RowOf w v ss) (p : List UInt8) (hp : p.length ≤ 4000000000000) (hs : Short ss) :
    Calls Try.prog 34 #[v, .string ⟨p.toArray⟩] w fun e w' => ∃ v', e = .returned v' ∧ RowOwn w' w.heap.size v' (belowS p ss) ∧ Below w.heap.size w w' := by
  obtain ⟨A, c, ms, rfl, h1, h2, h3⟩ := h
  refine (below_any p hp h1 h2 h2.1.symm (by have := hs.1; omega) h3).mono ?_
  rintro e w' ⟨v, m, ms', rfl, ho, hL, hb⟩
  exact ⟨v, rfl, ⟨m, ms', ho, hL⟩, hb⟩

/-- Directories ahead, where there are none; then the node. -/
def layDir (ss : List Sn) (a : List UInt8) : List Sn := if (findL ss a).2 then ss else putG Sn.path ⟨a, 53, [], []⟩ ss
def layL (root : List UInt8) (s : Sn) (ss : List Sn) : List Sn := putG Sn.path s (goneL s.path ((aheadL root s.path).foldl layDir ss))

/-- The puller's tree is exchanged: a world in which nothing else of what was there is turned. -/
theorem pull_store {w : World} {P B : Nat} {lv : Value} {path : List UInt8} {r : Req} {v : Value} {ss : List Sn} (h : PullAt w P lv path r) (hR : RowOwn w B v ss) :
    PullAt (w.setCell ⟨P, 0, none⟩ v) P v path r ∧ RowOwn (w.setCell ⟨P, 0, none⟩ v) B v ss := by
  refine ⟨h.setRow v, ?_⟩
  obtain ⟨cs, h0, _⟩ := h
  exact hR.other h0 fun k _ hk => Below.heap_setCell _ _ _ _ hk

end Go.Proofs.Ytlbipmlbkcdmnaa

/-
  Laying a node: bounds.
-/
namespace Go.Proofs.Ytlbipmlbkcdmnaa
open Go.RowKit Go.Shelf

theorem upsF_short (root : List UInt8) : ∀ (f : Nat) (a : List UInt8), (upsF root f a).length ≤ f ∧ ∀ x ∈ upsF root f a, x.length ≤ a.length
  | 0, a => by simp [upsF]
  | f + 1, a => by
    obtain ⟨h1, h2⟩ := upsF_short root f (upL a)
    rw [upsF]
    split
    · refine ⟨by simp; omega, fun x hx => ?_⟩
      rcases List.mem_cons.1 hx with rfl | hx
      · exact Nat.le_refl _
      · have := h2 x hx
        have := upL_len a
        omega
    · simp

theorem ahead_short (root p : List UInt8) : (aheadL root p).length ≤ p.length + 1 ∧ ∀ x ∈ aheadL root p, x.length ≤ p.length := by
  unfold aheadL
  obtain ⟨h1, h2⟩ := upsF_short root (p.length + 1) (upL p)
  refine ⟨by rw [List.length_reverse]; exact h1, fun x hx => ?_⟩
  have := h2 x (List.mem_reverse.1 hx)
  have := upL_len p
  omega

theorem layDir_len (ss : List Sn) (a : List UInt8) : (layDir ss a).length ≤ ss.length + 1 := by
  unfold layDir
  split
  · omega
  · exact putG_len _ _ _

theorem layDir_paths {ss : List Sn} {a : List UInt8} {m : Nat} (ha : a.length ≤ m) (h : ∀ s ∈ ss, s.path.length ≤ m) : ∀ s ∈ layDir ss a, s.path.length ≤ m := by
  unfold layDir
  split
  · exact h
  · exact putG_bound ha h

theorem layDirs_short {m : Nat} : ∀ (al : List (List UInt8)) (ss : List Sn), (∀ a ∈ al, a.length ≤ m) → (∀ s ∈ ss, s.path.length ≤ m) →
    (al.foldl layDir ss).length ≤ ss.length + al.length ∧ ∀ s ∈ al.foldl layDir ss, s.path.length ≤ m
  | [], ss, _, h => ⟨by simp, h⟩
  | a :: r, ss, ha, h => by
    obtain ⟨h1, h2⟩ := layDirs_short r (layDir ss a) (fun x hx => ha x (List.mem_cons_of_mem _ hx)) (layDir_paths (ha a (by simp)) h)
    have := layDir_len ss a
    exact ⟨by simp only [List.foldl_cons, List.length_cons]; omega, h2⟩

theorem foldl_take {α β : Type} (f : α → β → α) (a : α) (l : List β) {k : Nat} {x : β} (h : l[k]? = some x) : (l.take (k + 1)).foldl f a = f ((l.take k).foldl f a) x := by
  rw [List.take_add_one, h, List.foldl_append]
  rfl

end Go.Proofs.Ytlbipmlbkcdmnaa
