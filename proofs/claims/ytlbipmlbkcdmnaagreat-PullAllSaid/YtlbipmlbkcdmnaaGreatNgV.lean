/-
  The document's answer for pull: what a member is, of a path.
-/
import Derived.Test.YtlbipmlbkcdmnaaGreatMerS
import Derived.Test.YtlbipmlbkcdmnaaGreatBpV
namespace Go.Proofs.YtlbipmlbkcdmnaaGreat
open Go.RowKit Go.Shelf

/-- While a node is made: the member, the options, the result's place, the node's. -/
structure NodeSt (w W : World) (bm bo bz bn : Nat) (m : Mem) (pv dv : Value) (o : Opt) (y : Nd) : Prop where
  M : W.heap[bm]? = some (.cells (memCells m pv dv).toArray 32 (0, 0))
  O : W.heap[bo]? = some (.cells (optCells o).toArray 40 (0, 0))
  Z : W.heap[bz]? = some (.cells #[.string ⟨#[]⟩, .int .u8 0, .slice none 0 0, .string ⟨#[]⟩] 49 (0, 0))
  N : W.heap[bn]? = some (.cells #[.string ⟨y.path.toArray⟩, .int .u8 y.kind, .slice y.adr y.len y.cap, .string ⟨y.link.toArray⟩] 49 (0, 0))
  lt : w.heap.size ≤ bm ∧ w.heap.size ≤ bo ∧ w.heap.size ≤ bz ∧ w.heap.size ≤ bn ∧ bn ≠ bm ∧ bn ≠ bo ∧ bn ≠ bz
  B : Below w.heap.size w W

theorem NodeSt.below {w W W' : World} {bm bo bz bn : Nat} {m : Mem} {pv dv : Value} {o : Opt} {y : Nd} (h : NodeSt w W bm bo bz bn m pv dv o y) (hb : Below W.heap.size W W') : NodeSt w W' bm bo bz bn m pv dv o y :=
  ⟨(hb.block _ (Array.getElem?_eq_some_iff.1 h.M).1).trans h.M, (hb.block _ (Array.getElem?_eq_some_iff.1 h.O).1).trans h.O, (hb.block _ (Array.getElem?_eq_some_iff.1 h.Z).1).trans h.Z, (hb.block _ (Array.getElem?_eq_some_iff.1 h.N).1).trans h.N, h.lt, h.B.trans (hb.mono h.B.size)⟩

theorem NodeSt.put {w W : World} {bm bo bz bn : Nat} {m : Mem} {pv dv : Value} {o : Opt} {y : Nd} (h : NodeSt w W bm bo bz bn m pv dv o y) (j : Nat) (v : Value) (y' : Nd)
    (hy : (#[.string ⟨y.path.toArray⟩, .int .u8 y.kind, .slice y.adr y.len y.cap, .string ⟨y.link.toArray⟩] : Array Value).setIfInBounds j v = #[.string ⟨y'.path.toArray⟩, .int .u8 y'.kind, .slice y'.adr y'.len y'.cap, .string ⟨y'.link.toArray⟩]) :
    NodeSt w (W.setCell ⟨bn, j, none⟩ v) bm bo bz bn m pv dv o y' := by
  obtain ⟨l0, l1, l2, l3, l4, l5, l6⟩ := h.lt
  have hN := heap_setCell_same W bn j _ 49 v h.N
  rw [hy] at hN
  refine ⟨(Below.heap_setCell _ _ _ _ (Ne.symm l4)).trans h.M, (Below.heap_setCell _ _ _ _ (Ne.symm l5)).trans h.O, (Below.heap_setCell _ _ _ _ (Ne.symm l6)).trans h.Z, hN, h.lt, ?_⟩
  exact h.B.setCell (p := ⟨bn, j, none⟩) l3 v

theorem NodeSt.frz {w W : World} {bm bo bz bn : Nat} {m : Mem} {pv dv : Value} {o : Opt} {y : Nd} (h : NodeSt w W bm bo bz bn m pv dv o y) (j : Nat) : W.frozen? ⟨bn, j, none⟩ = false := by
  unfold World.frozen?
  dsimp only
  rw [h.N]
  rfl

theorem NodeSt.mem {w W : World} {bm bo bz bn : Nat} {m : Mem} {pv dv : Value} {o : Opt} {y : Nd} (h : NodeSt w W bm bo bz bn m pv dv o y) (j : Nat) (v : Value) (hj : (memCells m pv dv)[j]? = some v) : W.cell? ⟨bm, j, none⟩ = some v := by
  have := row_cells h.M j v hj
  rwa [Addr.add_lit, Nat.zero_add] at this
theorem NodeSt.opt {w W : World} {bm bo bz bn : Nat} {m : Mem} {pv dv : Value} {o : Opt} {y : Nd} (h : NodeSt w W bm bo bz bn m pv dv o y) (j : Nat) (v : Value) (hj : (optCells o)[j]? = some v) : W.cell? ⟨bo, j, none⟩ = some v := by
  have := row_cells h.O j v hj
  rwa [Addr.add_lit, Nat.zero_add] at this

theorem RowOf.setNode {w W : World} {bm bo bz bn : Nat} {m : Mem} {pv dv : Value} {o : Opt} {y : Nd} {v0 : Value} {ss : List Sn} (h0 : RowOf w v0 ss) (h : NodeSt w W bm bo bz bn m pv dv o y) (j : Nat) (v : Value) : RowOf (W.setCell ⟨bn, j, none⟩ v) v0 ss :=
  h0.below (h.B.setCell (p := ⟨bn, j, none⟩) h.lt.2.2.2.1 v)

theorem size49 : ∃ i, Tryz.prog.info? 49 = some i ∧ i.size = 4 := size_of (by kernel_rfl)
theorem agg49 (w : World) : (isAgg 49).run Tryz.prog w = .ok true w := by simp [isAgg, run_underlying Tryz.underlying49]
theorem nd_one (y : Nd) : ∀ v ∈ [Value.string ⟨y.path.toArray⟩, .int .u8 y.kind, .slice y.adr y.len y.cap, .string ⟨y.link.toArray⟩], v.oneCell' = true := by
  intro v hv
  simp only [List.mem_cons, List.not_mem_nil, or_false] at hv
  rcases hv with rfl | rfl | rfl | rfl <;> rfl
theorem setRow_below {w : World} {B g : Nat} (cs : Array Value) (h : B ≤ g) : Below B w (w.setRow g cs) :=
  ⟨rfl, rfl, rfl, by simp [World.setRow], fun k hk => setRow_other w g k cs (by omega)⟩

set_option maxRecDepth 100000 in
set_option maxHeartbeats 4000000 in
theorem refFind_from {w w0 : World} {A : Option Addr} {n c : Nat} {ns : List Nd} {ss : List Sn} (s : List UInt8) (h : Nodes w A ns) (hL : Like w0 ns ss) (hl : n = ns.length) (hn : n ≤ 1000000000000) :
    Calls Tryz.prog 17 #[.slice A n c, .string ⟨s.toArray⟩] w fun e w' => ∃ y : Nd, e = .returned (.tuple #[.agg y.cells.toArray, .bool (findL ss s).2]) ∧ NdAt w0 y (findL ss s).1 ∧ Below w.heap.size w w' := by
  have hk := heap_alloc_new w (.cells #[.string ⟨#[]⟩, .int .u8 0, .slice none 0 0, .string ⟨#[]⟩] 49)
  have hA : Below w.heap.size w (w.alloc (.cells #[.string ⟨#[]⟩, .int .u8 0, .slice none 0 0, .string ⟨#[]⟩] 49)) := (Below.refl _ w).alloc (Nat.le_refl _) _
  have hZ : ∀ W t, NdAt W ⟨[], t, none, 0, 0, []⟩ ⟨[], t, [], []⟩ := fun W t => ⟨rfl, rfl, rfl, ⟨rfl, fun j hj => absurd hj (Nat.not_lt_zero _)⟩, Nat.le_refl _, by simp⟩
  by_cases hs : s = []
  · subst hs
    have hk5 := heap_alloc_new w (.cells #[.string ⟨#[]⟩, .int .u8 53, .slice none 0 0, .string ⟨#[]⟩] 49)
    obtain ⟨d0, d1, d2, d3⟩ := node_cells hk5
    clear h hL hl
    go_enter Tryz.func17, Tryz.ntmps17
    go_wp2_with fail
    refine bodyPost_ret (v := .tuple #[.agg #[.string ⟨#[]⟩, .int .u8 53, .slice none 0 0, .string ⟨#[]⟩], .bool true]) ?_ rfl ⟨⟨[], 53, none, 0, 0, []⟩, rfl, hZ _ 53, (Below.refl _ w).alloc (Nat.le_refl _) _⟩
    simp [results, Tryz.f17, go_sem, d0, d1, d2, d3]
  · have hes : s.isEmpty = false := emp hs
    have HL := Lib.hid hl
    have HLK := Lib.hid hL
    have HN := h.below hA
    clear h hL hl
    go_enter Tryz.func17, Tryz.ntmps17
    go_wp2_with fail
    go_loopw [6, 10, 11, 12, 13, 14, 15, 16, 17, 18, 19, 20, 21, 22] (fun i _ _ _ _ _ _ _ _ _ _ _ _ _ wr => ∃ k : Nat, k ≤ n ∧ i = .int .i64 k ∧ wr = w.alloc (.cells #[.string ⟨#[]⟩, .int .u8 0, .slice none 0 0, .string ⟨#[]⟩] 49) ∧ ∀ (j : Nat) (x : Nd), j < k → ns[j]? = some x → (x.path == s) = false)
      (fun i _ _ _ _ _ _ _ _ _ _ _ _ _ _ => n - (intOf i).toNat)
    case atStart => exact ⟨0, Nat.zero_le _, rfl, rfl, fun j x hj => absurd hj (Nat.not_lt_zero _)⟩
    case round =>
      obtain ⟨k, hkn, rfl, rfl, hf⟩ := hrel
      by_cases hlt : k < n
      · have hkz : (k : Int) < (n : Int) := by omega
        obtain ⟨x, hx⟩ : ∃ x, ns[k]? = some x := ⟨_, List.getElem?_eq_getElem (by have := HL.out; omega)⟩
        rcases HN with rfl | ⟨b, off, rfl, hbl, hc⟩
        · simp at hx
        obtain ⟨y0, y1, y2, y3⟩ := hc k x hx
        clear hc
        have HF := Lib.hid hf; clear hf
        have HX := Lib.hid hx; clear hx
        cases hq : (x.path == s) with
        | true =>
          have hfi : Idx (fun x => x.path == s) ns (k : Int) := .inr ⟨k, rfl, ⟨x, HX.out, hq⟩, HF.out⟩
          obtain ⟨t, hxt, hfd⟩ : ∃ t, NdAt w0 x t ∧ findL ss s = (t, true) := by
            rcases idx_find HLK.out hfi with ⟨h1, _⟩ | ⟨k', x', t, h1, h2, h3, h4⟩
            · omega
            · obtain rfl : k' = k := by omega
              cases HX.out.symm.trans h2
              exact ⟨t, h3, by unfold findL; rw [if_neg hs, h4]⟩
          clear hfi
          have hq2 : s = x.path := (show x.path = s by simpa using hq).symm
          clear hq HF
          subst hq2
          have hk5 := heap_alloc_new w (.cells #[.string ⟨x.path.toArray⟩, .int .u8 x.kind, .slice x.adr x.len x.cap, .string ⟨x.link.toArray⟩] 49)
          obtain ⟨d0, d1, d2, d3⟩ := node_cells hk5
          have hq3 : (x.path == x.path) = true := by simp
          go_wp2_with fail
          rw [hfd]
          have hB2 : Below w.heap.size w (w.alloc (.cells #[.string ⟨x.path.toArray⟩, .int .u8 x.kind, .slice x.adr x.len x.cap, .string ⟨x.link.toArray⟩] 49)) := (Below.refl _ w).alloc (Nat.le_refl _) _
          refine bodyPost_ret (v := .tuple #[.agg #[.string ⟨x.path.toArray⟩, .int .u8 x.kind, .slice x.adr x.len x.cap, .string ⟨x.link.toArray⟩], .bool true]) ?_ rfl ⟨x, rfl, hxt, hB2⟩
          simp [results, Tryz.f17, go_sem, d0, d1, d2, d3]
        | false =>
          have hq2 : ¬ x.path = s := by simpa using hq
          have HQ := Lib.hid hq
          go_wp2_with fail
          go_roundw
          case rel =>
            refine ⟨k + 1, by omega, by go_num, by first | rfl | trivial, fun j y hj hy => ?_⟩
            by_cases hjk : j = k
            · subst hjk
              cases HX.out.symm.trans hy
              exact HQ.out
            · exact HF.out j y (by omega) hy
          case measure => simp [intOf]; omega
      · obtain rfl : k = n := by omega
        go_wp2_with fail
        have hfd : findL ss s = (⟨[], 0, [], []⟩, false) := by
          have hfi : Idx (fun x => x.path == s) ns (-1) := .inl ⟨rfl, fun j x hx => hf j x (by have := (List.getElem?_eq_some_iff.1 hx).1; rw [HL.out]; exact this) hx⟩
          rcases idx_find HLK.out hfi with ⟨_, h1⟩ | ⟨k', x', t, h1, _⟩
          · unfold findL; rw [if_neg hs, h1]
          · omega
        rw [hfd]
        obtain ⟨d0, d1, d2, d3⟩ := node_cells hk
        refine bodyPost_ret (v := .tuple #[.agg #[.string ⟨#[]⟩, .int .u8 0, .slice none 0 0, .string ⟨#[]⟩], .bool false]) ?_ rfl ⟨⟨[], 0, none, 0, 0, []⟩, rfl, hZ _ 0, hA⟩
        simp [results, Tryz.f17, go_sem, d0, d1, d2, d3]

set_option maxRecDepth 100000 in
set_option maxHeartbeats 8000000 in
theorem refNode_any {w : World} {v : Value} {ss : List Sn} {m : Mem} {pv dv : Value} {o : Opt} {p : List UInt8} (h : RowOf w v ss) (hM : MemOk w m pv dv) (hF : FitsM o m) (hS : FitsS ss) (hk : m.kind = 48 ∨ m.kind = 50 ∨ m.kind = 49) (hp : p.length ≤ 1000000) :
    Calls Tryz.prog 41 #[v, .agg (memCells m pv dv).toArray, .agg (optCells o).toArray, .string ⟨p.toArray⟩] w fun e w' => ∃ y : Nd, e = .returned (.tuple #[.agg y.cells.toArray, .int .i64 (nodeC o ss m p)]) ∧ (nodeC o ss m p = 0 → NdAt w' y (nodeV o ss m p)) ∧ Below w.heap.size w w' := by
  have hSh : Short ss := ⟨by have := hS.1; omega, fun s hs => by have := hS.2 s hs; omega⟩
  obtain ⟨i32, hi32, hz32⟩ := size56
  obtain ⟨i40, hi40, hz40⟩ := size62
  obtain ⟨i49, hi49, hz49⟩ := size49
  have hr1 := hF.root
  have hr2 := hF.link
  have h1 := heap_alloc_new w (.cells (memCells m pv dv).toArray 32)
  have hb1 : Below w.heap.size w (w.alloc (.cells (memCells m pv dv).toArray 32)) := (Below.refl _ _).alloc (Nat.le_refl _) _
  have hs1 : (w.alloc (.cells (memCells m pv dv).toArray 32)).heap.size = w.heap.size + 1 := by simp
  generalize hw1 : w.alloc (.cells (memCells m pv dv).toArray 32) = w1 at h1 hb1 hs1
  have h2 := heap_alloc_new w1 (.cells (optCells o).toArray 40)
  have hb2 : Below w1.heap.size w1 (w1.alloc (.cells (optCells o).toArray 40)) := (Below.refl _ _).alloc (Nat.le_refl _) _
  have hs2 : (w1.alloc (.cells (optCells o).toArray 40)).heap.size = w1.heap.size + 1 := by simp
  generalize hw2 : w1.alloc (.cells (optCells o).toArray 40) = w2 at h2 hb2 hs2
  have h3 := heap_alloc_new w2 (.cells #[.string ⟨#[]⟩, .int .u8 0, .slice none 0 0, .string ⟨#[]⟩] 49)
  have hb3 : Below w2.heap.size w2 (w2.alloc (.cells #[.string ⟨#[]⟩, .int .u8 0, .slice none 0 0, .string ⟨#[]⟩] 49)) := (Below.refl _ _).alloc (Nat.le_refl _) _
  have hs3 : (w2.alloc (.cells #[.string ⟨#[]⟩, .int .u8 0, .slice none 0 0, .string ⟨#[]⟩] 49)).heap.size = w2.heap.size + 1 := by simp
  generalize hw3 : w2.alloc (.cells #[.string ⟨#[]⟩, .int .u8 0, .slice none 0 0, .string ⟨#[]⟩] 49) = w3 at h3 hb3 hs3
  have h4 := heap_alloc_new w3 (.cells #[.string ⟨p.toArray⟩, .int .u8 m.kind, .slice none 0 0, .string ⟨#[]⟩] 49)
  have hb4 : Below w3.heap.size w3 (w3.alloc (.cells #[.string ⟨p.toArray⟩, .int .u8 m.kind, .slice none 0 0, .string ⟨#[]⟩] 49)) := (Below.refl _ _).alloc (Nat.le_refl _) _
  have c2 : w3.cell? ⟨w.heap.size, 2, none⟩ = some (.int .u8 m.kind) := by
    have := row_cells ((hb3.block _ (by omega)).trans ((hb2.block _ (by omega)).trans h1)) 2 (.int .u8 m.kind) rfl
    rwa [Addr.add_lit, Nat.zero_add] at this
  have hst : NodeSt w (w3.alloc (.cells #[.string ⟨p.toArray⟩, .int .u8 m.kind, .slice none 0 0, .string ⟨#[]⟩] 49)) w.heap.size w1.heap.size w2.heap.size w3.heap.size m pv dv o ⟨p, m.kind, none, 0, 0, []⟩ :=
    ⟨(hb4.block _ (by omega)).trans ((hb3.block _ (by omega)).trans ((hb2.block _ (by omega)).trans h1)), (hb4.block _ (by omega)).trans ((hb3.block _ (by omega)).trans h2), (hb4.block _ (by omega)).trans h3, h4, by omega,
      hb1.trans ((hb2.trans ((hb3.trans (hb4.mono hb3.size)).mono hb2.size)).mono hb1.size)⟩
  have HST := Lib.hid hst
  have HR := Lib.hid (h.below hst.B)
  have HR0 := Lib.hid h
  have HM0 := Lib.hid hM
  have hbn : w3.heap.size < (w3.alloc (.cells #[.string ⟨p.toArray⟩, .int .u8 m.kind, .slice none 0 0, .string ⟨#[]⟩] 49)).heap.size ∧ w2.heap.size < (w3.alloc (.cells #[.string ⟨p.toArray⟩, .int .u8 m.kind, .slice none 0 0, .string ⟨#[]⟩] 49)).heap.size := by simp; omega
  have HBN := Lib.hid hbn
  clear hbn
  have HM := Lib.hid (hM.below hst.B)
  have HI32 := Lib.hid hi32
  have HZ32 := Lib.hid hz32
  have HI40 := Lib.hid hi40
  have HZ40 := Lib.hid hz40
  have HI49 := Lib.hid hi49
  have HZ49 := Lib.hid hz49
  have HD := Lib.hid (show nodeC o ss m p = if nodeB o ss m p = 0 then thereE ss p o else nodeB o ss m p from rfl)
  have HNB := Lib.hid (show nodeB o ss m p = (if m.kind = 48 then fileC m else if m.kind = 50 then (if (targetV o.root p m.link).2 = true then 0 else 64) else (if hardO o ss m p = true then 0 else 64)) from rfl)
  have HNS := Lib.hid (show nodeV o ss m p = (if m.kind = 48 then ⟨p, 48, fileD m, []⟩ else if m.kind = 50 then ⟨p, 50, [], m.link⟩ else ⟨p, 48, (findL ss (whereV o.root m.link).1).1.data, []⟩) from rfl)
  clear hi32 hz32 hi40 hz40 hi49 hz49 h1 hb1 h2 hb2 h3 hb3 h4 hb4 hst h hM hs1 hs2 hs3
  generalize nodeB o ss m p = nb at HD HNB
  generalize nodeC o ss m p = nc at HD ⊢
  generalize nodeV o ss m p = ns at HNS ⊢
  go_enter Tryz.func41, Tryz.ntmps41
  go_upto_region 2 with fail
  generalize w3.alloc (.cells #[.string ⟨p.toArray⟩, .int .u8 m.kind, .slice none 0 0, .string ⟨#[]⟩] 49) = w4 at HST HR HM HBN ⊢
  clear hw1 hw2 hw3 c2
  generalize w1.heap.size = bo at HST ⊢
  generalize w2.heap.size = bz at HST HBN ⊢
  generalize w3.heap.size = bn at HST HBN ⊢
  generalize hbm : w.heap.size = bm at HST ⊢
  have HBM := Lib.hid hbm
  clear hbm
  have c2 := HST.out.mem 2 (.int .u8 m.kind) rfl
  rcases hk with hk | hk | hk
  · have HNS2 := Lib.hid (show ns = ⟨p, 48, fileD m, []⟩ by rw [HNS.out, if_pos hk])
    have HNB2 := Lib.hid (show nb = fileC m by rw [HNB.out, if_pos hk])
    rw [hk] at c2 HST
    have HKK := Lib.hid hk
    clear hk HNS HNB
    go_upto_region 11 with fail
    apply wp_region_lit
    refine wpList_load_row 32 _ i32 ⟨bm, 0, none⟩ (memCells m pv dv) HI32.out HZ32.out (agg56 _) rfl (row_cells HST.out.M) ?_
    go_wp2_with fail
    refine (refFile_any HM.out).mono ?_
    rintro e w5 ⟨fA, fn, fc', rfl, hfd, hb5⟩
    have HS5 := Lib.hid (HST.out.below hb5)
    have HR5 := Lib.hid (HR.out.below hb5)
    have HFD := Lib.hid hfd
    have HB45 := Lib.hid hb5
    have q2 := (node_cells HS5.out.N).2.2.1
    have q3 := HS5.out.frz 2
    clear c2 hfd hb5
    rw [← HNB2.out]
    go_upto_region 19 with fail
    have HS6 := Lib.hid (HS5.out.put 2 (.slice fA fn fc') ⟨p, 48, fA, fn, fc', []⟩ rfl)
    have HR6 := Lib.hid (HR0.out.setNode HS5.out 2 (.slice fA fn fc'))
    have HNO := Lib.hid (show nb = 0 → ∀ Wf, Below w.heap.size w Wf → (∀ g, w4.heap.size ≤ g → g < (w5.setCell ⟨bn, 2, none⟩ (.slice fA fn fc')).heap.size → Wf.heap[g]? = (w5.setCell ⟨bn, 2, none⟩ (.slice fA fn fc')).heap[g]?) → NdAt Wf ⟨p, 48, fA, fn, fc', []⟩ ns from fun h0 Wf hWf hg => by
      rw [HNS2.out]
      rcases HFD.out (by rw [← HNB2.out]; exact h0) with ⟨hh, hdv⟩ | ⟨hh, g, rfl, hg1, hg2, hg3, hg4, hg5⟩
      · obtain ⟨dA, dc, hdv2, hrd, hdc, hdl⟩ := HM0.out.data
        rw [← hdv] at hdv2
        injection hdv2 with e1 e2 e3
        subst e1 e2 e3
        refine ⟨rfl, rfl, rfl, ?_, hdc, hdl⟩
        rw [show fileD m = m.data by unfold fileD; rw [hh]; rfl]
        exact hrd.below hWf
      · have hgl := (Array.getElem?_eq_some_iff.1 hg2).1
        have hne : g ≠ bn := by have := HBN.out.1; omega
        refine ⟨rfl, rfl, rfl, ?_, hg4, hg5⟩
        rw [show fileD m = expandL m by unfold fileD; rw [hh]; rfl]
        refine rd_block ?_ hg3
        rw [hg g hg1 (by simpa [World.setCell] using hgl), Below.heap_setCell _ _ _ _ hne]
        exact hg2)
    generalize w5.setCell ⟨bn, 2, none⟩ (.slice fA fn fc') = w6 at HS6 HNO ⊢
    clear q2 q3
    by_cases hnb : nb = 0
    · subst hnb
      have HNC := Lib.hid (show nc = thereE ss p o by rw [HD.out]; simp)
      go_upto_region 20 with fail
      apply wp_region_lit
      iterate 6 go_step
      refine wpList_load_row 40 _ i40 ⟨bo, 0, none⟩ (optCells o) HI40.out HZ40.out (agg62 _) rfl (row_cells HS6.out.O) ?_
      go_wp2_with fail
      refine (refThere_row (HR0.out.below HS6.out.B) hSh p o).mono ?_
      rintro e wt ⟨rfl, hbt⟩
      have HSt := Lib.hid (HS6.out.below hbt)
      have HBT := Lib.hid hbt
      clear hbt
      rw [← HNC.out]
      clear HNC
      go_upto_region 21 with fail
      apply wp_region_lit
      refine wpList_load_row 49 _ i49 ⟨bn, 0, none⟩ [.string ⟨p.toArray⟩, .int .u8 48, .slice fA fn fc', .string ⟨([] : List UInt8).toArray⟩] HI49.out HZ49.out (agg49 _) rfl (row_cells (HSt.out.N)) ?_
      iterate 3 go_step
      refine wpList_store_at 49 _ _ i49 bz _ [.string ⟨p.toArray⟩, .int .u8 48, .slice fA fn fc', .string ⟨([] : List UInt8).toArray⟩] HI49.out HZ49.out HSt.out.Z rfl rfl rfl (nd_one ⟨p, 48, fA, fn, fc', []⟩) ?_
      have hz := setRow_heap wt bz _ [.string ⟨p.toArray⟩, .int .u8 48, .slice fA fn fc', .string ⟨([] : List UInt8).toArray⟩].toArray 49 (0, 0) HSt.out.Z
      have hbf := HSt.out.B.trans (setRow_below [.string ⟨p.toArray⟩, .int .u8 48, .slice fA fn fc', .string ⟨([] : List UInt8).toArray⟩].toArray HSt.out.lt.2.2.1)
      have HFI := Lib.hid (show ∀ g, w4.heap.size ≤ g → (wt.setRow bz [.string ⟨p.toArray⟩, .int .u8 48, .slice fA fn fc', .string ⟨([] : List UInt8).toArray⟩].toArray).heap[g]? = wt.heap[g]? from fun g hg => setRow_other _ _ g _ (by have := HBN.out.2; omega))
      generalize wt.setRow bz [.string ⟨p.toArray⟩, .int .u8 48, .slice fA fn fc', .string ⟨([] : List UInt8).toArray⟩].toArray = wf at hz hbf HFI ⊢
      have HBF := Lib.hid hbf
      clear hbf
      obtain ⟨d0, d1, d2, d3⟩ := node_cells hz
      go_wp2_with fail
      refine bodyPost_ret (v := .tuple #[.agg [.string ⟨p.toArray⟩, .int .u8 48, .slice fA fn fc', .string ⟨([] : List UInt8).toArray⟩].toArray, .int .i64 nc]) ?_ rfl ⟨⟨p, 48, fA, fn, fc', []⟩, rfl, fun _ => HNO.out (by first | rfl | trivial) wf HBF.out (fun g h1 h2 => (HFI.out g h1).trans (HBT.out.block g h2)), HBF.out⟩
      simp [results, Tryz.f41, go_sem, d0, d1, d2, d3]
    · obtain rfl : nc = nb := by rw [HD.out]; simp [hnb]
      go_upto_region 21 with fail
      apply wp_region_lit
      refine wpList_load_row 49 _ i49 ⟨bn, 0, none⟩ [.string ⟨p.toArray⟩, .int .u8 48, .slice fA fn fc', .string ⟨([] : List UInt8).toArray⟩] HI49.out HZ49.out (agg49 _) rfl (row_cells (HS6.out.N)) ?_
      iterate 3 go_step
      refine wpList_store_at 49 _ _ i49 bz _ [.string ⟨p.toArray⟩, .int .u8 48, .slice fA fn fc', .string ⟨([] : List UInt8).toArray⟩] HI49.out HZ49.out HS6.out.Z rfl rfl rfl (nd_one ⟨p, 48, fA, fn, fc', []⟩) ?_
      have hz := setRow_heap w6 bz _ [.string ⟨p.toArray⟩, .int .u8 48, .slice fA fn fc', .string ⟨([] : List UInt8).toArray⟩].toArray 49 (0, 0) HS6.out.Z
      have hbf := HS6.out.B.trans (setRow_below [.string ⟨p.toArray⟩, .int .u8 48, .slice fA fn fc', .string ⟨([] : List UInt8).toArray⟩].toArray HS6.out.lt.2.2.1)
      have HFI := Lib.hid (show ∀ g, w4.heap.size ≤ g → (w6.setRow bz [.string ⟨p.toArray⟩, .int .u8 48, .slice fA fn fc', .string ⟨([] : List UInt8).toArray⟩].toArray).heap[g]? = w6.heap[g]? from fun g hg => setRow_other _ _ g _ (by have := HBN.out.2; omega))
      generalize w6.setRow bz [.string ⟨p.toArray⟩, .int .u8 48, .slice fA fn fc', .string ⟨([] : List UInt8).toArray⟩].toArray = wf at hz hbf HFI ⊢
      have HBF := Lib.hid hbf
      clear hbf
      obtain ⟨d0, d1, d2, d3⟩ := node_cells hz
      go_wp2_with fail
      refine bodyPost_ret (v := .tuple #[.agg [.string ⟨p.toArray⟩, .int .u8 48, .slice fA fn fc', .string ⟨([] : List UInt8).toArray⟩].toArray, .int .i64 nc]) ?_ rfl ⟨⟨p, 48, fA, fn, fc', []⟩, rfl, fun h => absurd h hnb, HBF.out⟩
      simp [results, Tryz.f41, go_sem, d0, d1, d2, d3]
  · have HNS2 := Lib.hid (show ns = ⟨p, 50, [], m.link⟩ by rw [HNS.out, if_neg (by omega), if_pos hk])
    have HNB2 := Lib.hid (show nb = (if (targetV o.root p m.link).2 = true then 0 else 64) by rw [HNB.out, if_neg (by omega), if_pos hk])
    rw [hk] at c2 HST
    clear hk HNS HNB
    have r0 := HST.out.opt 0 (.string ⟨o.root.toArray⟩) rfl
    have l1 := HST.out.mem 1 (.string ⟨m.link.toArray⟩) rfl
    have HT := fun W => refTarget_any o.root p m.link (by omega) (by omega) (by omega) W
    generalize targetV o.root p m.link = tv at HT HNB2
    obtain ⟨tp, tok⟩ := tv
    dsimp only at HT HNB2
    go_wp2_with fail
    refine (HT _).mono ?_
    rintro e w5 ⟨rfl, hb5⟩
    have HS5 := Lib.hid (HST.out.below hb5)
    have q1 := HS5.out.mem 1 (.string ⟨m.link.toArray⟩) rfl
    have q2 := (node_cells HS5.out.N).2.2.2
    have q3 := HS5.out.frz 3
    clear c2 hb5 r0 l1 HT
    have HS6 := Lib.hid (HS5.out.put 3 (.string ⟨m.link.toArray⟩) ⟨p, 50, none, 0, 0, m.link⟩ rfl)
    have HNO := Lib.hid (show nb = 0 → ∀ Wf, Below w.heap.size w Wf → (∀ g, w4.heap.size ≤ g → g < (w5.setCell ⟨bn, 3, none⟩ (.string ⟨m.link.toArray⟩)).heap.size → Wf.heap[g]? = (w5.setCell ⟨bn, 3, none⟩ (.string ⟨m.link.toArray⟩)).heap[g]?) → NdAt Wf ⟨p, 50, none, 0, 0, m.link⟩ ns from fun _ Wf _ _ => by
      rw [HNS2.out]
      exact ⟨rfl, rfl, rfl, ⟨rfl, fun j hj => absurd hj (Nat.not_lt_zero _)⟩, Nat.le_refl _, Nat.zero_le _⟩)
    cases tok with
    | true =>
      obtain rfl : nb = 0 := by rw [HNB2.out]; rfl
      clear HNB2
      go_upto_region 19 with fail
      generalize w5.setCell ⟨bn, 3, none⟩ (.string ⟨m.link.toArray⟩) = w6 at HS6 HNO ⊢
      clear q1 q2 q3
      have HNC := Lib.hid (show nc = thereE ss p o by rw [HD.out]; simp)
      go_upto_region 20 with fail
      apply wp_region_lit
      iterate 6 go_step
      refine wpList_load_row 40 _ i40 ⟨bo, 0, none⟩ (optCells o) HI40.out HZ40.out (agg62 _) rfl (row_cells HS6.out.O) ?_
      go_wp2_with fail
      refine (refThere_row (HR0.out.below HS6.out.B) hSh p o).mono ?_
      rintro e wt ⟨rfl, hbt⟩
      have HSt := Lib.hid (HS6.out.below hbt)
      have HBT := Lib.hid hbt
      clear hbt
      rw [← HNC.out]
      clear HNC
      go_upto_region 21 with fail
      apply wp_region_lit
      refine wpList_load_row 49 _ i49 ⟨bn, 0, none⟩ [.string ⟨p.toArray⟩, .int .u8 50, .slice none 0 0, .string ⟨m.link.toArray⟩] HI49.out HZ49.out (agg49 _) rfl (row_cells (HSt.out.N)) ?_
      iterate 3 go_step
      refine wpList_store_at 49 _ _ i49 bz _ [.string ⟨p.toArray⟩, .int .u8 50, .slice none 0 0, .string ⟨m.link.toArray⟩] HI49.out HZ49.out HSt.out.Z rfl rfl rfl (nd_one ⟨p, 50, none, 0, 0, m.link⟩) ?_
      have hz := setRow_heap wt bz _ [.string ⟨p.toArray⟩, .int .u8 50, .slice none 0 0, .string ⟨m.link.toArray⟩].toArray 49 (0, 0) HSt.out.Z
      have hbf := HSt.out.B.trans (setRow_below [.string ⟨p.toArray⟩, .int .u8 50, .slice none 0 0, .string ⟨m.link.toArray⟩].toArray HSt.out.lt.2.2.1)
      have HFI := Lib.hid (show ∀ g, w4.heap.size ≤ g → (wt.setRow bz [.string ⟨p.toArray⟩, .int .u8 50, .slice none 0 0, .string ⟨m.link.toArray⟩].toArray).heap[g]? = wt.heap[g]? from fun g hg => setRow_other _ _ g _ (by have := HBN.out.2; omega))
      generalize wt.setRow bz [.string ⟨p.toArray⟩, .int .u8 50, .slice none 0 0, .string ⟨m.link.toArray⟩].toArray = wf at hz hbf HFI ⊢
      have HBF := Lib.hid hbf
      clear hbf
      obtain ⟨d0, d1, d2, d3⟩ := node_cells hz
      go_wp2_with fail
      refine bodyPost_ret (v := .tuple #[.agg [.string ⟨p.toArray⟩, .int .u8 50, .slice none 0 0, .string ⟨m.link.toArray⟩].toArray, .int .i64 nc]) ?_ rfl ⟨⟨p, 50, none, 0, 0, m.link⟩, rfl, fun _ => HNO.out (by first | rfl | trivial) wf HBF.out (fun g h1 h2 => (HFI.out g h1).trans (HBT.out.block g h2)), HBF.out⟩
      simp [results, Tryz.f41, go_sem, d0, d1, d2, d3]
    | false =>
      obtain rfl : nb = 64 := by rw [HNB2.out]; rfl
      clear HNB2
      go_upto_region 19 with fail
      generalize w5.setCell ⟨bn, 3, none⟩ (.string ⟨m.link.toArray⟩) = w6 at HS6 HNO ⊢
      clear q1 q2 q3
      have hnb : ¬ (64 : Int) = 0 := by decide
      obtain rfl : nc = 64 := by rw [HD.out]; simp [hnb]
      go_upto_region 21 with fail
      apply wp_region_lit
      refine wpList_load_row 49 _ i49 ⟨bn, 0, none⟩ [.string ⟨p.toArray⟩, .int .u8 50, .slice none 0 0, .string ⟨m.link.toArray⟩] HI49.out HZ49.out (agg49 _) rfl (row_cells (HS6.out.N)) ?_
      iterate 3 go_step
      refine wpList_store_at 49 _ _ i49 bz _ [.string ⟨p.toArray⟩, .int .u8 50, .slice none 0 0, .string ⟨m.link.toArray⟩] HI49.out HZ49.out HS6.out.Z rfl rfl rfl (nd_one ⟨p, 50, none, 0, 0, m.link⟩) ?_
      have hz := setRow_heap w6 bz _ [.string ⟨p.toArray⟩, .int .u8 50, .slice none 0 0, .string ⟨m.link.toArray⟩].toArray 49 (0, 0) HS6.out.Z
      have hbf := HS6.out.B.trans (setRow_below [.string ⟨p.toArray⟩, .int .u8 50, .slice none 0 0, .string ⟨m.link.toArray⟩].toArray HS6.out.lt.2.2.1)
      have HFI := Lib.hid (show ∀ g, w4.heap.size ≤ g → (w6.setRow bz [.string ⟨p.toArray⟩, .int .u8 50, .slice none 0 0, .string ⟨m.link.toArray⟩].toArray).heap[g]? = w6.heap[g]? from fun g hg => setRow_other _ _ g _ (by have := HBN.out.2; omega))
      generalize w6.setRow bz [.string ⟨p.toArray⟩, .int .u8 50, .slice none 0 0, .string ⟨m.link.toArray⟩].toArray = wf at hz hbf HFI ⊢
      have HBF := Lib.hid hbf
      clear hbf
      obtain ⟨d0, d1, d2, d3⟩ := node_cells hz
      go_wp2_with fail
      refine bodyPost_ret (v := .tuple #[.agg [.string ⟨p.toArray⟩, .int .u8 50, .slice none 0 0, .string ⟨m.link.toArray⟩].toArray, .int .i64 64]) ?_ rfl ⟨⟨p, 50, none, 0, 0, m.link⟩, rfl, fun h => absurd h hnb, HBF.out⟩
      simp [results, Tryz.f41, go_sem, d0, d1, d2, d3]
  · have HNS2 := Lib.hid (show ns = ⟨p, 48, (findL ss (whereV o.root m.link).1).1.data, []⟩ by rw [HNS.out, if_neg (by omega), if_neg (by omega)])
    have HNB2 := Lib.hid (show nb = (if hardO o ss m p = true then 0 else 64) by rw [HNB.out, if_neg (by omega), if_neg (by omega)])
    have HHO := Lib.hid (show hardO o ss m p = ((whereV o.root m.link).2 && (whereV o.root m.link).1 != p && ((findL ss (whereV o.root m.link).1).2 && (findL ss (whereV o.root m.link).1).1.kind == 48) && (aheadL o.root (whereV o.root m.link).1).all (openP ss false)) from by unfold hardO; rw [open_false]; rfl)
    rw [hk] at c2 HST
    clear hk HNS HNB
    have r0 := HST.out.opt 0 (.string ⟨o.root.toArray⟩) rfl
    have l1 := HST.out.mem 1 (.string ⟨m.link.toArray⟩) rfl
    have HT := fun W => refWhere_any o.root m.link (by omega) (by omega) W
    have hwl := where_len o.root m.link
    generalize hardO o ss m p = hard at HNB2 HHO
    generalize whereV o.root m.link = tv at HT HNS2 HHO hwl
    obtain ⟨tp, tok⟩ := tv
    dsimp only at HT HNS2 HHO hwl
    go_wp2_with fail
    refine (HT _).mono ?_
    rintro e w5 ⟨rfl, hb5⟩
    have HS5 := Lib.hid (HST.out.below hb5)
    clear c2 hb5 r0 l1 HT
    obtain ⟨rA, rc, rms, hvr, hN0, hL0, hn0⟩ := HR0.out
    have hN5 := hN0.below HS5.out.B
    have HF := refFind_from (c := rc) tp hN5 hL0 hL0.1.symm (by have := hSh.1; omega)
    generalize findL ss tp = fd at HF HNS2 HHO
    obtain ⟨⟨fp, fk, fdt, fl⟩, fb⟩ := fd
    dsimp only at HF HNS2 HHO
    have HVR := Lib.hid hvr
    clear hN0 hL0 hn0 hN5
    rw [← hvr] at HF
    clear hvr
    go_wp2_with fail
    refine HF.mono ?_
    rintro e w6 ⟨y, rfl, hy, hb6⟩
    have hyk := hy.2.1
    have HY := Lib.hid hy.2.2.2
    obtain ⟨yp, yk, ya, yn, yc, yl⟩ := y
    unfold Nd.cells
    dsimp only at hyk HY ⊢
    subst hyk
    have HS6 := Lib.hid ((HS5.out.below hb6).below ((Below.refl _ _).alloc (Nat.le_refl _) (.cells #[.string ⟨yp.toArray⟩, .int .u8 yk, .slice ya yn yc, .string ⟨yl.toArray⟩] 49)))
    have hx := heap_alloc_new w6 (.cells #[.string ⟨yp.toArray⟩, .int .u8 yk, .slice ya yn yc, .string ⟨yl.toArray⟩] 49)
    have hs6 := hb6.size
    have hbx : bn ≠ w6.heap.size := fun e => by
      have h1 := (Array.getElem?_eq_some_iff.1 HS5.out.N).1
      omega
    clear hy hb6 HF hs6
    go_upto_region 6 with fail
    generalize w6.alloc (.cells #[.string ⟨yp.toArray⟩, .int .u8 yk, .slice ya yn yc, .string ⟨yl.toArray⟩] 49) = w7 at HS6 hx ⊢
    generalize w6.heap.size = bx at hx hbx ⊢
    have q1 := (node_cells HS6.out.N).2.1
    have q2 := HS6.out.frz 1
    have HS7 := Lib.hid (HS6.out.put 1 (.int .u8 48) ⟨p, 48, none, 0, 0, []⟩ rfl)
    have hx8 := (Below.heap_setCell w7 ⟨bn, 1, none⟩ (.int .u8 48) bx (Ne.symm hbx)).trans hx
    go_upto_region 7 with fail
    generalize w7.setCell ⟨bn, 1, none⟩ (.int .u8 48) = w8 at HS7 hx8 ⊢
    clear q1 q2 hx
    obtain ⟨_, x1, x2, _⟩ := node_cells hx8
    have q1 := (node_cells HS7.out.N).2.2.1
    have q2 := HS7.out.frz 2
    have HS8 := Lib.hid (HS7.out.put 2 (.slice ya yn yc) ⟨p, 48, ya, yn, yc, []⟩ rfl)
    have hx9 := (Below.heap_setCell w8 ⟨bn, 2, none⟩ (.slice ya yn yc) bx (Ne.symm hbx)).trans hx8
    go_upto_region 8 with fail
    generalize w8.setCell ⟨bn, 2, none⟩ (.slice ya yn yc) = w9 at HS8 hx9 ⊢
    clear q1 q2 hx8 x1 x2
    obtain ⟨_, x1, _, _⟩ := node_cells hx9
    clear hx9
    have r0 := HS8.out.opt 0 (.string ⟨o.root.toArray⟩) rfl
    have HNO := Lib.hid (show nb = 0 → ∀ Wf, Below w.heap.size w Wf → NdAt Wf ⟨p, 48, ya, yn, yc, []⟩ ns from fun _ Wf hWf => by
      rw [HNS2.out]
      exact ⟨rfl, rfl, rfl, HY.out.1.below hWf, HY.out.2⟩)
    cases tok with
    | false =>
      obtain rfl : hard = false := by rw [HHO.out]; rfl
      obtain rfl : nb = 64 := by rw [HNB2.out]; rfl
      clear HNB2 HHO
      have hnb : ¬ (64 : Int) = 0 := by decide
      go_upto_region 19 with fail
      obtain rfl : nc = 64 := by rw [HD.out]; simp [hnb]
      go_upto_region 21 with fail
      apply wp_region_lit
      refine wpList_load_row 49 _ i49 ⟨bn, 0, none⟩ [.string ⟨p.toArray⟩, .int .u8 48, .slice ya yn yc, .string ⟨([] : List UInt8).toArray⟩] HI49.out HZ49.out (agg49 _) rfl (row_cells (HS8.out.N)) ?_
      iterate 3 go_step
      refine wpList_store_at 49 _ _ i49 bz _ [.string ⟨p.toArray⟩, .int .u8 48, .slice ya yn yc, .string ⟨([] : List UInt8).toArray⟩] HI49.out HZ49.out HS8.out.Z rfl rfl rfl (nd_one ⟨p, 48, ya, yn, yc, []⟩) ?_
      have hz := setRow_heap w9 bz _ [.string ⟨p.toArray⟩, .int .u8 48, .slice ya yn yc, .string ⟨([] : List UInt8).toArray⟩].toArray 49 (0, 0) HS8.out.Z
      have hbf := HS8.out.B.trans (setRow_below [.string ⟨p.toArray⟩, .int .u8 48, .slice ya yn yc, .string ⟨([] : List UInt8).toArray⟩].toArray HS8.out.lt.2.2.1)
      have HFI := Lib.hid (show ∀ g, w4.heap.size ≤ g → (w9.setRow bz [.string ⟨p.toArray⟩, .int .u8 48, .slice ya yn yc, .string ⟨([] : List UInt8).toArray⟩].toArray).heap[g]? = w9.heap[g]? from fun g hg => setRow_other _ _ g _ (by have := HBN.out.2; omega))
      generalize w9.setRow bz [.string ⟨p.toArray⟩, .int .u8 48, .slice ya yn yc, .string ⟨([] : List UInt8).toArray⟩].toArray = wf at hz hbf HFI ⊢
      have HBF := Lib.hid hbf
      clear hbf
      obtain ⟨d0, d1, d2, d3⟩ := node_cells hz
      go_wp2_with fail
      refine bodyPost_ret (v := .tuple #[.agg [.string ⟨p.toArray⟩, .int .u8 48, .slice ya yn yc, .string ⟨([] : List UInt8).toArray⟩].toArray, .int .i64 64]) ?_ rfl ⟨⟨p, 48, ya, yn, yc, []⟩, rfl, fun h => absurd h hnb, HBF.out⟩
      simp [results, Tryz.f41, go_sem, d0, d1, d2, d3]
    | true =>
      by_cases htp : tp = p
      · subst htp
        have heq : (tp == tp) = true := by simp
        obtain rfl : hard = false := by rw [HHO.out]; simp
        obtain rfl : nb = 64 := by rw [HNB2.out]; rfl
        clear HNB2 HHO
        have hnb : ¬ (64 : Int) = 0 := by decide
        go_upto_region 19 with fail
        obtain rfl : nc = 64 := by rw [HD.out]; simp [hnb]
        go_upto_region 21 with fail
        apply wp_region_lit
        refine wpList_load_row 49 _ i49 ⟨bn, 0, none⟩ [.string ⟨tp.toArray⟩, .int .u8 48, .slice ya yn yc, .string ⟨([] : List UInt8).toArray⟩] HI49.out HZ49.out (agg49 _) rfl (row_cells (HS8.out.N)) ?_
        iterate 3 go_step
        refine wpList_store_at 49 _ _ i49 bz _ [.string ⟨tp.toArray⟩, .int .u8 48, .slice ya yn yc, .string ⟨([] : List UInt8).toArray⟩] HI49.out HZ49.out HS8.out.Z rfl rfl rfl (nd_one ⟨tp, 48, ya, yn, yc, []⟩) ?_
        have hz := setRow_heap w9 bz _ [.string ⟨tp.toArray⟩, .int .u8 48, .slice ya yn yc, .string ⟨([] : List UInt8).toArray⟩].toArray 49 (0, 0) HS8.out.Z
        have hbf := HS8.out.B.trans (setRow_below [.string ⟨tp.toArray⟩, .int .u8 48, .slice ya yn yc, .string ⟨([] : List UInt8).toArray⟩].toArray HS8.out.lt.2.2.1)
        have HFI := Lib.hid (show ∀ g, w4.heap.size ≤ g → (w9.setRow bz [.string ⟨tp.toArray⟩, .int .u8 48, .slice ya yn yc, .string ⟨([] : List UInt8).toArray⟩].toArray).heap[g]? = w9.heap[g]? from fun g hg => setRow_other _ _ g _ (by have := HBN.out.2; omega))
        generalize w9.setRow bz [.string ⟨tp.toArray⟩, .int .u8 48, .slice ya yn yc, .string ⟨([] : List UInt8).toArray⟩].toArray = wf at hz hbf HFI ⊢
        have HBF := Lib.hid hbf
        clear hbf
        obtain ⟨d0, d1, d2, d3⟩ := node_cells hz
        go_wp2_with fail
        refine bodyPost_ret (v := .tuple #[.agg [.string ⟨tp.toArray⟩, .int .u8 48, .slice ya yn yc, .string ⟨([] : List UInt8).toArray⟩].toArray, .int .i64 64]) ?_ rfl ⟨⟨tp, 48, ya, yn, yc, []⟩, rfl, fun h => absurd h hnb, HBF.out⟩
        simp [results, Tryz.f41, go_sem, d0, d1, d2, d3]
      · have heq : (tp == p) = false := by simpa using htp
        cases fb with
        | false =>
          obtain rfl : hard = false := by rw [HHO.out]; simp
          obtain rfl : nb = 64 := by rw [HNB2.out]; rfl
          clear HNB2 HHO htp
          have hnb : ¬ (64 : Int) = 0 := by decide
          go_upto_region 19 with fail
          obtain rfl : nc = 64 := by rw [HD.out]; simp [hnb]
          go_upto_region 21 with fail
          apply wp_region_lit
          refine wpList_load_row 49 _ i49 ⟨bn, 0, none⟩ [.string ⟨p.toArray⟩, .int .u8 48, .slice ya yn yc, .string ⟨([] : List UInt8).toArray⟩] HI49.out HZ49.out (agg49 _) rfl (row_cells (HS8.out.N)) ?_
          iterate 3 go_step
          refine wpList_store_at 49 _ _ i49 bz _ [.string ⟨p.toArray⟩, .int .u8 48, .slice ya yn yc, .string ⟨([] : List UInt8).toArray⟩] HI49.out HZ49.out HS8.out.Z rfl rfl rfl (nd_one ⟨p, 48, ya, yn, yc, []⟩) ?_
          have hz := setRow_heap w9 bz _ [.string ⟨p.toArray⟩, .int .u8 48, .slice ya yn yc, .string ⟨([] : List UInt8).toArray⟩].toArray 49 (0, 0) HS8.out.Z
          have hbf := HS8.out.B.trans (setRow_below [.string ⟨p.toArray⟩, .int .u8 48, .slice ya yn yc, .string ⟨([] : List UInt8).toArray⟩].toArray HS8.out.lt.2.2.1)
          have HFI := Lib.hid (show ∀ g, w4.heap.size ≤ g → (w9.setRow bz [.string ⟨p.toArray⟩, .int .u8 48, .slice ya yn yc, .string ⟨([] : List UInt8).toArray⟩].toArray).heap[g]? = w9.heap[g]? from fun g hg => setRow_other _ _ g _ (by have := HBN.out.2; omega))
          generalize w9.setRow bz [.string ⟨p.toArray⟩, .int .u8 48, .slice ya yn yc, .string ⟨([] : List UInt8).toArray⟩].toArray = wf at hz hbf HFI ⊢
          have HBF := Lib.hid hbf
          clear hbf
          obtain ⟨d0, d1, d2, d3⟩ := node_cells hz
          go_wp2_with fail
          refine bodyPost_ret (v := .tuple #[.agg [.string ⟨p.toArray⟩, .int .u8 48, .slice ya yn yc, .string ⟨([] : List UInt8).toArray⟩].toArray, .int .i64 64]) ?_ rfl ⟨⟨p, 48, ya, yn, yc, []⟩, rfl, fun h => absurd h hnb, HBF.out⟩
          simp [results, Tryz.f41, go_sem, d0, d1, d2, d3]
        | true =>
          by_cases h48 : yk = 48
          · subst h48
            have HHO2 := Lib.hid (show hard = (aheadL o.root tp).all (openP ss false) by rw [HHO.out]; simp [htp])
            clear HHO htp
            have hash := ahead_short o.root tp
            go_wp2_with fail
            refine (refAhead_any o.root tp (by omega) (by omega) w9).mono ?_
            rintro e w10 ⟨av, rfl, hrow, hb10⟩
            have HS10 := Lib.hid (HS8.out.below hb10)
            have HOP := refOpen_row (HR0.out.below HS10.out.B) hSh hrow false (by omega)
            generalize (aheadL o.root tp).all (openP ss false) = ab at HOP HHO2
            clear hb10 hrow r0 x1
            go_wp2_with fail
            refine HOP.mono ?_
            rintro e w11 ⟨rfl, hb11⟩
            have HS11 := Lib.hid (HS10.out.below hb11)
            clear hb11 HOP
            cases ab with
            | true =>
              obtain rfl : nb = 0 := by rw [HNB2.out, HHO2.out]; rfl
              clear HNB2 HHO2
              go_upto_region 19 with fail
              have HNC := Lib.hid (show nc = thereE ss p o by rw [HD.out]; simp)
              go_upto_region 20 with fail
              apply wp_region_lit
              iterate 6 go_step
              refine wpList_load_row 40 _ i40 ⟨bo, 0, none⟩ (optCells o) HI40.out HZ40.out (agg62 _) rfl (row_cells HS11.out.O) ?_
              go_wp2_with fail
              refine (refThere_row (HR0.out.below HS11.out.B) hSh p o).mono ?_
              rintro e wt ⟨rfl, hbt⟩
              have HSt := Lib.hid (HS11.out.below hbt)
              have HBT := Lib.hid hbt
              clear hbt
              rw [← HNC.out]
              clear HNC
              go_upto_region 21 with fail
              apply wp_region_lit
              refine wpList_load_row 49 _ i49 ⟨bn, 0, none⟩ [.string ⟨p.toArray⟩, .int .u8 48, .slice ya yn yc, .string ⟨([] : List UInt8).toArray⟩] HI49.out HZ49.out (agg49 _) rfl (row_cells (HSt.out.N)) ?_
              iterate 3 go_step
              refine wpList_store_at 49 _ _ i49 bz _ [.string ⟨p.toArray⟩, .int .u8 48, .slice ya yn yc, .string ⟨([] : List UInt8).toArray⟩] HI49.out HZ49.out HSt.out.Z rfl rfl rfl (nd_one ⟨p, 48, ya, yn, yc, []⟩) ?_
              have hz := setRow_heap wt bz _ [.string ⟨p.toArray⟩, .int .u8 48, .slice ya yn yc, .string ⟨([] : List UInt8).toArray⟩].toArray 49 (0, 0) HSt.out.Z
              have hbf := HSt.out.B.trans (setRow_below [.string ⟨p.toArray⟩, .int .u8 48, .slice ya yn yc, .string ⟨([] : List UInt8).toArray⟩].toArray HSt.out.lt.2.2.1)
              have HFI := Lib.hid (show ∀ g, w4.heap.size ≤ g → (wt.setRow bz [.string ⟨p.toArray⟩, .int .u8 48, .slice ya yn yc, .string ⟨([] : List UInt8).toArray⟩].toArray).heap[g]? = wt.heap[g]? from fun g hg => setRow_other _ _ g _ (by have := HBN.out.2; omega))
              generalize wt.setRow bz [.string ⟨p.toArray⟩, .int .u8 48, .slice ya yn yc, .string ⟨([] : List UInt8).toArray⟩].toArray = wf at hz hbf HFI ⊢
              have HBF := Lib.hid hbf
              clear hbf
              obtain ⟨d0, d1, d2, d3⟩ := node_cells hz
              go_wp2_with fail
              refine bodyPost_ret (v := .tuple #[.agg [.string ⟨p.toArray⟩, .int .u8 48, .slice ya yn yc, .string ⟨([] : List UInt8).toArray⟩].toArray, .int .i64 nc]) ?_ rfl ⟨⟨p, 48, ya, yn, yc, []⟩, rfl, fun _ => HNO.out (by first | rfl | trivial) wf HBF.out , HBF.out⟩
              simp [results, Tryz.f41, go_sem, d0, d1, d2, d3]
            | false =>
              obtain rfl : nb = 64 := by rw [HNB2.out, HHO2.out]; rfl
              clear HNB2 HHO2
              have hnb : ¬ (64 : Int) = 0 := by decide
              go_upto_region 19 with fail
              obtain rfl : nc = 64 := by rw [HD.out]; simp [hnb]
              go_upto_region 21 with fail
              apply wp_region_lit
              refine wpList_load_row 49 _ i49 ⟨bn, 0, none⟩ [.string ⟨p.toArray⟩, .int .u8 48, .slice ya yn yc, .string ⟨([] : List UInt8).toArray⟩] HI49.out HZ49.out (agg49 _) rfl (row_cells (HS11.out.N)) ?_
              iterate 3 go_step
              refine wpList_store_at 49 _ _ i49 bz _ [.string ⟨p.toArray⟩, .int .u8 48, .slice ya yn yc, .string ⟨([] : List UInt8).toArray⟩] HI49.out HZ49.out HS11.out.Z rfl rfl rfl (nd_one ⟨p, 48, ya, yn, yc, []⟩) ?_
              have hz := setRow_heap w11 bz _ [.string ⟨p.toArray⟩, .int .u8 48, .slice ya yn yc, .string ⟨([] : List UInt8).toArray⟩].toArray 49 (0, 0) HS11.out.Z
              have hbf := HS11.out.B.trans (setRow_below [.string ⟨p.toArray⟩, .int .u8 48, .slice ya yn yc, .string ⟨([] : List UInt8).toArray⟩].toArray HS11.out.lt.2.2.1)
              have HFI := Lib.hid (show ∀ g, w4.heap.size ≤ g → (w11.setRow bz [.string ⟨p.toArray⟩, .int .u8 48, .slice ya yn yc, .string ⟨([] : List UInt8).toArray⟩].toArray).heap[g]? = w11.heap[g]? from fun g hg => setRow_other _ _ g _ (by have := HBN.out.2; omega))
              generalize w11.setRow bz [.string ⟨p.toArray⟩, .int .u8 48, .slice ya yn yc, .string ⟨([] : List UInt8).toArray⟩].toArray = wf at hz hbf HFI ⊢
              have HBF := Lib.hid hbf
              clear hbf
              obtain ⟨d0, d1, d2, d3⟩ := node_cells hz
              go_wp2_with fail
              refine bodyPost_ret (v := .tuple #[.agg [.string ⟨p.toArray⟩, .int .u8 48, .slice ya yn yc, .string ⟨([] : List UInt8).toArray⟩].toArray, .int .i64 64]) ?_ rfl ⟨⟨p, 48, ya, yn, yc, []⟩, rfl, fun h => absurd h hnb, HBF.out⟩
              simp [results, Tryz.f41, go_sem, d0, d1, d2, d3]
          · obtain rfl : hard = false := by rw [HHO.out]; simp [h48]
            obtain rfl : nb = 64 := by rw [HNB2.out]; rfl
            clear HNB2 HHO htp
            have hnb : ¬ (64 : Int) = 0 := by decide
            go_upto_region 19 with fail
            obtain rfl : nc = 64 := by rw [HD.out]; simp [hnb]
            go_upto_region 21 with fail
            apply wp_region_lit
            refine wpList_load_row 49 _ i49 ⟨bn, 0, none⟩ [.string ⟨p.toArray⟩, .int .u8 48, .slice ya yn yc, .string ⟨([] : List UInt8).toArray⟩] HI49.out HZ49.out (agg49 _) rfl (row_cells (HS8.out.N)) ?_
            iterate 3 go_step
            refine wpList_store_at 49 _ _ i49 bz _ [.string ⟨p.toArray⟩, .int .u8 48, .slice ya yn yc, .string ⟨([] : List UInt8).toArray⟩] HI49.out HZ49.out HS8.out.Z rfl rfl rfl (nd_one ⟨p, 48, ya, yn, yc, []⟩) ?_
            have hz := setRow_heap w9 bz _ [.string ⟨p.toArray⟩, .int .u8 48, .slice ya yn yc, .string ⟨([] : List UInt8).toArray⟩].toArray 49 (0, 0) HS8.out.Z
            have hbf := HS8.out.B.trans (setRow_below [.string ⟨p.toArray⟩, .int .u8 48, .slice ya yn yc, .string ⟨([] : List UInt8).toArray⟩].toArray HS8.out.lt.2.2.1)
            have HFI := Lib.hid (show ∀ g, w4.heap.size ≤ g → (w9.setRow bz [.string ⟨p.toArray⟩, .int .u8 48, .slice ya yn yc, .string ⟨([] : List UInt8).toArray⟩].toArray).heap[g]? = w9.heap[g]? from fun g hg => setRow_other _ _ g _ (by have := HBN.out.2; omega))
            generalize w9.setRow bz [.string ⟨p.toArray⟩, .int .u8 48, .slice ya yn yc, .string ⟨([] : List UInt8).toArray⟩].toArray = wf at hz hbf HFI ⊢
            have HBF := Lib.hid hbf
            clear hbf
            obtain ⟨d0, d1, d2, d3⟩ := node_cells hz
            go_wp2_with fail
            refine bodyPost_ret (v := .tuple #[.agg [.string ⟨p.toArray⟩, .int .u8 48, .slice ya yn yc, .string ⟨([] : List UInt8).toArray⟩].toArray, .int .i64 64]) ?_ rfl ⟨⟨p, 48, ya, yn, yc, []⟩, rfl, fun h => absurd h hnb, HBF.out⟩
            simp [results, Tryz.f41, go_sem, d0, d1, d2, d3]

end Go.Proofs.YtlbipmlbkcdmnaaGreat
