/-
  Nodes without some: DeleteFunc, in a row of one's own.
-/
import Derived.Test.YtlbipmlbkcdmnaaHWd
import Derived.Laws.CopyRow
namespace Go.Proofs.Ytlbipmlbkcdmnaa
open Go.RowKit Go.Shelf

theorem zero31 (w : World) : (zeroValue 31).run Try.prog w = .ok (.agg #[.string ⟨#[]⟩, .int .u8 0, .slice none 0 0, .string ⟨#[]⟩]) w := by kernel_rfl

/-- A node takes another's place. -/
theorem cellsOf_put {ns : List Nd} {j : Nat} (h : j < ns.length) (x : Nd) :
    ((((cellsOf ns).set (j * 4) (.string ⟨x.path.toArray⟩)).set (j * 4 + 1) (.int .u8 x.kind)).set (j * 4 + 2) (.slice x.adr x.len x.cap)).set (j * 4 + 3) (.string ⟨x.link.toArray⟩) = cellsOf (ns.set j x) := by
  induction ns generalizing j with
  | nil => simp at h
  | cons y r ih =>
    unfold cellsOf at ih ⊢
    rw [List.flatMap_cons]
    cases j with
    | zero => simp [Nd.cells]
    | succ j =>
      have := ih (j := j) (by simpa using h)
      rw [List.set_cons_succ, List.flatMap_cons, ← this]
      simp [Nd.cells, show (j + 1) * 4 = j * 4 + 1 + 1 + 1 + 1 by omega]

theorem cellsOf_take (ns : List Nd) (m : Nat) (hm : m ≤ ns.length) : (cellsOf ns).take (m * 4) = cellsOf (ns.take m) := by
  have h1 : cellsOf ns = cellsOf (ns.take m) ++ cellsOf (ns.drop m) := by
    unfold cellsOf
    rw [← List.flatMap_append, List.take_append_drop]
  have h2 : (cellsOf (ns.take m)).length = m * 4 := by rw [cellsOf_length, List.length_take]; congr 1; omega
  rw [h1, List.take_append_of_le_length (by omega), List.take_of_length_le (by omega)]

theorem clear_own {w : World} {B g n c : Nat} {ms : List Nd} (h : w.ownsRow B 31 4 (.slice (some ⟨g, 0, none⟩) n c) n (cellsOf ms)) (m cm : Nat) (hmn : m < n) :
    ∃ w', (Builtin.clear_ #[28] 0 #[.slice (some ⟨g, m * 4, none⟩) (n - m) cm]).run Try.prog w = .ok (.tuple #[]) w' ∧ w'.ownsRow B 31 4 (.slice (some ⟨g, 0, none⟩) m c) m (cellsOf (ms.take m)) ∧ w.grownBy w' (some g) := by
  have hml := (own_nodes h).1
  rcases h.2 with ⟨h', _⟩ | ⟨g', cap', cur, h', hb, hg, hnc, hcm, hcs, htake⟩
  · simp at h'
  · simp only [Value.slice.injEq, Option.some.injEq, Addr.mk.injEq, and_true, true_and] at h'
    obtain ⟨rfl, rfl⟩ := h'
    obtain ⟨vs, hvs⟩ : ∃ vs, vs = (Builtin.zeroCells (Value.agg #[.string ⟨#[]⟩, .int .u8 0, .slice none 0 0, .string ⟨#[]⟩]).cells (n - m)).toList := ⟨_, rfl⟩
    have hlen : vs.length = (n - m) * 4 := by rw [hvs]; simp [Builtin.zeroCells, Value.cells]
    have hone : ∀ v ∈ vs, v.oneCell' = true := by
      intro v hv
      rw [hvs] at hv
      simp [Builtin.zeroCells, Value.cells] at hv
      obtain ⟨a, ha, rfl⟩ := hv
      have h4 : a % 4 = 0 ∨ a % 4 = 1 ∨ a % 4 = 2 ∨ a % 4 = 3 := by omega
      rcases h4 with h4 | h4 | h4 | h4 <;> (rw [h4]; rfl)
    have hst := run_storeCells_at (P := Try.prog) g (m * 4) 31 vs 0 cur w hg (by omega) hone
    obtain ⟨q, rfl⟩ : ∃ q, n = m + q + 1 := ⟨n - m - 1, by omega⟩
    simp only [Nat.add_zero] at hst
    generalize hcur : (List.take (m * 4) cur.toList ++ vs ++ List.drop (m * 4 + vs.length) cur.toList).toArray = cur2 at hst
    have hsz : cur2.size = c * 4 := by
      rw [← hcur]
      simp
      omega
    refine ⟨w.setRow g cur2, ?_, ⟨?_, .inr ⟨g, c, cur2, rfl, hb, setRow_heap w g cur cur2 31 _ hg, by omega, hcm, hsz, ?_⟩⟩, ⟨rfl, rfl, rfl, by simp [World.setRow], fun k _ hk => setRow_other w g k cur2 (fun e => hk (by rw [e]))⟩⟩
    · rw [show m + q + 1 - m = q + 1 by omega] at hvs ⊢
      simp [Builtin.clear_, run_underlying Try.underlying28, ← hvs, hst]
    · rw [cellsOf_length, List.length_take]
      congr 1
      omega
    · rw [← hcur, ← cellsOf_take ms m (by omega), ← htake, List.take_take]
      simp only [List.append_assoc]
      rw [List.take_append_of_le_length (by simp; omega), List.take_take]
      congr 1
      omega

/-- The row of one's own in which nodes are moved to the front. -/
def Front (w0 w : World) (B g n c m k : Nat) (p : Nd → Bool) (ns : List Nd) : Prop :=
  ∃ ms : List Nd, w.ownsRow B 31 4 (.slice (some ⟨g, 0, none⟩) n c) n (cellsOf ms) ∧ ms.length = n ∧ ms.take m = (ns.take k).filter (fun x => !p x) ∧ ms.drop k = ns.drop k ∧ w0.grownBy w (some g)

set_option maxRecDepth 100000 in
set_option maxHeartbeats 4000000 in
theorem delete_any (f : Nat) (lb : Array Value) (eg : ∀ args w, (callFunc f args).run Try.prog w = .ok (.enter f args) w) (p : Nd → Bool) {w : World} {B : Nat} {A : Option Addr} {n c : Nat} {ns : List Nd} (h : w.ownsRow B 31 4 (.slice A n c) n (cellsOf ns)) (hB : B ≤ w.heap.size) (hn : n ≤ 2199023255500)
    (hp : ∀ (W : World) (x : Nd), x ∈ ns → Below B w W → Calls Try.prog f (#[.agg x.cells.toArray] ++ lb) W fun e w' => e = .returned (.bool (p x)) ∧ Below W.heap.size W w') :
    Calls Try.prog 47 #[.slice A n c, .func (.func f) #[] lb] w fun e w' => ∃ v m, e = .returned v ∧ m = (ns.filter fun x => !p x).length ∧ w'.ownsRow B 31 4 v m (cellsOf (ns.filter fun x => !p x)) ∧ w.grownBy w' (Value.slice A n c).ownBlock := by
  obtain ⟨hl, hN⟩ := own_nodes h
  have HI := index_any f lb eg p (c := c) hN hl hn (fun W x hx hb => hp W x hx (hb.mono hB))
  clear hN
  have HL := Lib.hid hl; clear hl
  have HO := Lib.hid h; clear h
  have hrunIdx : ∀ (K : Ending → World → Prop), (∀ i w', Idx p ns i → Below w.heap.size w w' → K (.returned (.int .i64 i)) w') → Calls Try.prog 50 #[.slice A n c, .func (.func f) #[] lb] w K := fun K hK => HI.mono (by rintro e w' ⟨i, rfl, h1, h2⟩; exact hK i w' h1 h2)
  clear HI
  go_enter Try.func47, Try.ntmps47
  go_wp2_with fail
  refine hrunIdx _ ?_
  rintro i w1 (⟨rfl, hall⟩ | ⟨k0, rfl, ⟨x0, hx0, hp0⟩, hbefore⟩) hb1
  · go_wp2_with fail
    go_ret
    have hfil : ns.filter (fun x => !p x) = ns := by
      rw [List.filter_eq_self]
      intro x hx
      obtain ⟨j, hj, e⟩ := List.getElem_of_mem hx
      simp [hall j x (by rw [← e]; exact List.getElem?_eq_getElem hj)]
    rw [hfil]
    exact ⟨_, n, rfl, HL.out, own_below HO.out hb1, ⟨hb1.os, hb1.tape, hb1.output, hb1.size, fun k hk _ => hb1.block k hk⟩⟩
  · have hk0 : k0 < n := by rw [HL.out]; exact (List.getElem?_eq_some_iff.1 hx0).1
    rcases HO.out.2 with ⟨_, h0⟩ | ⟨g, cap, cur, hv, hgb, hg, hcap, hcm, hcs, _⟩
    · omega
    injection hv with hv1 _ hv3
    subst hv1; subst hv3
    have hgl := (Array.getElem?_eq_some_iff.1 hg).1
    have hne : ¬ ((k0 : Int) = -1) := by omega
    have hne2 : ((k0 : Int) == -1) = false := by simp
    have hw0 : IntKind.i64.wrap ((k0 : Int) + 1) = (k0 : Int) + 1 := by rw [IntKind.wrap_i64]; omega
    go_wp2_with fail
    go_loopw [5, 6, 7, 16, 17, 18, 19, 20, 21, 22, 23, 24, 25, 26, 27, 28, 29, 30, 31, 32, 33, 34, 35] (fun i j _ _ _ _ _ _ _ _ _ _ _ _ _ _ _ _ _ _ _ _ _ wr => ∃ m k : Nat, m < k ∧ k ≤ n ∧ i = .int .i64 m ∧ j = .int .i64 k ∧ Front w wr B g n c m k p ns)
      (fun _ j _ _ _ _ _ _ _ _ _ _ _ _ _ _ _ _ _ _ _ _ _ _ => n - (intOf j).toNat)
    case atStart =>
      refine ⟨k0, k0 + 1, by omega, by omega, rfl, by go_num, ns, own_below HO.out hb1, HL.out.symm, ?_, rfl, ⟨hb1.os, hb1.tape, hb1.output, hb1.size, fun k hk _ => hb1.block k hk⟩⟩
      rw [List.take_add_one, hx0, List.filter_append]
      have : (ns.take k0).filter (fun x => !p x) = ns.take k0 := by
        rw [List.filter_eq_self]
        intro x hx
        obtain ⟨j, hj, e⟩ := List.getElem_of_mem hx
        rw [List.length_take] at hj
        have := hbefore j x (by omega) (by rw [← e, List.getElem_take]; exact List.getElem?_eq_getElem (by omega))
        simp [this]
      rw [this]
      simp [hp0]
    case round =>
      obtain ⟨m, k, hmk, hk, rfl, rfl, ms, ho, hml, htake, hdrop, hgr⟩ := hrel
      by_cases hlt : k < n
      · have hkz : (k : Int) < (n : Int) := by omega
        obtain ⟨x, hx⟩ : ∃ x, ns[k]? = some x := ⟨_, List.getElem?_eq_getElem (by have := HL.out; omega)⟩
        have hxm : ms[k]? = some x := by
          have h1 : (ms.drop k)[0]? = (ns.drop k)[0]? := by rw [hdrop]
          simpa [hx] using h1
        have cellAt : ∀ i v, i < 4 → x.cells[i]? = some v → wr.cell? ⟨g, k * 4 + i, none⟩ = some v := fun i v hi hv => by
          have := ho.cells (g := g) rfl (k * 4 + i) v ((cellsOf_at hxm hi).trans hv)
          rw [Addr.add_lit] at this
          simpa using this
        have x0 : wr.cell? ⟨g, k * 4, none⟩ = some (.string ⟨x.path.toArray⟩) := cellAt 0 _ (by omega) rfl
        have x1 : wr.cell? ⟨g, k * 4 + 1, none⟩ = some (.int .u8 x.kind) := cellAt 1 _ (by omega) rfl
        have x2 : wr.cell? ⟨g, k * 4 + 2, none⟩ = some (.slice x.adr x.len x.cap) := cellAt 2 _ (by omega) rfl
        have x3 : wr.cell? ⟨g, k * 4 + 3, none⟩ = some (.string ⟨x.link.toArray⟩) := cellAt 3 _ (by omega) rfl
        have hgw : g < wr.heap.size := by have := hgr.size; omega
        have hbA : Below wr.heap.size wr (wr.alloc (.cells #[.string ⟨x.path.toArray⟩, .int .u8 x.kind, .slice x.adr x.len x.cap, .string ⟨x.link.toArray⟩] 31)) := (Below.refl _ wr).alloc (Nat.le_refl _) _
        have hbB : Below B w wr := (Below.refl B w).grown hgr hB (fun j e => by cases e; exact hgb)
        have hcall := hp (wr.alloc (.cells #[.string ⟨x.path.toArray⟩, .int .u8 x.kind, .slice x.adr x.len x.cap, .string ⟨x.link.toArray⟩] 31)) x (List.mem_of_getElem? hx) (hbB.trans (hbA.mono (Nat.le_trans hB hbB.size)))
        obtain ⟨y, hy⟩ : ∃ y, ms[m]? = some y := ⟨_, List.getElem?_eq_getElem (by omega)⟩
        have cellM : ∀ i v, i < 4 → y.cells[i]? = some v → wr.cell? ⟨g, m * 4 + i, none⟩ = some v := fun i v hi hv => by
          have := ho.cells (g := g) rfl (m * 4 + i) v ((cellsOf_at hy hi).trans hv)
          rw [Addr.add_lit] at this
          simpa using this
        have HF : ∀ w2, Below (wr.heap.size + 1) (wr.alloc (.cells #[.string ⟨x.path.toArray⟩, .int .u8 x.kind, .slice x.adr x.len x.cap, .string ⟨x.link.toArray⟩] 31)) w2 →
            (w2.cell? ⟨g, m * 4, none⟩ = some (.string ⟨y.path.toArray⟩) ∧ w2.cell? ⟨g, m * 4 + 1, none⟩ = some (.int .u8 y.kind) ∧ w2.cell? ⟨g, m * 4 + 2, none⟩ = some (.slice y.adr y.len y.cap) ∧ w2.cell? ⟨g, m * 4 + 3, none⟩ = some (.string ⟨y.link.toArray⟩)) ∧
            (w2.frozen? ⟨g, m * 4, none⟩ = false ∧ w2.frozen? ⟨g, m * 4 + 1, none⟩ = false ∧ w2.frozen? ⟨g, m * 4 + 2, none⟩ = false ∧ w2.frozen? ⟨g, m * 4 + 3, none⟩ = false) ∧
            (w2.cell? ⟨wr.heap.size, 0, none⟩ = some (.string ⟨x.path.toArray⟩) ∧ w2.cell? ⟨wr.heap.size, 1, none⟩ = some (.int .u8 x.kind) ∧ w2.cell? ⟨wr.heap.size, 2, none⟩ = some (.slice x.adr x.len x.cap) ∧ w2.cell? ⟨wr.heap.size, 3, none⟩ = some (.string ⟨x.link.toArray⟩)) ∧ Below wr.heap.size wr w2 := by
          intro w2 h2
          have h3 : Below wr.heap.size wr w2 := hbA.trans (h2.mono (by omega))
          have h4 := (h2.block wr.heap.size (by omega)).trans (heap_alloc_new wr (.cells #[.string ⟨x.path.toArray⟩, .int .u8 x.kind, .slice x.adr x.len x.cap, .string ⟨x.link.toArray⟩] 31))
          have cc : ∀ i v, i < 4 → y.cells[i]? = some v → w2.cell? ⟨g, m * 4 + i, none⟩ = some v := fun i v hi hv => (h3.cell (p := ⟨g, m * 4 + i, none⟩) hgw).trans (cellM i v hi hv)
          have ff : ∀ i, w2.frozen? ⟨g, i, none⟩ = false := fun i => (h3.frozen (p := ⟨g, i, none⟩) hgw).trans (ho.frozenAt _)
          refine ⟨⟨cc 0 _ (by omega) rfl, cc 1 _ (by omega) rfl, cc 2 _ (by omega) rfl, cc 3 _ (by omega) rfl⟩, ⟨ff _, ff _, ff _, ff _⟩, ?_, h3⟩
          unfold World.cell?
          dsimp only
          rw [h4]
          exact ⟨rfl, rfl, rfl, rfl⟩
        have htk : ns.take (k + 1) = ns.take k ++ [x] := by rw [List.take_add_one, hx]; rfl
        have hdr : ∀ zs : List Nd, zs.drop k = ns.drop k → zs.drop (k + 1) = ns.drop (k + 1) := fun zs hz => by rw [← List.drop_drop, hz, List.drop_drop]
        have HO3 := Lib.hid ho; clear ho
        have HGR := Lib.hid hgr; clear hgr
        have HTK := Lib.hid htake; clear htake
        have HDR := Lib.hid hdrop; clear hdrop
        have HX := Lib.hid hx; clear hx
        have HML := Lib.hid hml; clear hml
        clear hp hrunIdx cellAt cellM hxm hy hx0 hbefore
        unfold Nd.cells at hcall
        cases hq : p x with
        | true =>
          rw [hq] at hcall
          have HQ := Lib.hid hq; clear hq
          go_wp2_with (go_at_fn f; refine hcall.mono ?_; rintro e w2 ⟨rfl, hb2⟩; obtain ⟨⟨m0, m1, m2, m3⟩, ⟨f0, f1, f2, f3⟩, ⟨v0, v1, v2, v3⟩, hb3⟩ := HF w2 (by simpa using hb2))
          go_roundw
          case rel => exact ⟨m, k + 1, by omega, by omega, rfl, by go_num, ms, own_stays HO3.out (fun j _ hj => hb3.block j hj), HML.out, by rw [HTK.out, htk, List.filter_append]; simp [HQ.out], hdr ms HDR.out, HGR.out.trans ⟨hb3.os, hb3.tape, hb3.output, hb3.size, fun j hj _ => hb3.block j hj⟩⟩
          case measure => simp [intOf]; omega
        | false =>
          rw [hq] at hcall
          have HQ := Lib.hid hq; clear hq
          have hwm : IntKind.i64.wrap ((m : Int) + 1) = (m : Int) + 1 := by rw [IntKind.wrap_i64]; omega
          go_wp2_with (go_at_fn f; refine hcall.mono ?_; rintro e w2 ⟨rfl, hb2⟩; obtain ⟨⟨m0, m1, m2, m3⟩, ⟨f0, f1, f2, f3⟩, ⟨v0, v1, v2, v3⟩, hb3⟩ := HF w2 (by simpa using hb2))
          go_roundw
          case rel =>
            have hown2 : w2.ownsRow B 31 4 (.slice (some ⟨g, 0, none⟩) n c) n (cellsOf ms) := own_stays HO3.out fun j _ hj => hb3.block j hj
            obtain ⟨o0, g0⟩ := hown2.stored (m * 4) (.string ⟨x.path.toArray⟩)
            obtain ⟨o1, g1⟩ := o0.stored (m * 4 + 1) (.int .u8 x.kind)
            obtain ⟨o2, g2⟩ := o1.stored (m * 4 + 2) (.slice x.adr x.len x.cap)
            obtain ⟨o3, g3⟩ := o2.stored (m * 4 + 3) (.string ⟨x.link.toArray⟩)
            have hmm : m < ms.length := by rw [HML.out]; omega
            rw [cellsOf_put hmm] at o3
            have hgr3 : w.grownBy w2 (some g) := HGR.out.trans ⟨hb3.os, hb3.tape, hb3.output, hb3.size, fun j hj _ => hb3.block j hj⟩
            refine ⟨m + 1, k + 1, by omega, by omega, by go_num, by go_num, ms.set m x, o3, by rw [List.length_set]; exact HML.out, ?_, hdr _ (by rw [List.drop_set_of_lt hmk]; exact HDR.out), (((hgr3.trans g0).trans g1).trans g2).trans g3⟩
            rw [List.take_add_one, List.getElem?_set_self hmm, List.take_set_of_le (Nat.le_refl m), HTK.out, htk, List.filter_append]
            simp [HQ.out]
          case measure => simp [intOf]; omega
      · obtain rfl : k = n := by omega
        clear hp hrunIdx
        have hmz : (0 : Int) ≤ (m : Int) ∧ (m : Int) ≤ (k : Int) := by omega
        obtain ⟨w2, hclr, ho2, hg2⟩ := clear_own ho m (c - m) hmk
        have hgr2 := hgr.trans hg2
        have hfin : ms.take m = ns.filter (fun x => !p x) := by
          rw [htake, List.take_of_length_le (by have := HL.out; omega)]
        rw [hfin] at ho2
        have hmlen : m = (ns.filter fun x => !p x).length := (own_nodes ho2).1
        have HGR := Lib.hid hgr2; clear hgr hgr2 hg2
        have HFI := Lib.hid hfin; clear hfin
        have HML := Lib.hid hmlen; clear hmlen
        have HO2 := Lib.hid ho2; clear ho2 ho htake hdrop hml
        go_wp2_with fail
        go_ret
        exact ⟨_, m, rfl, HML.out, HO2.out, HGR.out⟩

end Go.Proofs.Ytlbipmlbkcdmnaa
