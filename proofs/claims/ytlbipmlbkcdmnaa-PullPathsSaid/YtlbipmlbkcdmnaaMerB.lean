/-
  Nodes without some: DeleteFunc, in a row of one's own.
-/
import Derived.Test.YtlbipmlbkcdmnaaHV
import Derived.Laws.CopyRow
namespace Go.Proofs.Ytlbipmlbkcdmnaa
open Go.RowKit Go.Shelf

theorem zero31 (w : World) : (zeroValue 31).run Try.prog w = .ok (.agg #[.string ⟨#[]⟩, .int .u8 0, .slice none 0 0, .string ⟨#[]⟩]) w := by kernel_rfl

/-- A node takes another's place. -/
theorem cellsOf_put {ns : List Nd} {j : Nat} (h : j < ns.length) (x : Nd) :
    ((((cellsOf ns).set (j * 4) (.string ⟨x.path.toArray⟩)).set (j * 4 + 1) (.int .u8 x.kind)).set (j * 4 + 2) (.slice x.adr x.len x.cap)).set (j * 4 + 3) (.string ⟨x.link.toArray⟩) = cellsOf (ns.set j x) := by
  induction ns generalizing j with
  | nil => simp at h
  | cons y r ih =>
    unfold cellsOf at ih ⊢
    rw [List.flatMap_cons]
    cases j with
    | zero => simp [Nd.cells]
    | succ j =>
      have := ih (j := j) (by simpa using h)
      rw [List.set_cons_succ, List.flatMap_cons, ← this]
      simp [Nd.cells, show (j + 1) * 4 = j * 4 + 1 + 1 + 1 + 1 by omega]

theorem cellsOf_take (ns : List Nd) (m : Nat) (hm : m ≤ ns.length) : (cellsOf ns).take (m * 4) = cellsOf (ns.take m) := by
  have h1 : cellsOf ns = cellsOf (ns.take m) ++ cellsOf (ns.drop m) := by
    unfold cellsOf
    rw [← List.flatMap_append, List.take_append_drop]
  have h2 : (cellsOf (ns.take m)).length = m * 4 := by rw [cellsOf_length, List.length_take]; congr 1; omega
  rw [h1, List.take_append_of_le_length (by omega), List.take_of_length_le (by omega)]

theorem clear_own {w : World} {B g n c : Nat} {ms : List Nd} (h : w.ownsRow B 31 4 (.slice (some ⟨g, 0, none⟩) n c) n (cellsOf ms)) (m cm : Nat) (hmn : m < n) :
    ∃ w', (Builtin.clear_ #[28] 0 #[.slice (some ⟨g, m * 4, none⟩) (n - m) cm]).run Try.prog w = .ok (.tuple #[]) w' ∧ w'.ownsRow B 31 4 (.slice (some ⟨g, 0, none⟩) m c) m (cellsOf (ms.take m)) ∧ w.grownBy w' (some g) := by
  have hml := (own_nodes h).1
  rcases h.2 with ⟨h', _⟩ | ⟨g', cap', cur, h', hb, hg, hnc, hcm, hcs, htake⟩
  · simp at h'
  · simp only [Value.slice.injEq, Option.some.injEq, Addr.mk.injEq, and_true, true_and] at h'
    obtain ⟨rfl, rfl⟩ := h'
    obtain ⟨vs, hvs⟩ : ∃ vs, vs = (Builtin.zeroCells (Value.agg #[.string ⟨#[]⟩, .int .u8 0, .slice none 0 0, .string ⟨#[]⟩]).cells (n - m)).toList := ⟨_, rfl⟩
    have hlen : vs.length = (n - m) * 4 := by rw [hvs]; simp [Builtin.zeroCells, Value.cells]
    have hone : ∀ v ∈ vs, v.oneCell' = true := by
      intro v hv
      rw [hvs] at hv
      simp [Builtin.zeroCells, Value.cells] at hv
      obtain ⟨a, ha, rfl⟩ := hv
      have h4 : a % 4 = 0 ∨ a % 4 = 1 ∨ a % 4 = 2 ∨ a % 4 = 3 := by omega
      rcases h4 with h4 | h4 | h4 | h4 <;> (rw [h4]; rfl)
    have hst := run_storeCells_at (P := Try.prog) g (m * 4) 31 vs 0 cur w hg (by omega) hone
    obtain ⟨q, rfl⟩ : ∃ q, n = m + q + 1 := ⟨n - m - 1, by omega⟩
    simp only [Nat.add_zero] at hst
    generalize hcur : (List.take (m * 4) cur.toList ++ vs ++ List.drop (m * 4 + vs.length) cur.toList).toArray = cur2 at hst
    have hsz : cur2.size = c * 4 := by
      rw [← hcur]
      simp
      omega
    refine ⟨w.setRow g cur2, ?_, ⟨?_, .inr ⟨g, c, cur2, rfl, hb, setRow_heap w g cur cur2 31 _ hg, by omega, hcm, hsz, ?_⟩⟩, ⟨rfl, rfl, rfl, by simp [World.setRow], fun k _ hk => setRow_other w g k cur2 (fun e => hk (by rw [e]))⟩⟩
    · rw [show m + q + 1 - m = q + 1 by omega] at hvs ⊢
      simp [Builtin.clear_, run_underlying Try.underlying28, ← hvs, hst]
    · rw [cellsOf_length, List.length_take]
      congr 1
      omega
    · rw [← hcur, ← cellsOf_take ms m (by omega), ← htake, List.take_take]
      simp only [List.append_assoc]
      rw [List.take_append_of_le_length (by simp; omega), List.take_take]
      congr 1
      omega

/-- The row of one's own in which nodes are moved to the front. -/
def Front (w0 w : World) (B g n c m k : Nat) (p : Nd → Bool) (ns : List Nd) : Prop :=
  ∃ ms : List Nd, w.ownsRow B 31 4 (.slice (some ⟨g, 0, none⟩) n c) n (cellsOf ms) ∧ ms.length = n ∧ ms.take m = (ns.take k).filter (fun x => !p x) ∧ ms.drop k = ns.drop k ∧ w0.grownBy w (some g)

set_option maxRecDepth 100000 in
set_option maxHeartbeats 4000000 in
theorem delete_any (f : Nat) (lb : Array Value) (eg : ∀ args w, (callFunc f args).run Try.prog w = .ok (.enter f args) w) (p : Nd → Bool) {w : World} {B : Nat} {A : Option Addr} {n c : Nat} {ns : List Nd} (h : w.ownsRow B 31 4 (.slice A n c) n (cellsOf ns)) (hB : B ≤ w.heap.size) (hn : n ≤ 1000000000000)
    (hp : ∀ (W : World) (x : Nd), x ∈ ns → Below B w W → Calls Try.prog f (#[.agg x.cells.toArray] ++ lb) W fun e w' => e = .returned (.bool (p x)) ∧ Below W.heap.size W w') :
    Calls Try.prog 47 #[.slice A n c, .func (.func f) #[] lb] w fun e w' => ∃ v m, e = .returned v ∧ m = (ns.filter fun x => !p x).length ∧ w'.ownsRow B 31 4 v m (cellsOf (ns.filter fun x => !p x)) ∧ w.grownBy w' (Value.slice A n c).ownBlock := by
  obtain ⟨hl, hN⟩ := own_nodes h
  have HI := index_any f lb eg p (c := c) hN hl hn (fun W x hx hb => hp W x hx (hb.mono hB))
  clear hN
  have HL := Lib.hid hl; clear hl
  have HO := Lib.hid h; clear h
  have hrunIdx : ∀ (K : Ending → World → Prop), (∀ i w', Idx p ns i → Below w.heap.size w w' → K (.returned (.int .i64 i)) w') → Calls Try.prog 50 #[.slice A n c, .func (.func f) #[] lb] w K := fun K hK => HI.mono (by rintro e w' ⟨i, rfl, h1, h2⟩; exact hK i w' h1 h2)
  clear HI
  go_enter Try.func47, Try.ntmps47
  go_wp2_with fail
  refine hrunIdx _ ?_
  rintro i w1 (⟨rfl, hall⟩ | ⟨k0, rfl, ⟨x0, hx0, hp0⟩, hbefore⟩) hb1
  · go_wp2_with fail
    go_ret
    have hfil : ns.filter (fun x => !p x) = ns := by
      rw [List.filter_eq_self]
      intro x hx
      obtain ⟨j, hj, e⟩ := List.getElem_of_mem hx
      simp [hall j x (by rw [← e]; exact List.getElem?_eq_getElem hj)]
    rw [hfil]
    exact ⟨_, n, rfl, HL.out, own_below HO.out hb1, ⟨hb1.os, hb1.tape, hb1.output, hb1.size, fun k hk _ => hb1.block k hk⟩⟩
  · have hk0 : k0 < n := by rw [HL.out]; exact (List.getElem?_eq_some_iff.1 hx0).1
    rcases HO.out.2 with ⟨_, h0⟩ | ⟨g, cap, cur, hv, hgb, hg, hcap, hcm, hcs, _⟩
    · omega
    injection hv with hv1 _ hv3
    subst hv1; subst hv3
    have hgl := (Array.getElem?_eq_some_iff.1 hg).1
    have hne : ¬ ((k0 : Int) = -1) := by omega
    have hne2 : ((k0 : Int) == -1) = false := by simp
    have hw0 : IntKind.i64.wrap ((k0 : Int) + 1) = (k0 : Int) + 1 := by rw [IntKind.wrap_i64]; omega
    go_wp2_with fail
    go_loopw [5, 6, 7, 16, 17, 18, 19, 20, 21, 22, 23, 24, 25, 26, 27, 28, 29, 30, 31, 32, 33, 34, 35] (fun i j _ _ _ _ _ _ _ _ _ _ _ _ _ _ _ _ _ _ _ _ _ wr => ∃ m k : Nat, m < k ∧ k ≤ n ∧ i = .int .i64 m ∧ j = .int .i64 k ∧ Front w wr B g n c m k p ns)
      (fun _ j _ _ _ _ _ _ _ _ _ _ _ _ _ _ _ _ _ _ _ _ _ _ => n - (intOf j).toNat)
    case atStart =>
      refine ⟨k0, k0 + 1, by omega, by omega, rfl, by go_num, ns, own_below HO.out hb1, HL.out.symm, ?_, rfl, ⟨hb1.os, hb1.tape, hb1.output, hb1.size, fun k hk _ => hb1.block k hk⟩⟩
      rw [List.take_add_one, hx0, List.filter_append]
      have : (ns.take k0).filter (fun x => !p x) = ns.take k0 := by
        rw [List.filter_eq_self]
        intro x hx
        obtain ⟨j, hj, e⟩ := List.getElem_of_mem hx
        rw [List.length_take] at hj
        have := hbefore j x (by omega) (by rw [← e, List.getElem_take]; exact List.getElem?_eq_getElem (by omega))
        simp [this]
      rw [this]
      simp [hp0]
    case round =>
      obtain ⟨m, k, hmk, hk, rfl, rfl, ms, ho, hml, htake, hdrop, hgr⟩ := hrel
      by_cases hlt : k < n
      · have hkz : (k : Int) < (n : Int) := by omega
        obtain ⟨x, hx⟩ : ∃ x, ns[k]? = some x := ⟨_, List.getElem?_eq_getElem (by have := HL.out; omega)⟩
        have hxm : ms[k]? = some x := by
          have h1 : (ms.drop k)[0]? = (ns.drop k)[0]? := by rw [hdrop]
          simpa [hx] using h1
        have cellAt : ∀ i v, i < 4 → x.cells[i]? = some v → wr.cell? ⟨g, k * 4 + i, none⟩ = some v := fun i v hi hv => by
          have := ho.cells (g := g) rfl (k * 4 + i) v ((cellsOf_at hxm hi).trans hv)
          rw [Addr.add_lit] at this
          simpa using this
        have x0 : wr.cell? ⟨g, k * 4, none⟩ = some (.string ⟨x.path.toArray⟩) := cellAt 0 _ (by omega) rfl
        have x1 : wr.cell? ⟨g, k * 4 + 1, none⟩ = some (.int .u8 x.kind) := cellAt 1 _ (by omega) rfl
        have x2 : wr.cell? ⟨g, k * 4 + 2, none⟩ = some (.slice x.adr x.len x.cap) := cellAt 2 _ (by omega) rfl
        have x3 : wr.cell? ⟨g, k * 4 + 3, none⟩ = some (.string ⟨x.link.toArray⟩) := cellAt 3 _ (by omega) rfl
        have hgw : g < wr.heap.size := by have := hgr.size; omega
        have hbA : Below wr.heap.size wr (wr.alloc (.cells #[.string ⟨x.path.toArray⟩, .int .u8 x.kind, .slice x.adr x.len x.cap, .string ⟨x.link.toArray⟩] 31)) := (Below.refl _ wr).alloc (Nat.le_refl _) _
        have hbB : Below B w wr := (Below.refl B w).grown hgr hB (fun j e => by cases e; exact hgb)
        have hcall := hp (wr.alloc (.cells #[.string ⟨x.path.toArray⟩, .int .u8 x.kind, .slice x.adr x.len x.cap, .string ⟨x.link.toArray⟩] 31)) x (List.mem_of_getElem? hx) (hbB.trans (hbA.mono (Nat.le_trans hB hbB.size)))
        obtain ⟨y, hy⟩ : ∃ y, ms[m]? = some y := ⟨_, List.getElem?_eq_getElem (by omega)⟩
        have cellM : ∀ i v, i < 4 → y.cells[i]? = some v → wr.cell? ⟨g, m * 4 + i, none⟩ = some v := fun i v hi hv => by
          have := ho.cells (g := g) rfl (m * 4 + i) v ((cellsOf_at hy hi).trans hv)
          rw [Addr.add_lit] at this
          simpa using this
        have HF : ∀ w2, Below (wr.heap.size + 1) (wr.alloc (.cells #[.string ⟨x.path.toArray⟩, .int .u8 x.kind, .slice x.adr x.len x.cap, .string ⟨x.link.toArray⟩] 31)) w2 →
            (w2.cell? ⟨g, m * 4, none⟩ = some (.string ⟨y.path.toArray⟩) ∧ w2.cell? ⟨g, m * 4 + 1, none⟩ = some (.int .u8 y.kind) ∧ w2.cell? ⟨g, m * 4 + 2, none⟩ = some (.slice y.adr y.len y.cap) ∧ w2.cell? ⟨g, m * 4 + 3, none⟩ = some (.string ⟨y.link.toArray⟩)) ∧
            (w2.frozen? ⟨g, m * 4, none⟩ = false ∧ w2.frozen? ⟨g, m * 4 + 1, none⟩ = false ∧ w2.frozen? ⟨g, m * 4 + 2, none⟩ = false ∧ w2.frozen? ⟨g, m * 4 + 3, none⟩ = false) ∧
            (w2.cell? ⟨wr.heap.size, 0, none⟩ = some (.string ⟨x.path.toArray⟩) ∧ w2.cell? ⟨wr.heap.size, 1, none⟩ = some (.int .u8 x.kind) ∧ w2.cell? ⟨wr.heap.size, 2, none⟩ = some (.slice x.adr x.len x.cap) ∧ w2.cell? ⟨wr.heap.size, 3, none⟩ = some (.string ⟨x.link.toArray⟩)) ∧ Below wr.heap.size wr w2 := by
          intro w2 h2
          have h3 : Below wr.heap.size wr w2 := hbA.trans (h2.mono (by omega))
          have h4 := (h2.block wr.heap.size (by omega)).trans (heap_alloc_new wr (.cells #[.string ⟨x.path.toArray⟩, .int .u8 x.kind, .slice x.adr x.len x.cap, .string ⟨x.link.toArray⟩] 31))
          have cc : ∀ i v, i < 4 → y.cells[i]? = some v → w2.cell? ⟨g, m * 4 + i, none⟩ = some v := fun i v hi hv => (h3.cell (p := ⟨g, m * 4 + i, none⟩) hgw).trans (cellM i v hi hv)
          have ff : ∀ i, w2.frozen? ⟨g, i, none⟩ = false := fun i => (h3.frozen (p := ⟨g, i, none⟩) hgw).trans (ho.frozenAt _)
          refine ⟨⟨cc 0 _ (by omega) rfl, cc 1 _ (by omega) rfl, cc 2 _ (by omega) rfl, cc 3 _ (by omega) rfl⟩, ⟨ff _, ff _, ff _, ff _⟩, ?_, h3⟩
          unfold World.cell?
          dsimp only
          rw [h4]
          exact ⟨rfl, rfl, rfl, rfl⟩
        have htk : ns.take (k + 1) = ns.take k ++ [x] := by rw [List.take_add_one, hx]; rfl
        have hdr : ∀ zs : List Nd, zs.drop k = ns.drop k → zs.drop (k + 1) = ns.drop (k + 1) := fun zs hz => by rw [← List.drop_drop, hz, List.drop_drop]
        have HO3 := Lib.hid ho; clear ho
        have HGR := Lib.hid hgr; clear hgr
        have HTK := Lib.hid htake; clear htake
        have HDR := Lib.hid hdrop; clear hdrop
        have HX := Lib.hid hx; clear hx
        have HML := Lib.hid hml; clear hml
        clear hp hrunIdx cellAt cellM hxm hy hx0 hbefore
        unfold Nd.cells at hcall
        cases hq : p x with
        | true =>
          rw [hq] at hcall
          have HQ := Lib.hid hq; clear hq
          go_wp2_with (go_at_fn f; refine hcall.mono ?_; rintro e w2 ⟨rfl, hb2⟩; obtain ⟨⟨m0, m1, m2, m3⟩, ⟨f0, f1, f2, f3⟩, ⟨v0, v1, v2, v3⟩, hb3⟩ := HF w2 (by simpa using hb2))
          go_roundw
          case rel => exact ⟨m, k + 1, by omega, by omega, rfl, by go_num, ms, own_stays HO3.out (fun j _ hj => hb3.block j hj), HML.out, by rw [HTK.out, htk, List.filter_append]; simp [HQ.out], hdr ms HDR.out, HGR.out.trans ⟨hb3.os, hb3.tape, hb3.output, hb3.size, fun j hj _ => hb3.block j hj⟩⟩
          case measure => simp [intOf]; omega
        | false =>
          rw [hq] at hcall
          have HQ := Lib.hid hq; clear hq
          have hwm : IntKind.i64.wrap ((m : Int) + 1) = (m : Int) + 1 := by rw [IntKind.wrap_i64]; omega
          go_wp2_with (go_at_fn f; refine hcall.mono ?_; rintro e w2 ⟨rfl, hb2⟩; obtain ⟨⟨m0, m1, m2, m3⟩, ⟨f0, f1, f2, f3⟩, ⟨v0, v1, v2, v3⟩, hb3⟩ := HF w2 (by simpa using hb2))
          go_roundw
          case rel =>
            have hown2 : w2.ownsRow B 31 4 (.slice (some ⟨g, 0, none⟩) n c) n (cellsOf ms) := own_stays HO3.out fun j _ hj => hb3.block j hj
            obtain ⟨o0, g0⟩ := hown2.stored (m * 4) (.string ⟨x.path.toArray⟩)
            obtain ⟨o1, g1⟩ := o0.stored (m * 4 + 1) (.int .u8 x.kind)
            obtain ⟨o2, g2⟩ := o1.stored (m * 4 + 2) (.slice x.adr x.len x.cap)
            obtain ⟨o3, g3⟩ := o2.stored (m * 4 + 3) (.string ⟨x.link.toArray⟩)
            have hmm : m < ms.length := by rw [HML.out]; omega
            rw [cellsOf_put hmm] at o3
            have hgr3 : w.grownBy w2 (some g) := HGR.out.trans ⟨hb3.os, hb3.tape, hb3.output, hb3.size, fun j hj _ => hb3.block j hj⟩
            refine ⟨m + 1, k + 1, by omega, by omega, by go_num, by go_num, ms.set m x, o3, by rw [List.length_set]; exact HML.out, ?_, hdr _ (by rw [List.drop_set_of_lt hmk]; exact HDR.out), (((hgr3.trans g0).trans g1).trans g2).trans g3⟩
            rw [List.take_add_one, List.getElem?_set_self hmm, List.take_set_of_le (Nat.le_refl m), HTK.out, htk, List.filter_append]
            simp [HQ.out]
          case measure => simp [intOf]; omega
      · obtain rfl : k = n := by omega
        clear hp hrunIdx
        have hmz : (0 : Int) ≤ (m : Int) ∧ (m : Int) ≤ (k : Int) := by omega
        obtain ⟨w2, hclr, ho2, hg2⟩ := clear_own ho m (c - m) hmk
        have hgr2 := hgr.trans hg2
        have hfin : ms.take m = ns.filter (fun x => !p x) := by
          rw [htake, List.take_of_length_le (by have := HL.out; omega)]
        rw [hfin] at ho2
        have hmlen : m = (ns.filter fun x => !p x).length := (own_nodes ho2).1
        have HGR := Lib.hid hgr2; clear hgr hgr2 hg2
        have HFI := Lib.hid hfin; clear hfin
        have HML := Lib.hid hmlen; clear hmlen
        have HO2 := Lib.hid ho2; clear ho2 ho htake hdrop hml
        go_wp2_with fail
        go_ret
        exact ⟨_, m, rfl, HML.out, HO2.out, HGR.out⟩

end Go.Proofs.Ytlbipmlbkcdmnaa

/-
  What is below a path, and a tree without it.
-/
namespace Go.Proofs.Ytlbipmlbkcdmnaa
open Go.RowKit Go.Shelf

def belowL (p s : List UInt8) : Bool := s.isEmpty || Lib.hasPrefix p (s ++ [47])

set_option maxRecDepth 100000 in
set_option maxHeartbeats 1000000 in
theorem under1_any (x : Nd) (b : Nat) (s : List UInt8) (hl : s.length ≤ 4000000000000) (w : World) (hs : w.cell? ⟨b, 0, none⟩ = some (.string ⟨s.toArray⟩)) (hb : b < w.heap.size) :
    Calls Try.prog 72 #[.agg x.cells.toArray, .pointer (some ⟨b, 0, none⟩)] w fun e w' => e = .returned (.bool (belowL x.path s)) ∧ Below w.heap.size w w' := by
  obtain ⟨p, k, A, n, c, l⟩ := x
  unfold Nd.cells
  dsimp only
  have h2 : (w.alloc (.cells #[.string ⟨p.toArray⟩, .int .u8 k, .slice A n c, .string ⟨l.toArray⟩] 31)).cell? ⟨b, 0, none⟩ = some (.string ⟨s.toArray⟩) := (World.cell?_of_block (Below.heap_alloc w _ b hb)).trans hs
  by_cases he : s = []
  · subst he
    go_enter Try.func72, Try.ntmps72
    go_wp2_with fail
    go_ret
    exact ⟨rfl, (Below.refl _ w).alloc (Nat.le_refl _) _⟩
  · have e1 := emp he
    have HP : ∀ w, Calls Try.prog 73 #[.string ⟨p.toArray⟩, .string ((ByteArray.mk s.toArray) ++ (ByteArray.mk #[47]))] w fun e w' => e = .returned (.bool (belowL p s)) ∧ w' = w := fun w => by
      have := Try.strings_HasPrefix ⟨p.toArray⟩ ((ByteArray.mk s.toArray) ++ (ByteArray.mk [47].toArray)) w
      rw [cat_mk] at this
      unfold belowL
      rw [e1, Bool.false_or, cat_mk s [47]]
      exact this
    go_enter Try.func72, Try.ntmps72
    go_wp2_with (go_at_call 73; refine (HP _).mono ?_; rintro e w' ⟨rfl, rfl⟩)
    go_ret
    exact ⟨rfl, (Below.refl _ w).alloc (Nat.le_refl _) _⟩

set_option maxHeartbeats 400000 in
theorem under_fn (s : List UInt8) (w : World) : Calls Try.prog 53 #[.string ⟨s.toArray⟩] w fun e w' => e = .returned (.func (.func 72) #[] #[.pointer (some ⟨w.heap.size, 0, none⟩)]) ∧ w' = w.alloc (.cells #[.string ⟨s.toArray⟩] 9) := by
  go_enter Try.func53, Try.ntmps53
  go_wp2_with fail
  go_ret
  exact ⟨rfl, rfl⟩

set_option maxRecDepth 100000 in
set_option maxHeartbeats 1000000 in
/-- Not below. -/
theorem notBelow_any (x : Nd) (b d : Nat) (s : List UInt8) (hl : s.length ≤ 4000000000000) (w : World) (hd : w.cell? ⟨d, 0, none⟩ = some (.func (.func 72) #[] #[.pointer (some ⟨b, 0, none⟩)])) (hdl : d < w.heap.size) (hs : w.cell? ⟨b, 0, none⟩ = some (.string ⟨s.toArray⟩)) (hb : b < w.heap.size) :
    Calls Try.prog 59 (#[.agg x.cells.toArray] ++ #[.pointer (some ⟨d, 0, none⟩)]) w fun e w' => e = .returned (.bool (!belowL x.path s)) ∧ Below w.heap.size w w' := by
  obtain ⟨w1, hw1⟩ : ∃ w1, w.alloc (.cells x.cells.toArray 31) = w1 := ⟨_, rfl⟩
  have hA : Below w.heap.size w w1 := by rw [← hw1]; exact (Below.refl _ w).alloc (Nat.le_refl _) _
  have d2 := (hA.cell (p := ⟨d, 0, none⟩) hdl).trans hd
  have HU := under1_any x b s hl w1 ((hA.cell (p := ⟨b, 0, none⟩) hb).trans hs) (by have := hA.size; omega)
  rw [← hw1] at HU d2 hA
  clear hw1
  obtain ⟨p, k, A, n, c, l⟩ := x
  unfold Nd.cells at *
  dsimp only at *
  show Calls Try.prog 59 #[_, _] w _
  go_enter Try.func59, Try.ntmps59
  go_wp2_with (go_at_call 72; refine HU.mono ?_; rintro e w' ⟨rfl, hb2⟩)
  go_ret
  exact ⟨rfl, hA.trans (hb2.mono (by simp))⟩

set_option maxRecDepth 100000 in
set_option maxHeartbeats 1000000 in
/-- It, or below it. -/
theorem itOrBelow_any (x : Nd) (a b d : Nat) (s : List UInt8) (hl : s.length ≤ 4000000000000) (w : World) (ha : w.cell? ⟨a, 0, none⟩ = some (.string ⟨s.toArray⟩)) (hal : a < w.heap.size) (hd : w.cell? ⟨d, 0, none⟩ = some (.func (.func 72) #[] #[.pointer (some ⟨b, 0, none⟩)])) (hdl : d < w.heap.size) (hs : w.cell? ⟨b, 0, none⟩ = some (.string ⟨s.toArray⟩)) (hb : b < w.heap.size) :
    Calls Try.prog 54 (#[.agg x.cells.toArray] ++ #[.pointer (some ⟨a, 0, none⟩), .pointer (some ⟨d, 0, none⟩)]) w fun e w' => e = .returned (.bool (x.path == s || belowL x.path s)) ∧ Below w.heap.size w w' := by
  obtain ⟨w1, hw1⟩ : ∃ w1, w.alloc (.cells x.cells.toArray 31) = w1 := ⟨_, rfl⟩
  have hA : Below w.heap.size w w1 := by rw [← hw1]; exact (Below.refl _ w).alloc (Nat.le_refl _) _
  have d2 := (hA.cell (p := ⟨d, 0, none⟩) hdl).trans hd
  have a2 := (hA.cell (p := ⟨a, 0, none⟩) hal).trans ha
  have HU := under1_any x b s hl w1 ((hA.cell (p := ⟨b, 0, none⟩) hb).trans hs) (by have := hA.size; omega)
  rw [← hw1] at HU d2 hA a2
  clear hw1
  obtain ⟨p, k, A, n, c, l⟩ := x
  unfold Nd.cells at *
  dsimp only at *
  show Calls Try.prog 54 #[_, _, _] w _
  by_cases he : p = s
  · subst he
    go_enter Try.func54, Try.ntmps54
    go_wp2_with fail
    go_ret
    exact ⟨by simp, hA⟩
  · have e1 : (p == s) = false := by simpa using he
    go_enter Try.func54, Try.ntmps54
    go_wp2_with (go_at_call 72; refine HU.mono ?_; rintro e w' ⟨rfl, hb2⟩)
    go_ret
    exact ⟨by rw [e1]; rfl, hA.trans (hb2.mono (by simp))⟩

end Go.Proofs.Ytlbipmlbkcdmnaa

/-
  Below and Remove.
-/
namespace Go.Proofs.Ytlbipmlbkcdmnaa
open Go.RowKit Go.Shelf

theorem likeO_nil {w : World} {B : Nat} {ss : List Sn} (h : LikeO w B [] ss) : ss = [] := List.eq_nil_of_length_eq_zero h.1.symm
theorem likeO_cons {w : World} {B : Nat} {x : Nd} {r : List Nd} {ss : List Sn} (h : LikeO w B (x :: r) ss) : ∃ s t, ss = s :: t ∧ NdOwn w B x s ∧ LikeO w B r t := by
  obtain ⟨h1, h2⟩ := h
  cases ss with
  | nil => simp at h1
  | cons s t => exact ⟨s, t, rfl, h2 0 x s rfl rfl, by simpa using h1, fun j y u hy hu => h2 (j + 1) y u (by simpa using hy) (by simpa using hu)⟩
theorem likeO_mk {w : World} {B : Nat} {x : Nd} {r : List Nd} {s : Sn} {t : List Sn} (h : NdOwn w B x s) (h2 : LikeO w B r t) : LikeO w B (x :: r) (s :: t) :=
  ⟨by simp [h2.1], fun j y u hy hu => by
    cases j with
    | zero => cases hy; cases hu; exact h
    | succ j => exact h2.2 j y u (by simpa using hy) (by simpa using hu)⟩

theorem likeO_filter {w : World} {B : Nat} {p : Nd → Bool} {q : Sn → Bool} (hpq : ∀ x s, NdOwn w B x s → p x = q s) : ∀ {ns : List Nd} {ss : List Sn}, LikeO w B ns ss → LikeO w B (ns.filter p) (ss.filter q)
  | [], ss, h => by rw [likeO_nil h]; exact ⟨rfl, fun j x s hx => by simp at hx⟩
  | x :: r, ss, h => by
    obtain ⟨s, t, rfl, h1, h2⟩ := likeO_cons h
    have ih := likeO_filter hpq h2
    rw [List.filter_cons, List.filter_cons, hpq x s h1]
    split
    · exact likeO_mk h1 ih
    · exact ih

theorem likeO_grown {w w' : World} {B B' : Nat} {v : Value} {n : Nat} {cs : List Value} {ns : List Nd} {ss : List Sn} (h : LikeO w B ns ss) (ho : w.ownsRow B' 31 4 v n cs) (hg : w.grownBy w' v.ownBlock) : LikeO w' B ns ss := by
  rcases ho.2 with ⟨rfl, _⟩ | ⟨g, cap, cur, rfl, _, hb, _⟩
  · exact h.below ⟨hg.os, hg.tape, hg.output, hg.size, fun k hk => hg.block k hk (by simp [Value.ownBlock])⟩
  · exact ⟨h.1, fun j x s hx hs => (h.2 j x s hx hs).other hb fun k hk hne => hg.block k hk (by simpa [Value.ownBlock] using hne)⟩

set_option maxRecDepth 100000 in
set_option maxHeartbeats 1000000 in
theorem below_any {w : World} {A : Option Addr} {n c : Nat} {ns : List Nd} {ss : List Sn} (s : List UInt8) (hs : s.length ≤ 4000000000000) (h : Nodes w A ns) (hL : Like w ns ss) (hl : n = ns.length) (hn : n ≤ 1000000000000) (hnil : A = none → n = 0) :
    Calls Try.prog 34 #[.slice A n c, .string ⟨s.toArray⟩] w fun e w' => ∃ v m ms, e = .returned v ∧ w'.ownsRow w.heap.size 31 4 v m (cellsOf ms) ∧ LikeO w' w.heap.size ms (ss.filter fun t => belowL t.path s) ∧ Below w.heap.size w w' := by
  obtain ⟨w2, hw2⟩ : ∃ w2, ((w.alloc (.cells #[.string ⟨s.toArray⟩] 9)).alloc (.cells #[.nilFunc] 76)).setCell ⟨w.heap.size + 1, 0, none⟩ (.func (.func 72) #[] #[.pointer (some ⟨w.heap.size, 0, none⟩)]) = w2 := ⟨_, rfl⟩
  have hb2 : Below w.heap.size w w2 := by
    rw [← hw2]
    exact (((Below.refl _ w).alloc (Nat.le_refl _) _).alloc (by simp) _).setCell (p := ⟨w.heap.size + 1, 0, none⟩) (by simp) _
  have z2 : w2.heap.size = w.heap.size + 2 := by rw [← hw2]; simp [World.setCell]
  have k1 : w2.heap[w.heap.size]? = some (.cells #[.string ⟨s.toArray⟩] 9 (0, 0)) := by
    rw [← hw2, Below.heap_setCell _ _ _ _ (by simp), Below.heap_alloc _ _ _ (by simp)]
    exact heap_alloc_new w _
  have k2 : w2.heap[w.heap.size + 1]? = some (.cells #[.func (.func 72) #[] #[.pointer (some ⟨w.heap.size, 0, none⟩)]] 76 (0, 0)) := by
    rw [← hw2]
    refine set_one (v := .nilFunc) ?_
    have := heap_alloc_new (w.alloc (.cells #[.string ⟨s.toArray⟩] 9)) (.cells #[.nilFunc] 76)
    rwa [World.size_alloc] at this
  have HC := copied_any (c := c) (h.below hb2) (hL.below hb2) hl hn hnil
  rw [← hw2] at HC
  clear h hl hnil
  have hcell := heap_alloc_new (w.alloc (.cells #[.string ⟨s.toArray⟩] 9)) (.cells #[.nilFunc] 76)
  rw [World.size_alloc] at hcell
  obtain ⟨c9, f9⟩ := cell_of hcell
  clear hcell
  have hst : (store ⟨w.heap.size + 1, 0, none⟩ (.func (.func 72) #[] #[.pointer (some ⟨w.heap.size, 0, none⟩)])).run Try.prog ((w.alloc (.cells #[.string ⟨s.toArray⟩] 9)).alloc (.cells #[.nilFunc] 76)) = .ok () w2 := by
    rw [run_store _ _ _ _ _ rfl, c9]
    simp only [f9]
    rw [← hw2]
    rfl
  rw [hw2] at HC
  go_enter Try.func34, Try.ntmps34
  go_wp2_with (first | (go_at_call 53; refine (under_fn _ _).mono ?_; rintro e w' ⟨rfl, rfl⟩))
  refine HC.mono ?_
  rintro e w3 ⟨A', c', ms, rfl, ho3, hL3, hb3⟩
  have l1 := (Array.getElem?_eq_some_iff.1 k1).1
  have l2 := (Array.getElem?_eq_some_iff.1 k2).1
  have HD := delete_any 59 #[.pointer (some ⟨w.heap.size + 1, 0, none⟩)] (enters_of Try.func59 (by kernel_rfl) rfl) (fun x => !belowL x.path s) ho3 hb3.size hn (fun W x _ hW => by
    have e1 := (cell_of ((hW.block _ l1).trans ((hb3.block _ l1).trans k1))).1
    have e2 := (cell_of ((hW.block _ l2).trans ((hb3.block _ l2).trans k2))).1
    have := hW.size
    have := hb3.size
    exact notBelow_any x w.heap.size (w.heap.size + 1) s hs W e2 (by omega) e1 (by omega))
  have HO := Lib.hid ho3; clear ho3
  go_wp2_with fail
  refine HD.mono ?_
  rintro e w4 ⟨v, m, rfl, hm, ho4, hg4⟩
  go_wp2_with fail
  go_ret
  have hb4 : Below w.heap.size w3 w4 := (Below.refl _ w3).grown hg4 (by have := hb3.size; omega) (fun k e => by have := own_from HO.out k e; omega)
  refine ⟨v, m, _, rfl, own_wider ho4 (by omega), ?_, hb2.trans ((hb3.mono (by omega)).trans hb4)⟩
  have h5 : LikeO w4 w.heap.size ms ss := by
    have := likeO_grown hL3 HO.out hg4
    exact ⟨this.1, fun j x t hx ht => (this.2 j x t hx ht).wider (by omega)⟩
  exact likeO_filter (fun x t hxt => by rw [hxt.1]; simp) h5

set_option maxRecDepth 100000 in
set_option maxHeartbeats 1000000 in
theorem remove_any {w : World} {A : Option Addr} {n c : Nat} {ns : List Nd} {ss : List Sn} (s : List UInt8) (hs : s.length ≤ 4000000000000) (h : Nodes w A ns) (hL : Like w ns ss) (hl : n = ns.length) (hn : n ≤ 1000000000000) (hnil : A = none → n = 0) :
    Calls Try.prog 28 #[.slice A n c, .string ⟨s.toArray⟩] w fun e w' => ∃ v m ms, e = .returned v ∧ w'.ownsRow w.heap.size 31 4 v m (cellsOf ms) ∧ LikeO w' w.heap.size ms (ss.filter fun t => !(t.path == s || belowL t.path s)) ∧ Below w.heap.size w w' := by
  obtain ⟨w2, hw2⟩ : ∃ w2, (((w.alloc (.cells #[.string ⟨s.toArray⟩] 9)).alloc (.cells #[.string ⟨s.toArray⟩] 9)).alloc (.cells #[.nilFunc] 76)).setCell ⟨w.heap.size + 1 + 1, 0, none⟩ (.func (.func 72) #[] #[.pointer (some ⟨w.heap.size + 1, 0, none⟩)]) = w2 := ⟨_, rfl⟩
  have hb2 : Below w.heap.size w w2 := by
    rw [← hw2]
    exact ((((Below.refl _ w).alloc (Nat.le_refl _) _).alloc (by simp) _).alloc (by simp; omega) _).setCell (p := ⟨w.heap.size + 1 + 1, 0, none⟩) (by simp; omega) _
  have z2 : w2.heap.size = w.heap.size + 3 := by rw [← hw2]; simp [World.setCell]
  have k0 : w2.heap[w.heap.size]? = some (.cells #[.string ⟨s.toArray⟩] 9 (0, 0)) := by
    rw [← hw2, Below.heap_setCell _ _ _ _ (by simp; omega), Below.heap_alloc _ _ _ (by simp; omega), Below.heap_alloc _ _ _ (by simp)]
    exact heap_alloc_new w _
  have k1 : w2.heap[w.heap.size + 1]? = some (.cells #[.string ⟨s.toArray⟩] 9 (0, 0)) := by
    rw [← hw2, Below.heap_setCell _ _ _ _ (by simp), Below.heap_alloc _ _ _ (by simp)]
    have := heap_alloc_new (w.alloc (.cells #[.string ⟨s.toArray⟩] 9)) (.cells #[.string ⟨s.toArray⟩] 9)
    rwa [World.size_alloc] at this
  have hcell := heap_alloc_new ((w.alloc (.cells #[.string ⟨s.toArray⟩] 9)).alloc (.cells #[.string ⟨s.toArray⟩] 9)) (.cells #[.nilFunc] 76)
  rw [World.size_alloc, World.size_alloc] at hcell
  have k2 : w2.heap[w.heap.size + 1 + 1]? = some (.cells #[.func (.func 72) #[] #[.pointer (some ⟨w.heap.size + 1, 0, none⟩)]] 76 (0, 0)) := by
    rw [← hw2]
    exact set_one (v := .nilFunc) hcell
  have HC := copied_any (c := c) (h.below hb2) (hL.below hb2) hl hn hnil
  clear h hl hnil
  obtain ⟨c9, f9⟩ := cell_of hcell
  have hc0 : (w.alloc (.cells #[.string ⟨s.toArray⟩] 9)).cell? ⟨w.heap.size, 0, none⟩ = some (.string ⟨s.toArray⟩) := (cell_of (heap_alloc_new w (.cells #[.string ⟨s.toArray⟩] 9))).1
  clear hcell
  have hst : (store ⟨w.heap.size + 1 + 1, 0, none⟩ (.func (.func 72) #[] #[.pointer (some ⟨w.heap.size + 1, 0, none⟩)])).run Try.prog (((w.alloc (.cells #[.string ⟨s.toArray⟩] 9)).alloc (.cells #[.string ⟨s.toArray⟩] 9)).alloc (.cells #[.nilFunc] 76)) = .ok () w2 := by
    rw [run_store _ _ _ _ _ rfl, c9]
    simp only [f9]
    rw [← hw2]
    rfl
  have HU := under_fn s (w.alloc (.cells #[.string ⟨s.toArray⟩] 9))
  rw [World.size_alloc] at HU
  go_enter Try.func28, Try.ntmps28
  go_wp2_with (first | (go_at_call 53; refine HU.mono ?_; rintro e w' ⟨rfl, rfl⟩))
  refine HC.mono ?_
  rintro e w3 ⟨A', c', ms, rfl, ho3, hL3, hb3⟩
  have l0 := (Array.getElem?_eq_some_iff.1 k0).1
  have l1 := (Array.getElem?_eq_some_iff.1 k1).1
  have l2 := (Array.getElem?_eq_some_iff.1 k2).1
  have HD := delete_any 54 #[.pointer (some ⟨w.heap.size, 0, none⟩), .pointer (some ⟨w.heap.size + 1 + 1, 0, none⟩)] (enters_of Try.func54 (by kernel_rfl) rfl) (fun x => x.path == s || belowL x.path s) ho3 hb3.size hn (fun W x _ hW => by
    have e0 := (cell_of ((hW.block _ l0).trans ((hb3.block _ l0).trans k0))).1
    have e1 := (cell_of ((hW.block _ l1).trans ((hb3.block _ l1).trans k1))).1
    have e2 := (cell_of ((hW.block _ l2).trans ((hb3.block _ l2).trans k2))).1
    have := hW.size
    have := hb3.size
    exact itOrBelow_any x w.heap.size (w.heap.size + 1) (w.heap.size + 1 + 1) s hs W e0 (by omega) e2 (by omega) e1 (by omega))
  have HO := Lib.hid ho3; clear ho3
  go_wp2_with fail
  refine HD.mono ?_
  rintro e w4 ⟨v, m, rfl, hm, ho4, hg4⟩
  go_wp2_with fail
  go_ret
  have hb4 : Below w.heap.size w3 w4 := (Below.refl _ w3).grown hg4 (by have := hb3.size; omega) (fun k e => by have := own_from HO.out k e; omega)
  refine ⟨v, m, _, rfl, own_wider ho4 (by omega), ?_, hb2.trans ((hb3.mono (by omega)).trans hb4)⟩
  have h5 : LikeO w4 w.heap.size ms ss := by
    have := likeO_grown hL3 HO.out hg4
    exact ⟨this.1, fun j x t hx ht => (this.2 j x t hx ht).wider (by omega)⟩
  exact likeO_filter (fun x t hxt => by rw [hxt.1]) h5

end Go.Proofs.Ytlbipmlbkcdmnaa

/-
  Find.
-/
namespace Go.Proofs.Ytlbipmlbkcdmnaa
open Go.RowKit Go.Shelf

def findL (ss : List Sn) (s : List UInt8) : Sn × Bool :=
  if s = [] then (⟨[], 53, [], []⟩, true) else
  match ss.find? (fun t => t.path == s) with
  | some t => (t, true)
  | none => (⟨[], 0, [], []⟩, false)

theorem find_at {q : Sn → Bool} : ∀ {ss : List Sn} {k : Nat} {t : Sn}, ss[k]? = some t → q t = true → (∀ (j : Nat) (u : Sn), j < k → ss[j]? = some u → q u = false) → ss.find? q = some t
  | [], _, _, h, _, _ => by simp at h
  | x :: r, 0, t, h, hq, _ => by
    obtain rfl : x = t := by simpa using h
    simp [hq]
  | x :: r, k + 1, t, h, hq, hb => by
    have := hb 0 x (by omega) rfl
    rw [List.find?_cons, this]
    exact find_at (k := k) (by simpa using h) hq fun j u hj hu => hb (j + 1) u (by omega) (by simpa using hu)

theorem find_none {q : Sn → Bool} {ss : List Sn} (h : ∀ (j : Nat) (u : Sn), ss[j]? = some u → q u = false) : ss.find? q = none := by
  rw [List.find?_eq_none]
  intro x hx
  obtain ⟨j, hj, e⟩ := List.getElem_of_mem hx
  rw [h j x (by rw [← e]; exact List.getElem?_eq_getElem hj)]
  simp

set_option maxRecDepth 100000 in
set_option maxHeartbeats 1000000 in
theorem place_any {w : World} {A : Option Addr} {n c : Nat} {ns : List Nd} (s : List UInt8) (h : Nodes w A ns) (hl : n = ns.length) (hn : n ≤ 1000000000000) :
    Calls Try.prog 60 #[.slice A n c, .string ⟨s.toArray⟩] w fun e w' => ∃ i, e = .returned (.int .i64 i) ∧ Idx (fun x => x.path == s) ns i ∧ Below w.heap.size w w' := by
  have hA : Below w.heap.size w (w.alloc (.cells #[.string ⟨s.toArray⟩] 9)) := (Below.refl _ w).alloc (Nat.le_refl _) _
  have hk := heap_alloc_new w (.cells #[.string ⟨s.toArray⟩] 9)
  have HI := index_any 74 #[.pointer (some ⟨w.heap.size, 0, none⟩)] (enters_of Try.func74 (by kernel_rfl) rfl) (fun x => x.path == s) (c := c) (h.below hA) hl hn (fun W x _ hW => by
    have e1 := (cell_of ((hW.block _ (by simp)).trans hk)).1
    exact is_path x w.heap.size s W e1 (by have := hW.size; simp at this; omega))
  clear h hl hk
  go_enter Try.func60, Try.ntmps60
  go_wp2_with fail
  refine HI.mono ?_
  rintro e w1 ⟨i, rfl, hi, hb⟩
  go_wp2_with fail
  go_ret
  exact ⟨i, rfl, hi, hA.trans (hb.mono (by simp))⟩

theorem idx_find {w : World} {ns : List Nd} {ss : List Sn} {s : List UInt8} {i : Int} (hL : Like w ns ss) (h : Idx (fun x => x.path == s) ns i) :
    (i = -1 ∧ ss.find? (fun t => t.path == s) = none) ∨ ∃ (k : Nat) (x : Nd) (t : Sn), i = k ∧ ns[k]? = some x ∧ NdAt w x t ∧ ss.find? (fun t => t.path == s) = some t := by
  have at' : ∀ (j : Nat) (u : Sn), ss[j]? = some u → ∃ x, ns[j]? = some x ∧ NdAt w x u := fun j u hu => by
    have hj := (List.getElem?_eq_some_iff.1 hu).1
    have hx : ns[j]? = some (ns[j]'(by rw [hL.1]; exact hj)) := List.getElem?_eq_getElem _
    exact ⟨_, hx, hL.2 j _ u hx hu⟩
  rcases h with ⟨rfl, hall⟩ | ⟨k, rfl, ⟨x, hx, hp⟩, hb⟩
  · refine .inl ⟨rfl, find_none fun j u hu => ?_⟩
    obtain ⟨x, hx, hn⟩ := at' j u hu
    rw [← hn.1]; exact hall j x hx
  · have hk := (List.getElem?_eq_some_iff.1 hx).1
    have ht : ss[k]? = some (ss[k]'(by rw [← hL.1]; exact hk)) := List.getElem?_eq_getElem _
    have hn := hL.2 k x _ hx ht
    refine .inr ⟨k, x, _, rfl, hx, hn, find_at ht (by rw [← hn.1]; exact hp) fun j u hj hu => ?_⟩
    obtain ⟨y, hy, hny⟩ := at' j u hu
    rw [← hny.1]; exact hb j y hj hy

theorem node_cells {w : World} {g : Nat} {a b c d : Value} {t : Nat} (h : w.heap[g]? = some (.cells #[a, b, c, d] t (0, 0))) : w.cell? ⟨g, 0, none⟩ = some a ∧ w.cell? ⟨g, 1, none⟩ = some b ∧ w.cell? ⟨g, 2, none⟩ = some c ∧ w.cell? ⟨g, 3, none⟩ = some d := by
  unfold World.cell?
  dsimp only
  rw [h]
  exact ⟨rfl, rfl, rfl, rfl⟩
theorem node_frozen {w : World} {g : Nat} {a b c d : Value} {t : Nat} (h : w.heap[g]? = some (.cells #[a, b, c, d] t (0, 0))) : w.frozen? ⟨g, 0, none⟩ = false ∧ w.frozen? ⟨g, 1, none⟩ = false ∧ w.frozen? ⟨g, 2, none⟩ = false ∧ w.frozen? ⟨g, 3, none⟩ = false := by
  unfold World.frozen?
  dsimp only
  rw [h]
  exact ⟨rfl, rfl, rfl, rfl⟩

set_option maxRecDepth 100000 in
set_option maxHeartbeats 4000000 in
theorem find_any {w : World} {A : Option Addr} {n c : Nat} {ns : List Nd} {ss : List Sn} (s : List UInt8) (h : Nodes w A ns) (hL : Like w ns ss) (hl : n = ns.length) (hn : n ≤ 1000000000000) :
    Calls Try.prog 35 #[.slice A n c, .string ⟨s.toArray⟩] w fun e w' => ∃ y : Nd, e = .returned (.tuple #[.agg y.cells.toArray, .bool (findL ss s).2]) ∧ NdOwn w' w.heap.size y (findL ss s).1 ∧ Below w.heap.size w w' := by
  have hk := heap_alloc_new w (.cells #[.string ⟨#[]⟩, .int .u8 0, .slice none 0 0, .string ⟨#[]⟩] 31)
  have hA : Below w.heap.size w (w.alloc (.cells #[.string ⟨#[]⟩, .int .u8 0, .slice none 0 0, .string ⟨#[]⟩] 31)) := (Below.refl _ w).alloc (Nat.le_refl _) _
  -- what the result's cell is, behind a store of a node
  have HR : ∀ (W : World) (y : Nd), W.heap[w.heap.size]? = some (.cells #[.string ⟨#[]⟩, .int .u8 0, .slice none 0 0, .string ⟨#[]⟩] 31 (0, 0)) → ∃ W', W' = (((W.setCell ⟨w.heap.size, 0, none⟩ (.string ⟨y.path.toArray⟩)).setCell ⟨w.heap.size, 1, none⟩ (.int .u8 y.kind)).setCell ⟨w.heap.size, 2, none⟩ (.slice y.adr y.len y.cap)).setCell ⟨w.heap.size, 3, none⟩ (.string ⟨y.link.toArray⟩) ∧
      W'.cell? ⟨w.heap.size, 0, none⟩ = some (.string ⟨y.path.toArray⟩) ∧ W'.cell? ⟨w.heap.size, 1, none⟩ = some (.int .u8 y.kind) ∧ W'.cell? ⟨w.heap.size, 2, none⟩ = some (.slice y.adr y.len y.cap) ∧ W'.cell? ⟨w.heap.size, 3, none⟩ = some (.string ⟨y.link.toArray⟩) ∧ (∀ j, j ≠ w.heap.size → W'.heap[j]? = W.heap[j]?) ∧
      (Below w.heap.size w W → Below w.heap.size w W') := by
    intro W y hW
    have m1 := heap_setCell_same _ w.heap.size 0 _ 31 (.string ⟨y.path.toArray⟩) hW
    have m2 := heap_setCell_same _ w.heap.size 1 _ 31 (.int .u8 y.kind) m1
    have m3 := heap_setCell_same _ w.heap.size 2 _ 31 (.slice y.adr y.len y.cap) m2
    have m4 := heap_setCell_same _ w.heap.size 3 _ 31 (.string ⟨y.link.toArray⟩) m3
    refine ⟨_, rfl, ?_, ?_, ?_, ?_, fun j hj => by rw [Below.heap_setCell _ _ _ _ hj, Below.heap_setCell _ _ _ _ hj, Below.heap_setCell _ _ _ _ hj, Below.heap_setCell _ _ _ _ hj], fun hb => (((hb.setCell (p := ⟨w.heap.size, 0, none⟩) (Nat.le_refl _) _).setCell (p := ⟨w.heap.size, 1, none⟩) (Nat.le_refl _) _).setCell (p := ⟨w.heap.size, 2, none⟩) (Nat.le_refl _) _).setCell (p := ⟨w.heap.size, 3, none⟩) (Nat.le_refl _) _⟩
    all_goals (unfold World.cell?; dsimp only; rw [m4]; rfl)
  by_cases hs : s = []
  · subst hs
    have hk5 := heap_alloc_new w (.cells #[.string ⟨#[]⟩, .int .u8 53, .slice none 0 0, .string ⟨#[]⟩] 31)
    obtain ⟨d0, d1, d2, d3⟩ := node_cells hk5
    clear h hL hl HR
    go_enter Try.func35, Try.ntmps35
    go_wp2_with fail
    refine bodyPost_ret (v := .tuple #[.agg #[.string ⟨#[]⟩, .int .u8 53, .slice none 0 0, .string ⟨#[]⟩], .bool true]) ?_ rfl ⟨⟨[], 53, none, 0, 0, []⟩, rfl, ⟨rfl, rfl, rfl, World.ownsRow_nil _ _ _ _, by simp⟩, (Below.refl _ w).alloc (Nat.le_refl _) _⟩
    simp [results, Try.f35, go_sem, d0, d1, d2, d3]
  · have hes : s.isEmpty = false := emp hs
    have HP := place_any s (c := c) (h.below hA) hl hn
    have hLA := hL.below hA
    have hNA := h.below hA
    have HL := Lib.hid hl
    clear h hL hl
    have hrun : ∀ (K : Ending → World → Prop),
        (∀ w1, (findL ss s = (⟨[], 0, [], []⟩, false)) → Below (w.heap.size + 1) (w.alloc (.cells #[.string ⟨#[]⟩, .int .u8 0, .slice none 0 0, .string ⟨#[]⟩] 31)) w1 → K (.returned (.int .i64 (-1))) w1) →
        (∀ (w1 : World) (k : Nat) (x : Nd) (t : Sn), ns[k]? = some x → NdAt w1 x t → findL ss s = (t, true) → Nodes w1 A ns → Below (w.heap.size + 1) (w.alloc (.cells #[.string ⟨#[]⟩, .int .u8 0, .slice none 0 0, .string ⟨#[]⟩] 31)) w1 → K (.returned (.int .i64 (k : Int))) w1) →
        Calls Try.prog 60 #[.slice A n c, .string ⟨s.toArray⟩] (w.alloc (.cells #[.string ⟨#[]⟩, .int .u8 0, .slice none 0 0, .string ⟨#[]⟩] 31)) K := by
      intro K hK1 hK2
      refine HP.mono ?_
      rintro e w1 ⟨i, rfl, hi, hb⟩
      rcases idx_find hLA hi with ⟨rfl, hf⟩ | ⟨k, x, t, rfl, hx, hn, hf⟩
      · exact hK1 w1 (by unfold findL; rw [if_neg hs, hf]) (by simpa using hb)
      · exact hK2 w1 k x t hx (hn.below hb) (by unfold findL; rw [if_neg hs, hf]) (hNA.below hb) (by simpa using hb)
    clear HP hLA hNA
    go_enter Try.func35, Try.ntmps35
    go_wp2_with fail
    refine hrun _ ?_ ?_
    · intro w1 hfd hb1
      have hk1 := (hb1.block w.heap.size (by omega)).trans hk
      obtain ⟨e0, e1, e2, e3⟩ := node_cells hk1
      obtain ⟨q0, q1, q2, q3⟩ := node_frozen hk1
      obtain ⟨W', hW', d0, d1, d2, d3, hoth, hbel⟩ := HR w1 ⟨[], 0, none, 0, 0, []⟩ hk1
      go_wp2_with fail
      rw [← hW', hfd]
      refine bodyPost_ret (v := .tuple #[.agg #[.string ⟨#[]⟩, .int .u8 0, .slice none 0 0, .string ⟨#[]⟩], .bool false]) ?_ rfl ⟨⟨[], 0, none, 0, 0, []⟩, rfl, ⟨rfl, rfl, rfl, World.ownsRow_nil _ _ _ _, by simp⟩, hbel (hA.trans (hb1.mono (by omega)))⟩
      simp [results, Try.f35, go_sem, d0, d1, d2, d3]
    · intro w1 k x t hx hxt hfd hN1 hb1
      have hk1 := (hb1.block w.heap.size (by omega)).trans hk
      have hkn : (k : Int) < (n : Int) := by
        have := (List.getElem?_eq_some_iff.1 hx).1
        rw [HL.out]; omega
      have hk0 : ¬ ((k : Int) < 0) := by omega
      rcases hN1 with rfl | ⟨b, off, rfl, hbl, hc⟩
      · simp at hx
      obtain ⟨y0, y1, y2, y3⟩ := hc k x hx
      clear hc
      obtain ⟨xo, hxo⟩ : ∃ xo, xo = (.cells #[.string ⟨x.path.toArray⟩, .int .u8 x.kind, .slice x.adr x.len x.cap, .string ⟨x.link.toArray⟩] 31 : Obj) := ⟨_, rfl⟩
      have hbA : Below w1.heap.size w1 (w1.alloc xo) := (Below.refl _ w1).alloc (Nat.le_refl _) _
      have hCl := clone_any (c := x.cap) (hxt.2.2.2.1.below hbA) hxt.2.2.2.2.2
      have hl1 : w.heap.size < w1.heap.size := (Array.getElem?_eq_some_iff.1 hk1).1
      have HZ : ∀ w2, Below (w1.heap.size + 1) (w1.alloc xo) w2 → w2.heap[w1.heap.size]? = some xo ∧ w2.heap[w.heap.size]? = some (.cells #[.string ⟨#[]⟩, .int .u8 0, .slice none 0 0, .string ⟨#[]⟩] 31 (0, 0)) ∧ Below w1.heap.size w1 w2 := fun w2 h2 =>
        ⟨(h2.block _ (by omega)).trans (heap_alloc_new w1 xo), (h2.block _ (by omega)).trans ((Below.heap_alloc w1 xo _ hl1).trans hk1), hbA.trans (h2.mono (by omega))⟩
      rw [hxo] at hCl HZ
      go_wp2_with (go_at_call 46; refine hCl.mono ?_; rintro e w2 ⟨A2, c2, rfl, hr2, hb2⟩; obtain ⟨z1, z2, hb3⟩ := HZ w2 (by simpa using hb2); obtain ⟨p0, p1, p2, p3⟩ := node_cells z1; obtain ⟨g0, g1, g2, g3⟩ := node_frozen z1; obtain ⟨e0, e1, e2, e3⟩ := node_cells z2; obtain ⟨q0, q1, q2, q3⟩ := node_frozen z2)
      have hk3 : (w2.setCell ⟨w1.heap.size, 2, none⟩ (.slice A2 x.len c2)).heap[w.heap.size]? = some (.cells #[.string ⟨#[]⟩, .int .u8 0, .slice none 0 0, .string ⟨#[]⟩] 31 (0, 0)) := (Below.heap_setCell _ _ _ _ (by simp; omega)).trans z2
      obtain ⟨W', hW', d0, d1, d2, d3, hoth, hbel⟩ := HR _ { x with adr := A2, len := x.len, cap := c2 } hk3
      have hb5 : Below w.heap.size w (w2.setCell ⟨w1.heap.size, 2, none⟩ (.slice A2 x.len c2)) :=
        ((hA.trans (hb1.mono (by omega))).trans (hb3.mono (by omega))).setCell (p := ⟨w1.heap.size, 2, none⟩) (Nat.le_of_lt hl1) _
      rw [← hW', hfd]
      have hown : W'.ownsRow w.heap.size 5 1 (.slice A2 x.len c2) x.len (t.data.map (Value.int .u8)) :=
        own_wider (own_stays hr2 fun j h1 _ => by
          have h3 : w1.heap.size + 1 ≤ j := by simpa using h1
          rw [hoth j (by omega), Below.heap_setCell _ _ _ _ (by simp; omega)]) (by simp; omega)
      refine bodyPost_ret (v := .tuple #[.agg #[.string ⟨x.path.toArray⟩, .int .u8 x.kind, .slice A2 x.len c2, .string ⟨x.link.toArray⟩], .bool true]) ?_ rfl ⟨{ x with adr := A2, len := x.len, cap := c2 }, rfl, ⟨hxt.1, hxt.2.1, hxt.2.2.1, hown, hxt.2.2.2.2.2⟩, hbel hb5⟩
      simp [results, Try.f35, go_sem, d0, d1, d2, d3]

end Go.Proofs.Ytlbipmlbkcdmnaa

/-
  The document's Up.
-/
namespace Go.Proofs.Ytlbipmlbkcdmnaa
open Go.RowKit Go.Shelf

theorem at_mk (a : List UInt8) (k : Nat) (h : k < a.length) : (ByteArray.mk a.toArray).data[k]! = (ByteArray.mk a.toArray)[k]'h := by
  rw [getElem!_pos _ k (by simpa using h)]
  rfl

theorem lastIdx_hit {a : List UInt8} {k : Nat} (h : k < a.length) (e : ((((ByteArray.mk a.toArray)[k]'h).toNat : Int) == 47) = true) : Lib.lastIdx ⟨a.toArray⟩ 47 (k + 1) = k := by
  unfold Lib.lastIdx
  rw [if_pos (by rw [at_mk a k h]; simpa using e)]

theorem lastIdx_miss {a : List UInt8} {k : Nat} (h : k < a.length) (e : ((((ByteArray.mk a.toArray)[k]'h).toNat : Int) == 47) = false) : Lib.lastIdx ⟨a.toArray⟩ 47 (k + 1) = Lib.lastIdx ⟨a.toArray⟩ 47 k := by
  rw [Lib.lastIdx]
  rw [if_neg (by rw [at_mk a k h]; simpa using e)]

set_option maxRecDepth 100000 in
set_option maxHeartbeats 1000000 in
theorem refUp_any (a : List UInt8) (ha : a.length ≤ 4000000000000) (w : World) : Calls Try.prog 21 #[.string ⟨a.toArray⟩] w fun e w' => e = .returned (.string ⟨(upL a).toArray⟩) ∧ Below w.heap.size w w' := by
  have hw : IntKind.i64.wrap ((a.length : Int) - 1) = (a.length : Int) - 1 := by rw [IntKind.wrap_i64]; omega
  go_enter Try.func21, Try.ntmps21
  go_wp2_with fail
  go_loopw [3, 7, 8, 9, 10, 11, 12, 13, 14] (fun i _ _ _ _ _ _ _ _ wr => ∃ k : Nat, k ≤ a.length ∧ i = .int .i64 ((k : Int) - 1) ∧ Below w.heap.size w wr ∧ Lib.lastIndexByte ⟨a.toArray⟩ 47 = Lib.lastIdx ⟨a.toArray⟩ 47 k)
    (fun i _ _ _ _ _ _ _ _ _ => (intOf i + 1).toNat)
  case atStart => exact ⟨a.length, Nat.le_refl _, rfl, Below.refl _ _, rfl⟩
  case round =>
    obtain ⟨k, hk, rfl, hb, hl⟩ := hrel
    cases k with
    | zero =>
      have h0 : ¬ ((0 : Int) ≤ (((0 : Nat) : Int) - 1)) := by omega
      go_wp2_with fail
      go_ret
      exact ⟨by unfold upL; rw [hl]; rw [show (max (Lib.lastIdx ⟨a.toArray⟩ 47 0) 0).toNat = 0 from rfl]; rfl, hb⟩
    | succ k =>
      have h0 : (0 : Int) ≤ (((k + 1 : Nat) : Int) - 1) := by omega
      have h1 : (((k + 1 : Nat) : Int) - 1) = (k : Int) := by omega
      rw [h1] at h0 ⊢
      have h2 : k < a.length := by omega
      cases hq : ((((ByteArray.mk a.toArray)[k]'h2).toNat : Int) == 47) with
      | true =>
        have hl2 := hl.trans (lastIdx_hit h2 hq)
        have hq2 : (((ByteArray.mk a.toArray)[k]'h2).toNat : Int) = 47 := by simpa using hq
        go_wp2_with fail
        go_ret
        refine ⟨?_, hb⟩
        rw [cut_mk]
        unfold upL
        rw [hl2]
        simp
      | false =>
        have hl2 := hl.trans (lastIdx_miss h2 hq)
        have hw2 : IntKind.i64.wrap ((k : Int) - 1) = (k : Int) - 1 := by rw [IntKind.wrap_i64]; omega
        go_wp2_with fail
        go_roundw
        case rel => exact ⟨k, by omega, by first | rfl | go_num, hb, hl2⟩
        case measure => simp [intOf]

end Go.Proofs.Ytlbipmlbkcdmnaa

/-
  The document's Find.
-/
namespace Go.Proofs.Ytlbipmlbkcdmnaa
open Go.RowKit Go.Shelf

set_option maxRecDepth 100000 in
set_option maxHeartbeats 4000000 in
theorem refFind_any {w : World} {A : Option Addr} {n c : Nat} {ns : List Nd} {ss : List Sn} (s : List UInt8) (h : Nodes w A ns) (hL : Like w ns ss) (hl : n = ns.length) (hn : n ≤ 1000000000000) :
    Calls Try.prog 32 #[.slice A n c, .string ⟨s.toArray⟩] w fun e w' => ∃ y : Nd, e = .returned (.tuple #[.agg y.cells.toArray, .bool (findL ss s).2]) ∧ NdAt w' y (findL ss s).1 ∧ Below w.heap.size w w' := by
  have hk := heap_alloc_new w (.cells #[.string ⟨#[]⟩, .int .u8 0, .slice none 0 0, .string ⟨#[]⟩] 31)
  have hA : Below w.heap.size w (w.alloc (.cells #[.string ⟨#[]⟩, .int .u8 0, .slice none 0 0, .string ⟨#[]⟩] 31)) := (Below.refl _ w).alloc (Nat.le_refl _) _
  have hZ : ∀ W t, NdAt W ⟨[], t, none, 0, 0, []⟩ ⟨[], t, [], []⟩ := fun W t => ⟨rfl, rfl, rfl, ⟨rfl, fun j hj => absurd hj (Nat.not_lt_zero _)⟩, Nat.le_refl _, by simp⟩
  by_cases hs : s = []
  · subst hs
    have hk5 := heap_alloc_new w (.cells #[.string ⟨#[]⟩, .int .u8 53, .slice none 0 0, .string ⟨#[]⟩] 31)
    obtain ⟨d0, d1, d2, d3⟩ := node_cells hk5
    clear h hL hl
    go_enter Try.func32, Try.ntmps32
    go_wp2_with fail
    refine bodyPost_ret (v := .tuple #[.agg #[.string ⟨#[]⟩, .int .u8 53, .slice none 0 0, .string ⟨#[]⟩], .bool true]) ?_ rfl ⟨⟨[], 53, none, 0, 0, []⟩, rfl, hZ _ 53, (Below.refl _ w).alloc (Nat.le_refl _) _⟩
    simp [results, Try.f32, go_sem, d0, d1, d2, d3]
  · have hes : s.isEmpty = false := emp hs
    have HL := Lib.hid hl
    have HLK := Lib.hid hL
    have HN := h.below hA
    clear h hL hl
    go_enter Try.func32, Try.ntmps32
    go_wp2_with fail
    go_loopw [6, 10, 11, 12, 13, 14, 15, 16, 17, 18, 19, 20, 21, 22] (fun i _ _ _ _ _ _ _ _ _ _ _ _ _ wr => ∃ k : Nat, k ≤ n ∧ i = .int .i64 k ∧ wr = w.alloc (.cells #[.string ⟨#[]⟩, .int .u8 0, .slice none 0 0, .string ⟨#[]⟩] 31) ∧ ∀ (j : Nat) (x : Nd), j < k → ns[j]? = some x → (x.path == s) = false)
      (fun i _ _ _ _ _ _ _ _ _ _ _ _ _ _ => n - (intOf i).toNat)
    case atStart => exact ⟨0, Nat.zero_le _, rfl, rfl, fun j x hj => absurd hj (Nat.not_lt_zero _)⟩
    case round =>
      obtain ⟨k, hkn, rfl, rfl, hf⟩ := hrel
      by_cases hlt : k < n
      · have hkz : (k : Int) < (n : Int) := by omega
        obtain ⟨x, hx⟩ : ∃ x, ns[k]? = some x := ⟨_, List.getElem?_eq_getElem (by have := HL.out; omega)⟩
        rcases HN with rfl | ⟨b, off, rfl, hbl, hc⟩
        · simp at hx
        obtain ⟨y0, y1, y2, y3⟩ := hc k x hx
        clear hc
        have HF := Lib.hid hf; clear hf
        have HX := Lib.hid hx; clear hx
        cases hq : (x.path == s) with
        | true =>
          have hfi : Idx (fun x => x.path == s) ns (k : Int) := .inr ⟨k, rfl, ⟨x, HX.out, hq⟩, HF.out⟩
          obtain ⟨t, hxt, hfd⟩ : ∃ t, NdAt w x t ∧ findL ss s = (t, true) := by
            rcases idx_find HLK.out hfi with ⟨h1, _⟩ | ⟨k', x', t, h1, h2, h3, h4⟩
            · omega
            · obtain rfl : k' = k := by omega
              cases HX.out.symm.trans h2
              exact ⟨t, h3, by unfold findL; rw [if_neg hs, h4]⟩
          clear hfi
          have hq2 : s = x.path := (show x.path = s by simpa using hq).symm
          clear hq HF
          subst hq2
          have hk5 := heap_alloc_new w (.cells #[.string ⟨x.path.toArray⟩, .int .u8 x.kind, .slice x.adr x.len x.cap, .string ⟨x.link.toArray⟩] 31)
          obtain ⟨d0, d1, d2, d3⟩ := node_cells hk5
          have hq3 : (x.path == x.path) = true := by simp
          go_wp2_with fail
          rw [hfd]
          have hB2 : Below w.heap.size w (w.alloc (.cells #[.string ⟨x.path.toArray⟩, .int .u8 x.kind, .slice x.adr x.len x.cap, .string ⟨x.link.toArray⟩] 31)) := (Below.refl _ w).alloc (Nat.le_refl _) _
          refine bodyPost_ret (v := .tuple #[.agg #[.string ⟨x.path.toArray⟩, .int .u8 x.kind, .slice x.adr x.len x.cap, .string ⟨x.link.toArray⟩], .bool true]) ?_ rfl ⟨x, rfl, hxt.below hB2, hB2⟩
          simp [results, Try.f32, go_sem, d0, d1, d2, d3]
        | false =>
          have hq2 : ¬ x.path = s := by simpa using hq
          have HQ := Lib.hid hq
          go_wp2_with fail
          go_roundw
          case rel =>
            refine ⟨k + 1, by omega, by go_num, by first | rfl | trivial, fun j y hj hy => ?_⟩
            by_cases hjk : j = k
            · subst hjk
              cases HX.out.symm.trans hy
              exact HQ.out
            · exact HF.out j y (by omega) hy
          case measure => simp [intOf]; omega
      · obtain rfl : k = n := by omega
        go_wp2_with fail
        have hfd : findL ss s = (⟨[], 0, [], []⟩, false) := by
          have hfi : Idx (fun x => x.path == s) ns (-1) := .inl ⟨rfl, fun j x hx => hf j x (by have := (List.getElem?_eq_some_iff.1 hx).1; rw [HL.out]; exact this) hx⟩
          rcases idx_find HLK.out hfi with ⟨_, h1⟩ | ⟨k', x', t, h1, _⟩
          · unfold findL; rw [if_neg hs, h1]
          · omega
        rw [hfd]
        obtain ⟨d0, d1, d2, d3⟩ := node_cells hk
        refine bodyPost_ret (v := .tuple #[.agg #[.string ⟨#[]⟩, .int .u8 0, .slice none 0 0, .string ⟨#[]⟩], .bool false]) ?_ rfl ⟨⟨[], 0, none, 0, 0, []⟩, rfl, hZ _ 0, hA⟩
        simp [results, Try.f32, go_sem, d0, d1, d2, d3]

end Go.Proofs.Ytlbipmlbkcdmnaa
