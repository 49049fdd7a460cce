/-
  Find.
-/
import Derived.Test.YtlbipmlbkcdmnaaLWd
namespace Go.Proofs.Ytlbipmlbkcdmnaa
open Go.RowKit Go.Shelf

def findL (ss : List Sn) (s : List UInt8) : Sn × Bool :=
  if s = [] then (⟨[], 53, [], []⟩, true) else
  match ss.find? (fun t => t.path == s) with
  | some t => (t, true)
  | none => (⟨[], 0, [], []⟩, false)

theorem find_at {q : Sn → Bool} : ∀ {ss : List Sn} {k : Nat} {t : Sn}, ss[k]? = some t → q t = true → (∀ (j : Nat) (u : Sn), j < k → ss[j]? = some u → q u = false) → ss.find? q = some t
  | [], _, _, h, _, _ => by simp at h
  | x :: r, 0, t, h, hq, _ => by
    obtain rfl : x = t := by simpa using h
    simp [hq]
  | x :: r, k + 1, t, h, hq, hb => by
    have := hb 0 x (by omega) rfl
    rw [List.find?_cons, this]
    exact find_at (k := k) (by simpa using h) hq fun j u hj hu => hb (j + 1) u (by omega) (by simpa using hu)

theorem find_none {q : Sn → Bool} {ss : List Sn} (h : ∀ (j : Nat) (u : Sn), ss[j]? = some u → q u = false) : ss.find? q = none := by
  rw [List.find?_eq_none]
  intro x hx
  obtain ⟨j, hj, e⟩ := List.getElem_of_mem hx
  rw [h j x (by rw [← e]; exact List.getElem?_eq_getElem hj)]
  simp

set_option maxRecDepth 100000 in
set_option maxHeartbeats 1000000 in
theorem place_any {w : World} {A : Option Addr} {n c : Nat} {ns : List Nd} (s : List UInt8) (h : Nodes w A ns) (hl : n = ns.length) (hn : n ≤ 2199023255500) :
    Calls Try.prog 60 #[.slice A n c, .string ⟨s.toArray⟩] w fun e w' => ∃ i, e = .returned (.int .i64 i) ∧ Idx (fun x => x.path == s) ns i ∧ Below w.heap.size w w' := by
  have hA : Below w.heap.size w (w.alloc (.cells #[.string ⟨s.toArray⟩] 9)) := (Below.refl _ w).alloc (Nat.le_refl _) _
  have hk := heap_alloc_new w (.cells #[.string ⟨s.toArray⟩] 9)
  have HI := index_any 74 #[.pointer (some ⟨w.heap.size, 0, none⟩)] (enters_of Try.func74 (by kernel_rfl) rfl) (fun x => x.path == s) (c := c) (h.below hA) hl hn (fun W x _ hW => by
    have e1 := (cell_of ((hW.block _ (by simp)).trans hk)).1
    exact is_path x w.heap.size s W e1 (by have := hW.size; simp at this; omega))
  clear h hl hk
  go_enter Try.func60, Try.ntmps60
  go_wp2_with fail
  refine HI.mono ?_
  rintro e w1 ⟨i, rfl, hi, hb⟩
  go_wp2_with fail
  go_ret
  exact ⟨i, rfl, hi, hA.trans (hb.mono (by simp))⟩

theorem idx_find {w : World} {ns : List Nd} {ss : List Sn} {s : List UInt8} {i : Int} (hL : Like w ns ss) (h : Idx (fun x => x.path == s) ns i) :
    (i = -1 ∧ ss.find? (fun t => t.path == s) = none) ∨ ∃ (k : Nat) (x : Nd) (t : Sn), i = k ∧ ns[k]? = some x ∧ NdAt w x t ∧ ss.find? (fun t => t.path == s) = some t := by
  have at' : ∀ (j : Nat) (u : Sn), ss[j]? = some u → ∃ x, ns[j]? = some x ∧ NdAt w x u := fun j u hu => by
    have hj := (List.getElem?_eq_some_iff.1 hu).1
    have hx : ns[j]? = some (ns[j]'(by rw [hL.1]; exact hj)) := List.getElem?_eq_getElem _
    exact ⟨_, hx, hL.2 j _ u hx hu⟩
  rcases h with ⟨rfl, hall⟩ | ⟨k, rfl, ⟨x, hx, hp⟩, hb⟩
  · refine .inl ⟨rfl, find_none fun j u hu => ?_⟩
    obtain ⟨x, hx, hn⟩ := at' j u hu
    rw [← hn.1]; exact hall j x hx
  · have hk := (List.getElem?_eq_some_iff.1 hx).1
    have ht : ss[k]? = some (ss[k]'(by rw [← hL.1]; exact hk)) := List.getElem?_eq_getElem _
    have hn := hL.2 k x _ hx ht
    refine .inr ⟨k, x, _, rfl, hx, hn, find_at ht (by rw [← hn.1]; exact hp) fun j u hj hu => ?_⟩
    obtain ⟨y, hy, hny⟩ := at' j u hu
    rw [← hny.1]; exact hb j y hj hy

theorem node_cells {w : World} {g : Nat} {a b c d : Value} {t : Nat} (h : w.heap[g]? = some (.cells #[a, b, c, d] t (0, 0))) : w.cell? ⟨g, 0, none⟩ = some a ∧ w.cell? ⟨g, 1, none⟩ = some b ∧ w.cell? ⟨g, 2, none⟩ = some c ∧ w.cell? ⟨g, 3, none⟩ = some d := by
  unfold World.cell?
  dsimp only
  rw [h]
  exact ⟨rfl, rfl, rfl, rfl⟩
theorem node_frozen {w : World} {g : Nat} {a b c d : Value} {t : Nat} (h : w.heap[g]? = some (.cells #[a, b, c, d] t (0, 0))) : w.frozen? ⟨g, 0, none⟩ = false ∧ w.frozen? ⟨g, 1, none⟩ = false ∧ w.frozen? ⟨g, 2, none⟩ = false ∧ w.frozen? ⟨g, 3, none⟩ = false := by
  unfold World.frozen?
  dsimp only
  rw [h]
  exact ⟨rfl, rfl, rfl, rfl⟩

set_option maxRecDepth 100000 in
set_option maxHeartbeats 4000000 in
theorem find_any {w : World} {A : Option Addr} {n c : Nat} {ns : List Nd} {ss : List Sn} (s : List UInt8) (h : Nodes w A ns) (hL : Like w ns ss) (hl : n = ns.length) (hn : n ≤ 2199023255500) :
    Calls Try.prog 35 #[.slice A n c, .string ⟨s.toArray⟩] w fun e w' => ∃ y : Nd, e = .returned (.tuple #[.agg y.cells.toArray, .bool (findL ss s).2]) ∧ NdOwn w' w.heap.size y (findL ss s).1 ∧ Below w.heap.size w w' := by
  have hk := heap_alloc_new w (.cells #[.string ⟨#[]⟩, .int .u8 0, .slice none 0 0, .string ⟨#[]⟩] 31)
  have hA : Below w.heap.size w (w.alloc (.cells #[.string ⟨#[]⟩, .int .u8 0, .slice none 0 0, .string ⟨#[]⟩] 31)) := (Below.refl _ w).alloc (Nat.le_refl _) _
  -- what the result's cell is, behind a store of a node
  have HR : ∀ (W : World) (y : Nd), W.heap[w.heap.size]? = some (.cells #[.string ⟨#[]⟩, .int .u8 0, .slice none 0 0, .string ⟨#[]⟩] 31 (0, 0)) → ∃ W', W' = (((W.setCell ⟨w.heap.size, 0, none⟩ (.string ⟨y.path.toArray⟩)).setCell ⟨w.heap.size, 1, none⟩ (.int .u8 y.kind)).setCell ⟨w.heap.size, 2, none⟩ (.slice y.adr y.len y.cap)).setCell ⟨w.heap.size, 3, none⟩ (.string ⟨y.link.toArray⟩) ∧
      W'.cell? ⟨w.heap.size, 0, none⟩ = some (.string ⟨y.path.toArray⟩) ∧ W'.cell? ⟨w.heap.size, 1, none⟩ = some (.int .u8 y.kind) ∧ W'.cell? ⟨w.heap.size, 2, none⟩ = some (.slice y.adr y.len y.cap) ∧ W'.cell? ⟨w.heap.size, 3, none⟩ = some (.string ⟨y.link.toArray⟩) ∧ (∀ j, j ≠ w.heap.size → W'.heap[j]? = W.heap[j]?) ∧
      (Below w.heap.size w W → Below w.heap.size w W') := by
    intro W y hW
    have m1 := heap_setCell_same _ w.heap.size 0 _ 31 (.string ⟨y.path.toArray⟩) hW
    have m2 := heap_setCell_same _ w.heap.size 1 _ 31 (.int .u8 y.kind) m1
    have m3 := heap_setCell_same _ w.heap.size 2 _ 31 (.slice y.adr y.len y.cap) m2
    have m4 := heap_setCell_same _ w.heap.size 3 _ 31 (.string ⟨y.link.toArray⟩) m3
    refine ⟨_, rfl, ?_, ?_, ?_, ?_, fun j hj => by rw [Below.heap_setCell _ _ _ _ hj, Below.heap_setCell _ _ _ _ hj, Below.heap_setCell _ _ _ _ hj, Below.heap_setCell _ _ _ _ hj], fun hb => (((hb.setCell (p := ⟨w.heap.size, 0, none⟩) (Nat.le_refl _) _).setCell (p := ⟨w.heap.size, 1, none⟩) (Nat.le_refl _) _).setCell (p := ⟨w.heap.size, 2, none⟩) (Nat.le_refl _) _).setCell (p := ⟨w.heap.size, 3, none⟩) (Nat.le_refl _) _⟩
    all_goals (unfold World.cell?; dsimp only; rw [m4]; rfl)
  by_cases hs : s = []
  · subst hs
    have hk5 := heap_alloc_new w (.cells #[.string ⟨#[]⟩, .int .u8 53, .slice none 0 0, .string ⟨#[]⟩] 31)
    obtain ⟨d0, d1, d2, d3⟩ := node_cells hk5
    clear h hL hl HR
    go_enter Try.func35, Try.ntmps35
    go_wp2_with fail
    refine bodyPost_ret (v := .tuple #[.agg #[.string ⟨#[]⟩, .int .u8 53, .slice none 0 0, .string ⟨#[]⟩], .bool true]) ?_ rfl ⟨⟨[], 53, none, 0, 0, []⟩, rfl, ⟨rfl, rfl, rfl, World.ownsRow_nil _ _ _ _, by simp⟩, (Below.refl _ w).alloc (Nat.le_refl _) _⟩
    simp [results, Try.f35, go_sem, d0, d1, d2, d3]
  · have hes : s.isEmpty = false := emp hs
    have HP := place_any s (c := c) (h.below hA) hl hn
    have hLA := hL.below hA
    have hNA := h.below hA
    have HL := Lib.hid hl
    clear h hL hl
    have hrun : ∀ (K : Ending → World → Prop),
        (∀ w1, (findL ss s = (⟨[], 0, [], []⟩, false)) → Below (w.heap.size + 1) (w.alloc (.cells #[.string ⟨#[]⟩, .int .u8 0, .slice none 0 0, .string ⟨#[]⟩] 31)) w1 → K (.returned (.int .i64 (-1))) w1) →
        (∀ (w1 : World) (k : Nat) (x : Nd) (t : Sn), ns[k]? = some x → NdAt w1 x t → findL ss s = (t, true) → Nodes w1 A ns → Below (w.heap.size + 1) (w.alloc (.cells #[.string ⟨#[]⟩, .int .u8 0, .slice none 0 0, .string ⟨#[]⟩] 31)) w1 → K (.returned (.int .i64 (k : Int))) w1) →
        Calls Try.prog 60 #[.slice A n c, .string ⟨s.toArray⟩] (w.alloc (.cells #[.string ⟨#[]⟩, .int .u8 0, .slice none 0 0, .string ⟨#[]⟩] 31)) K := by
      intro K hK1 hK2
      refine HP.mono ?_
      rintro e w1 ⟨i, rfl, hi, hb⟩
      rcases idx_find hLA hi with ⟨rfl, hf⟩ | ⟨k, x, t, rfl, hx, hn, hf⟩
      · exact hK1 w1 (by unfold findL; rw [if_neg hs, hf]) (by simpa using hb)
      · exact hK2 w1 k x t hx (hn.below hb) (by unfold findL; rw [if_neg hs, hf]) (hNA.below hb) (by simpa using hb)
    clear HP hLA hNA
    go_enter Try.func35, Try.ntmps35
    go_wp2_with fail
    refine hrun _ ?_ ?_
    · intro w1 hfd hb1
      have hk1 := (hb1.block w.heap.size (by omega)).trans hk
      obtain ⟨e0, e1, e2, e3⟩ := node_cells hk1
      obtain ⟨q0, q1, q2, q3⟩ := node_frozen hk1
      obtain ⟨W', hW', d0, d1, d2, d3, hoth, hbel⟩ := HR w1 ⟨[], 0, none, 0, 0, []⟩ hk1
      go_wp2_with fail
      rw [← hW', hfd]
      refine bodyPost_ret (v := .tuple #[.agg #[.string ⟨#[]⟩, .int .u8 0, .slice none 0 0, .string ⟨#[]⟩], .bool false]) ?_ rfl ⟨⟨[], 0, none, 0, 0, []⟩, rfl, ⟨rfl, rfl, rfl, World.ownsRow_nil _ _ _ _, by simp⟩, hbel (hA.trans (hb1.mono (by omega)))⟩
      simp [results, Try.f35, go_sem, d0, d1, d2, d3]
    · intro w1 k x t hx hxt hfd hN1 hb1
      have hk1 := (hb1.block w.heap.size (by omega)).trans hk
      have hkn : (k : Int) < (n : Int) := by
        have := (List.getElem?_eq_some_iff.1 hx).1
        rw [HL.out]; omega
      have hk0 : ¬ ((k : Int) < 0) := by omega
      rcases hN1 with rfl | ⟨b, off, rfl, hbl, hc⟩
      · simp at hx
      obtain ⟨y0, y1, y2, y3⟩ := hc k x hx
      clear hc
      obtain ⟨xo, hxo⟩ : ∃ xo, xo = (.cells #[.string ⟨x.path.toArray⟩, .int .u8 x.kind, .slice x.adr x.len x.cap, .string ⟨x.link.toArray⟩] 31 : Obj) := ⟨_, rfl⟩
      have hbA : Below w1.heap.size w1 (w1.alloc xo) := (Below.refl _ w1).alloc (Nat.le_refl _) _
      have hCl := clone_any (c := x.cap) (hxt.2.2.2.1.below hbA) hxt.2.2.2.2.2
      have hl1 : w.heap.size < w1.heap.size := (Array.getElem?_eq_some_iff.1 hk1).1
      have HZ : ∀ w2, Below (w1.heap.size + 1) (w1.alloc xo) w2 → w2.heap[w1.heap.size]? = some xo ∧ w2.heap[w.heap.size]? = some (.cells #[.string ⟨#[]⟩, .int .u8 0, .slice none 0 0, .string ⟨#[]⟩] 31 (0, 0)) ∧ Below w1.heap.size w1 w2 := fun w2 h2 =>
        ⟨(h2.block _ (by omega)).trans (heap_alloc_new w1 xo), (h2.block _ (by omega)).trans ((Below.heap_alloc w1 xo _ hl1).trans hk1), hbA.trans (h2.mono (by omega))⟩
      rw [hxo] at hCl HZ
      go_wp2_with (go_at_call 46; refine hCl.mono ?_; rintro e w2 ⟨A2, c2, rfl, hr2, hb2⟩; obtain ⟨z1, z2, hb3⟩ := HZ w2 (by simpa using hb2); obtain ⟨p0, p1, p2, p3⟩ := node_cells z1; obtain ⟨g0, g1, g2, g3⟩ := node_frozen z1; obtain ⟨e0, e1, e2, e3⟩ := node_cells z2; obtain ⟨q0, q1, q2, q3⟩ := node_frozen z2)
      have hk3 : (w2.setCell ⟨w1.heap.size, 2, none⟩ (.slice A2 x.len c2)).heap[w.heap.size]? = some (.cells #[.string ⟨#[]⟩, .int .u8 0, .slice none 0 0, .string ⟨#[]⟩] 31 (0, 0)) := (Below.heap_setCell _ _ _ _ (by simp; omega)).trans z2
      obtain ⟨W', hW', d0, d1, d2, d3, hoth, hbel⟩ := HR _ { x with adr := A2, len := x.len, cap := c2 } hk3
      have hb5 : Below w.heap.size w (w2.setCell ⟨w1.heap.size, 2, none⟩ (.slice A2 x.len c2)) :=
        ((hA.trans (hb1.mono (by omega))).trans (hb3.mono (by omega))).setCell (p := ⟨w1.heap.size, 2, none⟩) (Nat.le_of_lt hl1) _
      rw [← hW', hfd]
      have hown : W'.ownsRow w.heap.size 5 1 (.slice A2 x.len c2) x.len (t.data.map (Value.int .u8)) :=
        own_wider (own_stays hr2 fun j h1 _ => by
          have h3 : w1.heap.size + 1 ≤ j := by simpa using h1
          rw [hoth j (by omega), Below.heap_setCell _ _ _ _ (by simp; omega)]) (by simp; omega)
      refine bodyPost_ret (v := .tuple #[.agg #[.string ⟨x.path.toArray⟩, .int .u8 x.kind, .slice A2 x.len c2, .string ⟨x.link.toArray⟩], .bool true]) ?_ rfl ⟨{ x with adr := A2, len := x.len, cap := c2 }, rfl, ⟨hxt.1, hxt.2.1, hxt.2.2.1, hown, hxt.2.2.2.2.2⟩, hbel hb5⟩
      simp [results, Try.f35, go_sem, d0, d1, d2, d3]

end Go.Proofs.Ytlbipmlbkcdmnaa
