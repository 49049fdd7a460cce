/-
  Put: one more, or in place of one.
-/
import Derived.Test.YtlbipmlbkcdmnaaAhWd
namespace Go.Proofs.Ytlbipmlbkcdmnaa
open Go.RowKit Go.Shelf

set_option maxHeartbeats 1000000 in
/-- Is it the same path? -/
theorem same_path (x : Nd) (b : Nat) (y : Nd) (w : World) (hs : w.cell? ⟨b, 0, none⟩ = some (.string ⟨y.path.toArray⟩)) (hb : b < w.heap.size) :
    Calls Try.prog 49 #[.agg x.cells.toArray, .pointer (some ⟨b, 0, none⟩)] w fun e w' => e = .returned (.bool (x.path == y.path)) ∧ Below w.heap.size w w' := by
  obtain ⟨p, k, A, n, c, l⟩ := x
  unfold Nd.cells
  dsimp only
  have h2 : (w.alloc (.cells #[.string ⟨p.toArray⟩, .int .u8 k, .slice A n c, .string ⟨l.toArray⟩] 31)).cell? ⟨b, 0, none⟩ = some (.string ⟨y.path.toArray⟩) := (World.cell?_of_block (Below.heap_alloc w _ b hb)).trans hs
  go_enter Try.func49, Try.ntmps49
  go_wp2_with fail
  go_ret
  exact ⟨rfl, (Below.refl _ w).alloc (Nat.le_refl _) _⟩

set_option maxHeartbeats 1000000 in
/-- Is it behind? -/
theorem path_behind (x : Nd) (b : Nat) (y : Nd) (w : World) (hs : w.cell? ⟨b, 0, none⟩ = some (.string ⟨y.path.toArray⟩)) (hb : b < w.heap.size) :
    Calls Try.prog 51 #[.agg x.cells.toArray, .pointer (some ⟨b, 0, none⟩)] w fun e w' => e = .returned (.bool (gtL x.path y.path)) ∧ Below w.heap.size w w' := by
  obtain ⟨p, k, A, n, c, l⟩ := x
  unfold Nd.cells gtL
  dsimp only
  have h2 : (w.alloc (.cells #[.string ⟨p.toArray⟩, .int .u8 k, .slice A n c, .string ⟨l.toArray⟩] 31)).cell? ⟨b, 0, none⟩ = some (.string ⟨y.path.toArray⟩) := (World.cell?_of_block (Below.heap_alloc w _ b hb)).trans hs
  go_enter Try.func51, Try.ntmps51
  go_wp2_with fail
  go_ret
  exact ⟨by simp, (Below.refl _ w).alloc (Nat.le_refl _) _⟩

theorem putG_insert {α : Type} (pa : α → List UInt8) (x : α) : ∀ (l : List α) (i : Nat), i ≤ (l.filter fun z => !(pa z == pa x)).length →
    (∀ (j : Nat) (y : α), j < i → (l.filter fun z => !(pa z == pa x))[j]? = some y → gtL (pa y) (pa x) = false) →
    (∀ (y : α), (l.filter fun z => !(pa z == pa x))[i]? = some y → gtL (pa y) (pa x) = true) →
    putG pa x l = (l.filter fun z => !(pa z == pa x)).take i ++ x :: (l.filter fun z => !(pa z == pa x)).drop i
  | [], i, h, _, _ => by
    obtain rfl : i = 0 := by simpa using h
    rfl
  | y :: r, i, h, h1, h2 => by
    rw [putG]
    by_cases he : (pa y == pa x) = true
    · rw [if_pos he]
      have hf : ((y :: r).filter fun z => !(pa z == pa x)) = r.filter fun z => !(pa z == pa x) := by simp [he]
      rw [hf] at h h1 h2 ⊢
      exact putG_insert pa x r i h h1 h2
    · rw [if_neg he]
      have hf : ((y :: r).filter fun z => !(pa z == pa x)) = y :: r.filter fun z => !(pa z == pa x) := by simp [he]
      rw [hf] at h h1 h2 ⊢
      by_cases hg : gtL (pa y) (pa x) = true
      · rw [if_pos hg]
        cases i with
        | zero => rfl
        | succ i =>
          have := h1 0 y (by omega) rfl
          rw [hg] at this
          cases this
      · rw [if_neg hg]
        cases i with
        | zero => exact absurd (h2 y rfl) hg
        | succ i =>
          have ih := putG_insert pa x r i (by simpa using h) (fun j z hj hz => h1 (j + 1) z (by omega) (by simpa using hz)) (fun z hz => h2 z (by simpa using hz))
          rw [ih]
          rfl

theorem likeO_put {w : World} {B : Nat} {x : Nd} {s : Sn} (hx : NdOwn w B x s) : ∀ {ns : List Nd} {ss : List Sn}, LikeO w B ns ss → LikeO w B (putG Nd.path x ns) (putG Sn.path s ss)
  | [], ss, h => by rw [likeO_nil h]; exact likeO_mk hx ⟨rfl, fun j x s hx => by simp at hx⟩
  | y :: r, ss, h => by
    obtain ⟨u, t, rfl, h1, h2⟩ := likeO_cons h
    have ih := likeO_put hx h2
    rw [putG, putG, h1.1, hx.1]
    split
    · exact ih
    · split
      · exact likeO_mk hx (likeO_mk h1 (likeO_filter (fun a b hab => by rw [hab.1]) h2))
      · exact likeO_mk h1 ih

theorem own_grown {w w' : World} {B B' : Nat} {v v5 : Value} {n n5 : Nat} {cs xs : List Value} (h : w.ownsRow B 5 1 v5 n5 xs) (ho : w.ownsRow B' 31 4 v n cs) (hg : w.grownBy w' v.ownBlock) : w'.ownsRow B 5 1 v5 n5 xs := by
  rcases ho.2 with ⟨rfl, _⟩ | ⟨g, cap, cur, rfl, _, hb, _⟩
  · exact own_below h ⟨hg.os, hg.tape, hg.output, hg.size, fun k hk => hg.block k hk (by simp [Value.ownBlock])⟩
  · exact own_other h hb (by decide) fun k hk hne => hg.block k hk (by simpa [Value.ownBlock] using hne)

set_option maxRecDepth 100000 in
set_option maxHeartbeats 4000000 in
theorem put_any {w : World} {A : Option Addr} {n c : Nat} {ns : List Nd} {ss : List Sn} (x : Nd) (s : Sn) (h : Nodes w A ns) (hL : Like w ns ss) (hx : NdAt w x s) (hl : n = ns.length) (hn : n ≤ 2199023255489) (hnil : A = none → n = 0) :
    Calls Try.prog 26 #[.slice A n c, .agg x.cells.toArray] w fun e w' => ∃ v m ms, e = .returned v ∧ w'.ownsRow w.heap.size 31 4 v m (cellsOf ms) ∧ LikeO w' w.heap.size ms (putG Sn.path s ss) ∧ Below w.heap.size w w' := by
  obtain ⟨w1, hw1⟩ : ∃ w1, w1 = w.alloc (.cells x.cells.toArray 31) := ⟨_, rfl⟩
  have hb1 : Below w.heap.size w w1 := by rw [hw1]; exact (Below.refl _ w).alloc (Nat.le_refl _) _
  have z1 : w1.heap.size = w.heap.size + 1 := by rw [hw1]; simp
  have k1 : w1.heap[w.heap.size]? = some (.cells x.cells.toArray 31 (0, 0)) := by rw [hw1]; exact heap_alloc_new w _
  have HC := clone_any (c := x.cap) (hx.2.2.2.1.below hb1) hx.2.2.2.2.2
  have HX := Lib.hid hx; clear hx
  unfold Nd.cells at hw1 k1 ⊢
  obtain ⟨d0, d1, d2, d3⟩ := node_cells k1
  go_enter Try.func26, Try.ntmps26
  go_wp2_with fail
  rw [← hw1]
  refine HC.mono ?_
  rintro e w2 ⟨A2, c2, rfl, ho2, hb2⟩
  have k2 := (hb2.block w.heap.size (by omega)).trans k1
  obtain ⟨f0, f1, f2, f3⟩ := node_cells k2
  obtain ⟨g0, g1, g2, g3⟩ := node_frozen k2
  -- the box with the bytes of its own
  obtain ⟨w3, hw3⟩ : ∃ w3, w3 = w2.setCell ⟨w.heap.size, 2, none⟩ (.slice A2 x.len c2) := ⟨_, rfl⟩
  have k3 : w3.heap[w.heap.size]? = some (.cells (Nd.cells { x with adr := A2, len := x.len, cap := c2 }).toArray 31 (0, 0)) := by
    rw [hw3]
    exact heap_setCell_same _ w.heap.size 2 _ 31 _ k2
  have hB2 : Below w.heap.size w w2 := hb1.trans (hb2.mono (by omega))
  have hB3 : Below w.heap.size w w3 := by rw [hw3]; exact hB2.setCell (p := ⟨w.heap.size, 2, none⟩) (Nat.le_refl _) _
  have z3 : w3.heap.size = w2.heap.size := by rw [hw3]; simp [World.setCell]
  have hxo : NdOwn w3 w1.heap.size { x with adr := A2, len := x.len, cap := c2 } s := by
    refine ⟨HX.out.1, HX.out.2.1, HX.out.2.2.1, ?_, HX.out.2.2.2.2.2⟩
    refine own_other ho2 k2 (by decide) fun k hk hne => ?_
    rw [hw3]
    exact Below.heap_setCell _ _ _ _ hne
  generalize hy : ({ x with adr := A2, len := x.len, cap := c2 } : Nd) = y at k3 hxo
  have HCP := copied_any (c := c) (h.below hB3) (hL.below hB3) hl (by omega) hnil
  have hz12 : w1.heap.size ≤ w2.heap.size := hb2.size
  have HK3 := Lib.hid k3
  have HXO := Lib.hid hxo
  have HB3 := Lib.hid hB3
  have HHL := Lib.hid hl
  clear h hL hnil k1 k2 d0 d1 d2 d3 ho2 hb1 hb2 hB2 hB3 k3 hxo HC HX hy hl
  go_wp2_with fail
  rw [← hw3]
  clear f0 f1 f2 f3 g0 g1 g2 g3 hw3 hw1
  refine HCP.mono ?_
  rintro e w4 ⟨A4, c4, ms, rfl, ho4, hL4, hb4⟩
  have l3 := (Array.getElem?_eq_some_iff.1 HK3.out).1
  have k4 := (hb4.block _ l3).trans HK3.out
  have hm4 := own_nodes ho4
  have HD := delete_any 49 #[.pointer (some ⟨w.heap.size, 0, none⟩)] (enters_of Try.func49 (by kernel_rfl) rfl) (fun z => z.path == y.path) ho4 hb4.size (by omega) (fun W z _ hW => by
    have e1 := (node_cells ((hW.block _ l3).trans k4)).1
    have := hW.size
    have := hb4.size
    exact same_path z w.heap.size y W e1 (by omega))
  have hxo4 := HXO.out.below hb4
  have HO4 := Lib.hid ho4
  have HL4 := Lib.hid hL4
  have HK4 := Lib.hid k4
  have HXO4 := Lib.hid hxo4
  have HB4 := Lib.hid (HB3.out.trans (hb4.mono HB3.out.size))
  have hz4 := hb4.size
  have HM4 := Lib.hid hm4
  clear ho4 hL4 k4 hb4 hxo4 HXO HK3 HB3 HCP hm4
  go_wp2_with fail
  refine HD.mono ?_
  rintro e w5 ⟨v5, m5, rfl, hm5, ho5, hg5⟩
  have hne4 : ∀ k, (Value.slice A4 n c4).ownBlock = some k → w3.heap.size ≤ k := fun k hk => own_from HO4.out k hk
  have k5 : w5.heap[w.heap.size]? = some (.cells y.cells.toArray 31 (0, 0)) := by
    refine (hg5.block _ (by omega) (fun e => ?_)).trans HK4.out
    have := hne4 _ e.symm
    omega
  have hL5 := likeO_grown HL4.out HO4.out hg5
  have hxd5 := own_grown HXO4.out.2.2.2.1 HO4.out hg5
  have hz5 := hg5.size
  have hB5 : Below w.heap.size w w5 := HB4.out.trans ((Below.refl _ w4).grown hg5 (by omega) (fun k e => by have := hne4 k e; omega))
  obtain ⟨A5, c5, rfl⟩ := own_form ho5
  obtain ⟨hm5', hN5⟩ := own_nodes ho5
  have hlen5 : m5 ≤ 2199023255489 := by
    have h1 := List.length_filter_le (fun z : Nd => !(z.path == y.path)) ms
    have h2 := HM4.out.1
    omega
  have HI := index_any 51 #[.pointer (some ⟨w.heap.size, 0, none⟩)] (enters_of Try.func51 (by kernel_rfl) rfl) (fun z => gtL z.path y.path) (c := c5) hN5 hm5' (by omega) (fun W z _ hW => by
    have l5 := (Array.getElem?_eq_some_iff.1 k5).1
    have e1 := (node_cells ((hW.block _ l5).trans k5)).1
    have := hW.size
    exact path_behind z w.heap.size y W e1 (by omega))
  have HO5 := Lib.hid ho5
  have HK5 := Lib.hid k5
  have HL5 := Lib.hid hL5
  have HX5 := Lib.hid hxd5
  have HB5 := Lib.hid hB5
  have HM5 := Lib.hid hm5'
  have HXW := Lib.hid (show y.path = s.path ∧ y.kind = s.kind ∧ y.link = s.link ∧ y.len ≤ 140737488355328 from ⟨HXO4.out.1, HXO4.out.2.1, HXO4.out.2.2.1, HXO4.out.2.2.2.2⟩)
  clear ho5 k5 hL5 hxd5 hB5 hm5' hN5 hm5 HD HO4 HL4 HK4 HXO4 HB4 HM4 hne4
  go_wp2_with fail
  refine HI.mono ?_
  rintro e w6 ⟨i, rfl, hidx, hb6⟩
  have hz6 := hb6.size
  -- where it goes
  obtain ⟨q, hq, hqv, hput⟩ : ∃ q : Nat, q ≤ m5 ∧ ((i < 0 ∧ q = m5) ∨ (i = q ∧ ¬ i < 0)) ∧ putG Nd.path y ms = (ms.filter fun z => !(z.path == y.path)).take q ++ y :: (ms.filter fun z => !(z.path == y.path)).drop q := by
    rcases hidx with ⟨rfl, hall⟩ | ⟨k, rfl, ⟨z, hz, hzp⟩, hbef⟩
    · refine ⟨m5, Nat.le_refl _, .inl ⟨by omega, rfl⟩, putG_insert Nd.path y ms m5 (Nat.le_of_eq HM5.out) (fun j z _ hz => hall j z hz) (fun z hz => ?_)⟩
      have := (List.getElem?_eq_some_iff.1 hz).1
      have := HM5.out
      omega
    · have hk := (List.getElem?_eq_some_iff.1 hz).1
      refine ⟨k, by have := HM5.out; omega, .inr ⟨rfl, by omega⟩, putG_insert Nd.path y ms k (by omega) (fun j u hj hu => hbef j u hj hu) (fun u hu => ?_)⟩
      rw [hz] at hu
      cases hu
      exact hzp
  have HPUT := Lib.hid hput
  have HO6 := Lib.hid (own_below HO5.out hb6)
  have HL6 := Lib.hid (HL5.out.below hb6)
  have HX6 := Lib.hid (own_below HX5.out hb6)
  have HB6 := Lib.hid (HB5.out.trans (hb6.mono HB5.out.size))
  have k6 := (hb6.block _ (Array.getElem?_eq_some_iff.1 HK5.out).1).trans HK5.out
  have k6' := k6
  unfold Nd.cells at k6'
  obtain ⟨d0, d1, d2, d3⟩ := node_cells k6'
  obtain ⟨w7, hw7⟩ : ∃ w7, w7 = w6.alloc (.cells y.cells.toArray 31) := ⟨_, rfl⟩
  have hb7 : Below w6.heap.size w6 w7 := by rw [hw7]; exact (Below.refl _ _).alloc (Nat.le_refl _) _
  have k7 : w7.heap[w6.heap.size]? = some (.cells y.cells.toArray 31 (0, 0)) := by rw [hw7]; exact heap_alloc_new _ _
  have hz7 := hb7.size
  have HINS := insert_any (i := q) y w6.heap.size 1 (own_below HO6.out hb7) (by omega) (by omega) hq k7 (fun g e => by have := (HO6.out.lt g e).2; omega)
  have HL7 := Lib.hid (HL6.out.below hb7)
  have HX7 := Lib.hid (own_below HX6.out hb7)
  have HO7 := Lib.hid (own_below HO6.out hb7)
  have HB7 := Lib.hid (HB6.out.trans (hb7.mono HB6.out.size))
  clear HPUT hidx hb6 k6 k6' k7 hb7 HO5 HK5 HL5 HX5 HB5 HO6 HL6 HX6 HB6 HI
  have HP := Lib.hid hput; clear hput
  unfold Nd.cells at hw7
  have hdone : ∀ e w', InsPost w7 w3.heap.size (.slice A5 m5 c5) (ms.filter fun z => !(z.path == y.path)) y q e w' → ∃ v m ms', e = .returned v ∧ w'.ownsRow w.heap.size 31 4 v m (cellsOf ms') ∧ LikeO w' w.heap.size ms' (putG Sn.path s ss) ∧ Below w.heap.size w w' := by
    rintro e w8 ⟨v, rfl, ho8, hg8⟩
    rw [← HP.out] at ho8
    refine ⟨v, _, _, rfl, own_wider ho8 (by omega), ?_, HB7.out.trans ((Below.refl _ w7).grown hg8 (by omega) (fun k e => by have := own_from HO7.out k e; omega))⟩
    have h1 := likeO_grown HL7.out HO7.out hg8
    have h2 := own_grown HX7.out HO7.out hg8
    have h3 : NdOwn w8 w.heap.size y s := ⟨HXW.out.1, HXW.out.2.1, HXW.out.2.2.1, own_wider h2 (by omega), HXW.out.2.2.2⟩
    exact likeO_put h3 ⟨h1.1, fun j a b ha hb => (h1.2 j a b ha hb).wider (by omega)⟩
  have HDONE := Lib.hid hdone
  clear hdone HP HXW HB7 HO7 HX7 HL7
  rcases hqv with ⟨hi0, rfl⟩ | ⟨rfl, hi0⟩
  · go_wp2_with fail
    rw [← hw7]
    refine HINS.mono ?_
    rintro e w8 hpost
    obtain ⟨v, m, ms', rfl, r1, r2, r3⟩ := HDONE.out e w8 hpost
    go_wp2_with fail
    go_ret
    exact ⟨v, m, ms', rfl, r1, r2, r3⟩
  · go_wp2_with fail
    rw [← hw7]
    refine HINS.mono ?_
    rintro e w8 hpost
    obtain ⟨v, m, ms', rfl, r1, r2, r3⟩ := HDONE.out e w8 hpost
    go_wp2_with fail
    go_ret
    exact ⟨v, m, ms', rfl, r1, r2, r3⟩

end Go.Proofs.Ytlbipmlbkcdmnaa
