/-
  Below and Remove.
-/
import Derived.Test.YtlbipmlbkcdmnaaJWd
namespace Go.Proofs.Ytlbipmlbkcdmnaa
open Go.RowKit Go.Shelf

theorem likeO_nil {w : World} {B : Nat} {ss : List Sn} (h : LikeO w B [] ss) : ss = [] := List.eq_nil_of_length_eq_zero h.1.symm
theorem likeO_cons {w : World} {B : Nat} {x : Nd} {r : List Nd} {ss : List Sn} (h : LikeO w B (x :: r) ss) : ∃ s t, ss = s :: t ∧ NdOwn w B x s ∧ LikeO w B r t := by
  obtain ⟨h1, h2⟩ := h
  cases ss with
  | nil => simp at h1
  | cons s t => exact ⟨s, t, rfl, h2 0 x s rfl rfl, by simpa using h1, fun j y u hy hu => h2 (j + 1) y u (by simpa using hy) (by simpa using hu)⟩
theorem likeO_mk {w : World} {B : Nat} {x : Nd} {r : List Nd} {s : Sn} {t : List Sn} (h : NdOwn w B x s) (h2 : LikeO w B r t) : LikeO w B (x :: r) (s :: t) :=
  ⟨by simp [h2.1], fun j y u hy hu => by
    cases j with
    | zero => cases hy; cases hu; exact h
    | succ j => exact h2.2 j y u (by simpa using hy) (by simpa using hu)⟩

theorem likeO_filter {w : World} {B : Nat} {p : Nd → Bool} {q : Sn → Bool} (hpq : ∀ x s, NdOwn w B x s → p x = q s) : ∀ {ns : List Nd} {ss : List Sn}, LikeO w B ns ss → LikeO w B (ns.filter p) (ss.filter q)
  | [], ss, h => by rw [likeO_nil h]; exact ⟨rfl, fun j x s hx => by simp at hx⟩
  | x :: r, ss, h => by
    obtain ⟨s, t, rfl, h1, h2⟩ := likeO_cons h
    have ih := likeO_filter hpq h2
    rw [List.filter_cons, List.filter_cons, hpq x s h1]
    split
    · exact likeO_mk h1 ih
    · exact ih

theorem likeO_grown {w w' : World} {B B' : Nat} {v : Value} {n : Nat} {cs : List Value} {ns : List Nd} {ss : List Sn} (h : LikeO w B ns ss) (ho : w.ownsRow B' 31 4 v n cs) (hg : w.grownBy w' v.ownBlock) : LikeO w' B ns ss := by
  rcases ho.2 with ⟨rfl, _⟩ | ⟨g, cap, cur, rfl, _, hb, _⟩
  · exact h.below ⟨hg.os, hg.tape, hg.output, hg.size, fun k hk => hg.block k hk (by simp [Value.ownBlock])⟩
  · exact ⟨h.1, fun j x s hx hs => (h.2 j x s hx hs).other hb fun k hk hne => hg.block k hk (by simpa [Value.ownBlock] using hne)⟩

set_option maxRecDepth 100000 in
set_option maxHeartbeats 1000000 in
theorem below_any {w : World} {A : Option Addr} {n c : Nat} {ns : List Nd} {ss : List Sn} (s : List UInt8) (hs : s.length ≤ 140737488355328) (h : Nodes w A ns) (hL : Like w ns ss) (hl : n = ns.length) (hn : n ≤ 2199023255500) (hnil : A = none → n = 0) :
    Calls Try.prog 34 #[.slice A n c, .string ⟨s.toArray⟩] w fun e w' => ∃ v m ms, e = .returned v ∧ w'.ownsRow w.heap.size 31 4 v m (cellsOf ms) ∧ LikeO w' w.heap.size ms (ss.filter fun t => belowL t.path s) ∧ Below w.heap.size w w' := by
  obtain ⟨w2, hw2⟩ : ∃ w2, ((w.alloc (.cells #[.string ⟨s.toArray⟩] 9)).alloc (.cells #[.nilFunc] 76)).setCell ⟨w.heap.size + 1, 0, none⟩ (.func (.func 72) #[] #[.pointer (some ⟨w.heap.size, 0, none⟩)]) = w2 := ⟨_, rfl⟩
  have hb2 : Below w.heap.size w w2 := by
    rw [← hw2]
    exact (((Below.refl _ w).alloc (Nat.le_refl _) _).alloc (by simp) _).setCell (p := ⟨w.heap.size + 1, 0, none⟩) (by simp) _
  have z2 : w2.heap.size = w.heap.size + 2 := by rw [← hw2]; simp [World.setCell]
  have k1 : w2.heap[w.heap.size]? = some (.cells #[.string ⟨s.toArray⟩] 9 (0, 0)) := by
    rw [← hw2, Below.heap_setCell _ _ _ _ (by simp), Below.heap_alloc _ _ _ (by simp)]
    exact heap_alloc_new w _
  have k2 : w2.heap[w.heap.size + 1]? = some (.cells #[.func (.func 72) #[] #[.pointer (some ⟨w.heap.size, 0, none⟩)]] 76 (0, 0)) := by
    rw [← hw2]
    refine set_one (v := .nilFunc) ?_
    have := heap_alloc_new (w.alloc (.cells #[.string ⟨s.toArray⟩] 9)) (.cells #[.nilFunc] 76)
    rwa [World.size_alloc] at this
  have HC := copied_any (c := c) (h.below hb2) (hL.below hb2) hl hn hnil
  rw [← hw2] at HC
  clear h hl hnil
  have hcell := heap_alloc_new (w.alloc (.cells #[.string ⟨s.toArray⟩] 9)) (.cells #[.nilFunc] 76)
  rw [World.size_alloc] at hcell
  obtain ⟨c9, f9⟩ := cell_of hcell
  clear hcell
  have hst : (store ⟨w.heap.size + 1, 0, none⟩ (.func (.func 72) #[] #[.pointer (some ⟨w.heap.size, 0, none⟩)])).run Try.prog ((w.alloc (.cells #[.string ⟨s.toArray⟩] 9)).alloc (.cells #[.nilFunc] 76)) = .ok () w2 := by
    rw [run_store _ _ _ _ _ rfl, c9]
    simp only [f9]
    rw [← hw2]
    rfl
  rw [hw2] at HC
  go_enter Try.func34, Try.ntmps34
  go_wp2_with (first | (go_at_call 53; refine (under_fn _ _).mono ?_; rintro e w' ⟨rfl, rfl⟩))
  refine HC.mono ?_
  rintro e w3 ⟨A', c', ms, rfl, ho3, hL3, hb3⟩
  have l1 := (Array.getElem?_eq_some_iff.1 k1).1
  have l2 := (Array.getElem?_eq_some_iff.1 k2).1
  have HD := delete_any 59 #[.pointer (some ⟨w.heap.size + 1, 0, none⟩)] (enters_of Try.func59 (by kernel_rfl) rfl) (fun x => !belowL x.path s) ho3 hb3.size hn (fun W x _ hW => by
    have e1 := (cell_of ((hW.block _ l1).trans ((hb3.block _ l1).trans k1))).1
    have e2 := (cell_of ((hW.block _ l2).trans ((hb3.block _ l2).trans k2))).1
    have := hW.size
    have := hb3.size
    exact notBelow_any x w.heap.size (w.heap.size + 1) s hs W e2 (by omega) e1 (by omega))
  have HO := Lib.hid ho3; clear ho3
  go_wp2_with fail
  refine HD.mono ?_
  rintro e w4 ⟨v, m, rfl, hm, ho4, hg4⟩
  go_wp2_with fail
  go_ret
  have hb4 : Below w.heap.size w3 w4 := (Below.refl _ w3).grown hg4 (by have := hb3.size; omega) (fun k e => by have := own_from HO.out k e; omega)
  refine ⟨v, m, _, rfl, own_wider ho4 (by omega), ?_, hb2.trans ((hb3.mono (by omega)).trans hb4)⟩
  have h5 : LikeO w4 w.heap.size ms ss := by
    have := likeO_grown hL3 HO.out hg4
    exact ⟨this.1, fun j x t hx ht => (this.2 j x t hx ht).wider (by omega)⟩
  exact likeO_filter (fun x t hxt => by rw [hxt.1]; simp) h5

set_option maxRecDepth 100000 in
set_option maxHeartbeats 1000000 in
theorem remove_any {w : World} {A : Option Addr} {n c : Nat} {ns : List Nd} {ss : List Sn} (s : List UInt8) (hs : s.length ≤ 140737488355328) (h : Nodes w A ns) (hL : Like w ns ss) (hl : n = ns.length) (hn : n ≤ 2199023255500) (hnil : A = none → n = 0) :
    Calls Try.prog 28 #[.slice A n c, .string ⟨s.toArray⟩] w fun e w' => ∃ v m ms, e = .returned v ∧ w'.ownsRow w.heap.size 31 4 v m (cellsOf ms) ∧ LikeO w' w.heap.size ms (ss.filter fun t => !(t.path == s || belowL t.path s)) ∧ Below w.heap.size w w' := by
  obtain ⟨w2, hw2⟩ : ∃ w2, (((w.alloc (.cells #[.string ⟨s.toArray⟩] 9)).alloc (.cells #[.string ⟨s.toArray⟩] 9)).alloc (.cells #[.nilFunc] 76)).setCell ⟨w.heap.size + 1 + 1, 0, none⟩ (.func (.func 72) #[] #[.pointer (some ⟨w.heap.size + 1, 0, none⟩)]) = w2 := ⟨_, rfl⟩
  have hb2 : Below w.heap.size w w2 := by
    rw [← hw2]
    exact ((((Below.refl _ w).alloc (Nat.le_refl _) _).alloc (by simp) _).alloc (by simp; omega) _).setCell (p := ⟨w.heap.size + 1 + 1, 0, none⟩) (by simp; omega) _
  have z2 : w2.heap.size = w.heap.size + 3 := by rw [← hw2]; simp [World.setCell]
  have k0 : w2.heap[w.heap.size]? = some (.cells #[.string ⟨s.toArray⟩] 9 (0, 0)) := by
    rw [← hw2, Below.heap_setCell _ _ _ _ (by simp; omega), Below.heap_alloc _ _ _ (by simp; omega), Below.heap_alloc _ _ _ (by simp)]
    exact heap_alloc_new w _
  have k1 : w2.heap[w.heap.size + 1]? = some (.cells #[.string ⟨s.toArray⟩] 9 (0, 0)) := by
    rw [← hw2, Below.heap_setCell _ _ _ _ (by simp), Below.heap_alloc _ _ _ (by simp)]
    have := heap_alloc_new (w.alloc (.cells #[.string ⟨s.toArray⟩] 9)) (.cells #[.string ⟨s.toArray⟩] 9)
    rwa [World.size_alloc] at this
  have hcell := heap_alloc_new ((w.alloc (.cells #[.string ⟨s.toArray⟩] 9)).alloc (.cells #[.string ⟨s.toArray⟩] 9)) (.cells #[.nilFunc] 76)
  rw [World.size_alloc, World.size_alloc] at hcell
  have k2 : w2.heap[w.heap.size + 1 + 1]? = some (.cells #[.func (.func 72) #[] #[.pointer (some ⟨w.heap.size + 1, 0, none⟩)]] 76 (0, 0)) := by
    rw [← hw2]
    exact set_one (v := .nilFunc) hcell
  have HC := copied_any (c := c) (h.below hb2) (hL.below hb2) hl hn hnil
  clear h hl hnil
  obtain ⟨c9, f9⟩ := cell_of hcell
  have hc0 : (w.alloc (.cells #[.string ⟨s.toArray⟩] 9)).cell? ⟨w.heap.size, 0, none⟩ = some (.string ⟨s.toArray⟩) := (cell_of (heap_alloc_new w (.cells #[.string ⟨s.toArray⟩] 9))).1
  clear hcell
  have hst : (store ⟨w.heap.size + 1 + 1, 0, none⟩ (.func (.func 72) #[] #[.pointer (some ⟨w.heap.size + 1, 0, none⟩)])).run Try.prog (((w.alloc (.cells #[.string ⟨s.toArray⟩] 9)).alloc (.cells #[.string ⟨s.toArray⟩] 9)).alloc (.cells #[.nilFunc] 76)) = .ok () w2 := by
    rw [run_store _ _ _ _ _ rfl, c9]
    simp only [f9]
    rw [← hw2]
    rfl
  have HU := under_fn s (w.alloc (.cells #[.string ⟨s.toArray⟩] 9))
  rw [World.size_alloc] at HU
  go_enter Try.func28, Try.ntmps28
  go_wp2_with (first | (go_at_call 53; refine HU.mono ?_; rintro e w' ⟨rfl, rfl⟩))
  refine HC.mono ?_
  rintro e w3 ⟨A', c', ms, rfl, ho3, hL3, hb3⟩
  have l0 := (Array.getElem?_eq_some_iff.1 k0).1
  have l1 := (Array.getElem?_eq_some_iff.1 k1).1
  have l2 := (Array.getElem?_eq_some_iff.1 k2).1
  have HD := delete_any 54 #[.pointer (some ⟨w.heap.size, 0, none⟩), .pointer (some ⟨w.heap.size + 1 + 1, 0, none⟩)] (enters_of Try.func54 (by kernel_rfl) rfl) (fun x => x.path == s || belowL x.path s) ho3 hb3.size hn (fun W x _ hW => by
    have e0 := (cell_of ((hW.block _ l0).trans ((hb3.block _ l0).trans k0))).1
    have e1 := (cell_of ((hW.block _ l1).trans ((hb3.block _ l1).trans k1))).1
    have e2 := (cell_of ((hW.block _ l2).trans ((hb3.block _ l2).trans k2))).1
    have := hW.size
    have := hb3.size
    exact itOrBelow_any x w.heap.size (w.heap.size + 1) (w.heap.size + 1 + 1) s hs W e0 (by omega) e2 (by omega) e1 (by omega))
  have HO := Lib.hid ho3; clear ho3
  go_wp2_with fail
  refine HD.mono ?_
  rintro e w4 ⟨v, m, rfl, hm, ho4, hg4⟩
  go_wp2_with fail
  go_ret
  have hb4 : Below w.heap.size w3 w4 := (Below.refl _ w3).grown hg4 (by have := hb3.size; omega) (fun k e => by have := own_from HO.out k e; omega)
  refine ⟨v, m, _, rfl, own_wider ho4 (by omega), ?_, hb2.trans ((hb3.mono (by omega)).trans hb4)⟩
  have h5 : LikeO w4 w.heap.size ms ss := by
    have := likeO_grown hL3 HO.out hg4
    exact ⟨this.1, fun j x t hx ht => (this.2 j x t hx ht).wider (by omega)⟩
  exact likeO_filter (fun x t hxt => by rw [hxt.1]) h5

end Go.Proofs.Ytlbipmlbkcdmnaa
