/-
  Nodes in new memory: copied.
-/
import Derived.Test.YtlbipmlbkcdmnaaFWd
namespace Go.Proofs.Ytlbipmlbkcdmnaa
open Go.RowKit

theorem Rd.setSlice {w : World} {A : Option Addr} {n : Nat} {xs : List Int} (h : Rd w .u8 A n xs) {p : Addr} {B : Option Addr} {m d : Nat} (hp : w.cell? p = some (.slice B m d)) (v : Value) : Rd (w.setCell p v) .u8 A n xs := by
  refine ⟨h.1, fun j hj => ?_⟩
  obtain ⟨ad, hA, hc⟩ := h.2 j hj
  refine ⟨ad, hA, ?_⟩
  rw [World.cell?_setCell_other _ _ _ _ (fun e => by rw [e] at hp; rw [hp] at hc; cases hc)]
  exact hc

theorem NdAt.setSlice {w : World} {x : Nd} {s : Sn} (h : NdAt w x s) {p : Addr} {B : Option Addr} {m d : Nat} (hp : w.cell? p = some (.slice B m d)) (v : Value) : NdAt (w.setCell p v) x s :=
  ⟨h.1, h.2.1, h.2.2.1, h.2.2.2.1.setSlice hp v, h.2.2.2.2⟩

set_option maxRecDepth 100000 in
set_option maxHeartbeats 4000000 in
theorem copied_any {w : World} {A : Option Addr} {n c : Nat} {ns : List Nd} {ss : List Sn} (h : Nodes w A ns) (hL : Like w ns ss) (hl : n = ns.length) (hn : n ≤ 2199023255500) (hnil : A = none → n = 0) :
    Calls Try.prog 48 #[.slice A n c] w fun e w' => ∃ A' c' ns', e = .returned (.slice A' n c') ∧ w'.ownsRow w.heap.size 31 4 (.slice A' n c') n (cellsOf ns') ∧ LikeO w' w.heap.size ns' ss ∧ Below w.heap.size w w' := by
  have HC := cloneN_any (c := c) h hl hn hnil
  clear h hl
  go_enter Try.func48, Try.ntmps48
  go_wp2_with fail
  refine HC.mono ?_
  rintro e w1 ⟨A', c', rfl, ho1, hb1⟩
  have hL1 := hL.below hb1
  go_wp2_with fail
  go_loopw [4, 5, 10, 11, 12, 13, 14, 15, 16, 17, 18, 19, 20, 21, 22] (fun _ _ i _ _ _ _ _ _ _ _ _ _ _ _ wr => ∃ (k : Nat) (ms : List Nd), k ≤ n ∧ i = .int .i64 k ∧ wr.ownsRow w.heap.size 31 4 (.slice A' n c') n (cellsOf ms) ∧ Like wr ms ss ∧ (∀ (j : Nat) (x : Nd) (s : Sn), j < k → ms[j]? = some x → ss[j]? = some s → NdOwn wr w.heap.size x s) ∧ Below w.heap.size w wr)
    (fun _ _ i _ _ _ _ _ _ _ _ _ _ _ _ _ => n - (intOf i).toNat)
  case atStart => exact ⟨0, ns, Nat.zero_le _, rfl, ho1, hL1, fun j _ _ hj => absurd hj (Nat.not_lt_zero _), hb1⟩
  case round =>
    obtain ⟨k, ms, hk, rfl, ho, hLk, hOk, hb⟩ := hrel
    by_cases hlt : k < n
    · have hkz : (k : Int) < (n : Int) := by omega
      obtain ⟨hml, hnd⟩ := own_nodes ho
      rcases ho.2 with ⟨_, h0⟩ | ⟨g, cap, cur, hv, hgb, hg, hcap, _⟩
      · omega
      injection hv with hv1 _ hv3
      subst hv1; subst hv3
      have hgl := (Array.getElem?_eq_some_iff.1 hg).1
      obtain ⟨x, hx⟩ : ∃ x, ms[k]? = some x := ⟨_, List.getElem?_eq_getElem (by omega)⟩
      obtain ⟨s, hs⟩ : ∃ s, ss[k]? = some s := ⟨_, List.getElem?_eq_getElem (by have := hLk.1; omega)⟩
      have hxs := hLk.2 k x s hx hs
      have cellAt : ∀ i v, i < 4 → x.cells[i]? = some v → wr.cell? ⟨g, k * 4 + i, none⟩ = some v := fun i v hi hv => by
        have := ho.cells (g := g) rfl (k * 4 + i) v ((cellsOf_at hx hi).trans hv)
        rw [Addr.add_lit] at this
        simpa using this
      have x0 : wr.cell? ⟨g, k * 4, none⟩ = some (.string ⟨x.path.toArray⟩) := cellAt 0 _ (by omega) rfl
      have x1 : wr.cell? ⟨g, k * 4 + 1, none⟩ = some (.int .u8 x.kind) := cellAt 1 _ (by omega) rfl
      have x2 : wr.cell? ⟨g, k * 4 + 2, none⟩ = some (.slice x.adr x.len x.cap) := cellAt 2 _ (by omega) rfl
      have x3 : wr.cell? ⟨g, k * 4 + 3, none⟩ = some (.string ⟨x.link.toArray⟩) := cellAt 3 _ (by omega) rfl
      have hbA : Below wr.heap.size wr (wr.alloc (.cells #[.string ⟨x.path.toArray⟩, .int .u8 x.kind, .slice x.adr x.len x.cap, .string ⟨x.link.toArray⟩] 31)) := (Below.refl _ wr).alloc (Nat.le_refl _) _
      have HCl := clone_any (c := x.cap) (hxs.2.2.2.1.below hbA) hxs.2.2.2.2.2
      have HO := Lib.hid ho; clear ho
      have HG := Lib.hid hg; clear hg
      have HM := Lib.hid hml; clear hml
      have HF : ∀ w2, Below (wr.heap.size + 1) (wr.alloc (.cells #[.string ⟨x.path.toArray⟩, .int .u8 x.kind, .slice x.adr x.len x.cap, .string ⟨x.link.toArray⟩] 31)) w2 → w2.cell? ⟨g, k * 4 + 2, none⟩ = some (.slice x.adr x.len x.cap) ∧ w2.frozen? ⟨g, k * 4 + 2, none⟩ = false ∧ Below wr.heap.size wr w2 := by
        intro w2 h2
        have h3 : Below wr.heap.size wr w2 := hbA.trans (h2.mono (by omega))
        exact ⟨(h3.cell (p := ⟨g, k * 4 + 2, none⟩) hgl).trans x2, (h3.frozen (p := ⟨g, k * 4 + 2, none⟩) hgl).trans (HO.out.frozenAt _), h3⟩
      go_wp2_with (go_at_call 46; refine HCl.mono ?_; rintro e w2 ⟨A2, c2, rfl, hr2, hb2⟩; obtain ⟨d2, f2, hb3⟩ := HF w2 (by simpa using hb2))
      go_roundw
      case rel =>
        have hown2 : w2.ownsRow w.heap.size 31 4 (.slice (some ⟨g, 0, none⟩) n c') n (cellsOf ms) := own_stays HO.out fun j _ hj => hb3.block j hj
        obtain ⟨o1, g1⟩ := hown2.stored (k * 4 + 2) (.slice A2 x.len c2)
        rw [cellsOf_set hx] at o1
        have hg2 := (hb3.block g hgl).trans HG.out
        have hsz := hb.size
        have hNew : NdOwn (w2.setCell ⟨g, k * 4 + 2, none⟩ (.slice A2 x.len c2)) w.heap.size { x with adr := A2, len := x.len, cap := c2 } s :=
          NdOwn.other (g := g) ⟨hxs.1, hxs.2.1, hxs.2.2.1, own_wider hr2 (by simp; omega), hxs.2.2.2.2.2⟩ hg2 (fun j _ hj => Below.heap_setCell _ _ _ _ hj)
        refine ⟨k + 1, _, by omega, by go_num, o1, ⟨by rw [List.length_set]; exact hLk.1, fun j y t hy ht => ?_⟩, fun j y t hjk1 hy ht => ?_, (hb.trans (hb3.mono hb.size)).setCell (p := ⟨g, k * 4 + 2, none⟩) hgb _⟩
        · by_cases hjk : j = k
          · subst hjk
            rw [List.getElem?_set_self (by have := HM.out; omega)] at hy
            rw [hs] at ht
            cases hy; cases ht
            exact hNew.at
          · rw [List.getElem?_set_ne (Ne.symm hjk)] at hy
            exact ((hLk.2 j y t hy ht).below hb3).setSlice d2 _
        · by_cases hjk : j = k
          · subst hjk
            rw [List.getElem?_set_self (by have := HM.out; omega)] at hy
            rw [hs] at ht
            cases hy; cases ht
            exact hNew
          · rw [List.getElem?_set_ne (Ne.symm hjk)] at hy
            exact ((hOk j y t (by omega) hy ht).below hb3).other hg2 (fun j _ hj => Below.heap_setCell _ _ _ _ hj)
      case measure => simp [intOf]; omega
    · obtain rfl : k = n := by omega
      go_wp2_with fail
      go_ret
      refine ⟨A', c', ms, rfl, ho, ⟨hLk.1, fun j x s hx hs => hOk j x s ?_ hx hs⟩, hb⟩
      have := (List.getElem?_eq_some_iff.1 hx).1
      have := (own_nodes ho).1
      omega

end Go.Proofs.Ytlbipmlbkcdmnaa
