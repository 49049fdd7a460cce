/-
  Lemmas on rows and sinks that several laws use.
-/
import Derived.Test.YteejjgnpjkldiaaD
import Derived.Test.YteejjgnpjkldiaaO
import Derived.IntWalk
namespace Go.Proofs.Yteejjgnpjkldiaa
open Go.RowKit

/-- A slice of slices of bytes that is read. -/
def RdL (w : World) (A : Option Addr) (n : Nat) (ls : List (List Int)) : Prop :=
  ls.length = n ∧ ∀ j, j < n → ∃ ad D m c, A = some ad ∧ w.cell? (ad.add j) = some (.slice D m c) ∧ Rd w .u8 D m (ls.getD j []) ∧ m ≤ c ∧ m ≤ 9223372036854775807

def cat (ls : List (List Int)) (k : Nat) : List Int := (ls.take k).flatten

theorem cat_succ (ls : List (List Int)) (k : Nat) (h : k < ls.length) : cat ls (k + 1) = cat ls k ++ ls.getD k [] := by
  unfold cat
  rw [List.take_succ_eq_append_getElem h, List.flatten_append]
  simp [List.getD, h]

theorem take_grow (xs ys : List Int) (r : Nat) : xs.take r ++ ys.take (r - xs.length) = (xs ++ ys).take r := (List.take_append ..).symm

theorem below_of_grown {w w' : World} (h : w.grownBy w' none) : Below w.heap.size w w' := ⟨h.os, h.tape, h.output, h.size, fun k hk => h.block k hk (by simp)⟩

theorem bcell {W w1 : World} (hb : Below W.heap.size W w1) : (∀ b o, b < W.heap.size → w1.cell? ⟨b, o, none⟩ = W.cell? ⟨b, o, none⟩) ∧ (∀ b o, b < W.heap.size → w1.frozen? ⟨b, o, none⟩ = W.frozen? ⟨b, o, none⟩) :=
  ⟨fun b o h => hb.cell (p := ⟨b, o, none⟩) h, fun b o h => hb.frozen (p := ⟨b, o, none⟩) h⟩

theorem Rd.front {w : World} {k : IntKind} {D : Option Addr} {n i : Nat} {bs : List Int} (h : Rd w k D n bs) (hi : i ≤ n) : Rd w k D i (bs.take i) := by
  refine ⟨by have := h.1; simp; omega, fun j hj => ?_⟩
  obtain ⟨ad, hD, hc⟩ := h.2 j (by omega)
  refine ⟨ad, hD, hc.trans ?_⟩
  simp [hj]

theorem own_mono {w : World} {B B' : Nat} {e : TypeId} {size : Nat} {v : Value} {n : Nat} {xs : List Value} (h : w.ownsRow B e size v n xs) (hB : B' ≤ B) : w.ownsRow B' e size v n xs := by
  obtain ⟨h1, h2⟩ := h
  rcases h2 with h2 | ⟨g, cap, cur, hv, hg, r⟩
  · exact ⟨h1, .inl h2⟩
  · exact ⟨h1, .inr ⟨g, cap, cur, hv, Nat.le_trans hB hg, r⟩⟩

theorem bcellB {W w1 : World} {B : Nat} (hb : Below B W w1) : (∀ b o, b < B → w1.cell? ⟨b, o, none⟩ = W.cell? ⟨b, o, none⟩) ∧ (∀ b o, b < B → w1.frozen? ⟨b, o, none⟩ = W.frozen? ⟨b, o, none⟩) :=
  ⟨fun b o h => hb.cell (p := ⟨b, o, none⟩) h, fun b o h => hb.frozen (p := ⟨b, o, none⟩) h⟩

/-- Another row is written: the sink stays. -/
theorem Snk.grown {w w' : World} {B g c left : Nat} {A : Option Addr} {xs : List Int} {row : Option Nat} (h : Snk w B g A c xs left) (hg : w.grownBy w' row) (h1 : some g ≠ row)
    (h2 : ∀ j, (Value.slice A xs.length c).ownBlock = some j → row ≠ some j) : Snk w' B g A c xs left := by
  refine ⟨(hg.block g (Array.getElem?_eq_some_iff.1 h.1).1 h1).trans h.1, h.2.kept hg ?_⟩
  cases hv : (Value.slice A xs.length c).ownBlock with
  | none => exact .inl rfl
  | some j => exact .inr (Ne.symm (h2 j hv))

/-- The sink is written: another row stays. -/
theorem own_only2 {w w' : World} {B g : Nat} {e : TypeId} {size : Nat} {v : Value} {n : Nat} {xs : List Value} {row : Option Nat} (h : w.ownsRow B e size v n xs) (ho : Only2 w w' g row) (h1 : ∀ j, v.ownBlock = some j → j ≠ g ∧ some j ≠ row) :
    w'.ownsRow B e size v n xs := by
  obtain ⟨hl, hr⟩ := h
  refine ⟨hl, ?_⟩
  rcases hr with hr | ⟨k, cap, cur, hv, hk, hh, hrest⟩
  · exact .inl hr
  · have hkk := h1 k (by rw [hv]; rfl)
    exact .inr ⟨k, cap, cur, hv, hk, (ho.block k (Array.getElem?_eq_some_iff.1 hh).1 hkk.1 hkk.2).trans hh, hrest⟩

theorem own_below {w w' : World} {B : Nat} {e : TypeId} {size : Nat} {v : Value} {n : Nat} {xs : List Value} (h : w.ownsRow B e size v n xs) (hb : Below w.heap.size w w') : w'.ownsRow B e size v n xs :=
  h.kept (row := none) ⟨hb.os, hb.tape, hb.output, hb.size, fun k hk _ => hb.block k hk⟩ (by cases v.ownBlock <;> simp)

theorem rd_front_own {w : World} {B : Nat} {A : Option Addr} {n c i : Nat} {xs : List Int} (h : w.ownsRow B 5 1 (.slice A n c) n (xs.map (Value.int .u8))) (hi : i ≤ n) : Rd w .u8 A i (xs.take i) := by
  have hr := rd_of_own h
  refine ⟨by have := hr.1; simp; omega, fun j hj => ?_⟩
  obtain ⟨ad, hD, hc⟩ := hr.2 j (by omega)
  refine ⟨ad, hD, hc.trans ?_⟩
  simp [hj]

def rowOf (A : Option Addr) : Option Nat := A.map (·.block)
theorem own_rowOf (A : Option Addr) (n c : Nat) : (Value.slice A n c).ownBlock = rowOf A := by cases A <;> rfl

/-- What one round of the law does to what lies in memory: the bytes are put behind all, then they are written. -/
theorem front_step {w wr w2 w3 : World} {B g k l m c c' sc sc' r : Nat} {A A' SA SA' : Option Addr} {ls : List (List Int)} {bs : List Int} (hcs : cat ls (k + 1) = cat ls k ++ bs) (hm : bs.length = m) (hl : l = r - (cat ls k).length)
    (hBw : Below B w wr) (hbs : B ≤ wr.heap.size) (hBg : B ≤ g) (hgne : some g ≠ rowOf A)
    (hown : wr.ownsRow B 5 1 (.slice A (cat ls k).length c) (cat ls k).length ((cat ls k).map (Value.int .u8))) (hS : Snk wr B g SA sc ((cat ls k).take r) l)
    (hdis : ∀ j, rowOf A = some j → rowOf SA ≠ some j)
    (hown2 : w2.ownsRow B 5 1 (.slice A' ((cat ls k).length + m) c') ((cat ls k).length + m) ((cat ls k).map (Value.int .u8) ++ bs.map (Value.int .u8)))
    (hgrow : wr.grownBy w2 (rowOf A)) (hfr : FreshOr wr (rowOf A) (rowOf A'))
    (hS3 : Snk w3 B g SA' sc' ((cat ls k).take r ++ bs.take l) (l - m)) (hO3 : Only2 w2 w3 g (rowOf SA)) (hfr3 : FreshOr w2 (rowOf SA) (rowOf SA')) :
    w3.ownsRow B 5 1 (.slice A' (cat ls (k + 1)).length c') (cat ls (k + 1)).length ((cat ls (k + 1)).map (Value.int .u8)) ∧ Snk w3 B g SA' sc' ((cat ls (k + 1)).take r) (r - (cat ls (k + 1)).length) ∧
      (∀ j, rowOf A' = some j → rowOf SA' ≠ some j) ∧ Below B w w3 := by
  subst hl
  have hlr : ∀ j, rowOf A = some j → B ≤ j ∧ j < wr.heap.size := fun j hj => hown.lt j (by rw [own_rowOf]; exact hj)
  have hls : ∀ j, rowOf SA = some j → B ≤ j ∧ j < wr.heap.size := fun j hj => hS.2.lt j (by rw [own_rowOf]; exact hj)
  have hlr2 : ∀ j, rowOf A' = some j → B ≤ j ∧ j < w2.heap.size := fun j hj => hown2.lt j (by rw [own_rowOf]; exact hj)
  have hdis2 : ∀ j, rowOf A' = some j → rowOf SA ≠ some j := by
    intro j hj he
    rcases hfr with h | h
    · exact hdis j (h ▸ hj) he
    · have := h j hj; have := (hls j he).2; omega
  have hg2 : w2.heap[g]? = some (.cells #[.slice SA ((cat ls k).take r).length sc, .int .i64 ((r - (cat ls k).length : Nat) : Int)] 39 (0, 0)) := (hgrow.block g (Array.getElem?_eq_some_iff.1 hS.1).1 hgne).trans hS.1
  have hne2 : some g ≠ rowOf A' := by have := own_ne hown2 hg2 (by decide); rwa [own_rowOf] at this
  have e1 : (cat ls (k + 1)).length = (cat ls k).length + m := by rw [hcs, List.length_append, hm]
  refine ⟨?_, ?_, ?_, ?_⟩
  · rw [e1, hcs, List.map_append]
    exact own_only2 hown2 hO3 fun j hj => ⟨fun e => hne2 (by rw [own_rowOf] at hj; rw [hj, e]), fun e => hdis2 j (by rw [own_rowOf] at hj; exact hj) e.symm⟩
  · rw [e1, hcs, ← take_grow, show r - ((cat ls k).length + m) = r - (cat ls k).length - m by omega]
    exact hS3
  · intro j hj he
    rcases hfr3 with h | h
    · exact hdis2 j hj (h ▸ he)
    · have := h j he; have := (hlr2 j hj).2; omega
  · have h2 := hBw.grown hgrow hbs (fun j hj => (hlr j hj).1)
    exact h2.trans (hO3.below (Nat.le_trans hbs hgrow.size) hBg (fun j hj => (hls j hj).1))

theorem write_full2 (B g : Nat) (A : Option Addr) (c : Nat) (xs : List Int) (left : Nat) (D : Option Addr) (n cd : Nat) (bs : List Int) (w : World)
    (hS : Snk w B g A c xs left) (hB : B ≤ w.heap.size) (hlt : left < n) (hb : Rd w .u8 D n bs) (hn : n ≤ cd) (hbd : xs.length + n ≤ 1000000) :
    Calls Try.prog 9 #[.pointer (some ⟨g, 0, none⟩), .slice D n cd] w fun e w' => e = .returned (.tuple #[.int .i64 left, .int .u16 20]) ∧
      ∃ A' c', Snk w' B g A' c' (xs ++ bs.take left) (left - n) ∧ Only2 w w' g (rowOf A) ∧ FreshOr w (rowOf A) (rowOf A') :=
  (write_full B g A c xs left D n cd bs w hS hB hlt hb hn hbd).mono fun e w' ⟨he, A', c', h1, h2, h3⟩ => ⟨he, A', c', by rw [show left - n = left - left by omega]; exact h1, by rwa [own_rowOf] at h2, by have := h3 0; rwa [own_rowOf, own_rowOf] at this⟩

theorem write_fits2 (B g : Nat) (A : Option Addr) (c : Nat) (xs : List Int) (left : Nat) (D : Option Addr) (n cd : Nat) (bs : List Int) (w : World)
    (hS : Snk w B g A c xs left) (hB : B ≤ w.heap.size) (hlt : n ≤ left) (hb : Rd w .u8 D n bs) (hn : n ≤ cd) (hbd : xs.length + n ≤ 1000000) (hm : left ≤ 9223372036854775807) :
    Calls Try.prog 9 #[.pointer (some ⟨g, 0, none⟩), .slice D n cd] w fun e w' => e = .returned (.tuple #[.int .i64 n, .int .u16 0]) ∧
      ∃ A' c', Snk w' B g A' c' (xs ++ bs.take left) (left - n) ∧ Only2 w w' g (rowOf A) ∧ FreshOr w (rowOf A) (rowOf A') :=
  (write_fits B g A c xs left D n cd bs w hS hB hlt hb hn hbd hm).mono fun e w' ⟨he, A', c', h1, h2, h3⟩ => ⟨he, A', c', by have := hb.1; rw [List.take_of_length_le (by omega)] at h1 ⊢; exact h1, by rwa [own_rowOf] at h2, by have := h3 0; rwa [own_rowOf, own_rowOf] at this⟩

end Go.Proofs.Yteejjgnpjkldiaa
