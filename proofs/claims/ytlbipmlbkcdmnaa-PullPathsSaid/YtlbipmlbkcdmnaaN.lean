/-
  The names of a path: the iterator.
-/
import Derived.Test.YtlbipmlbkcdmnaaA
import Derived.Test.YtlbipmlbkcdmnaaR
namespace Go.Proofs.Ytlbipmlbkcdmnaa
open Go.RowKit Go.Shelf

attribute [local go_sem] Oper.semAt_some

/-- A text, split at each slash. -/
def splitL : List UInt8 → List (List UInt8)
  | [] => [[]]
  | b :: r => if b = 47 then [] :: splitL r else
    match splitL r with
    | [] => [[b]]
    | x :: t => (b :: x) :: t

def isName (x : List UInt8) : Bool := !x.isEmpty && x != [46]
def namesL (s : List UInt8) : List (List UInt8) := (splitL s).filter isName

theorem split_cut (s : List UInt8) : splitL s = if Lib.indexByte s 47 < 0 then [s] else s.take (Lib.indexByte s 47).toNat :: splitL (s.drop (Lib.indexByte s 47 + 1).toNat) := by
  induction s with
  | nil => rfl
  | cons b r ih =>
    have hg := Lib.indexByte_ge r 47
    by_cases hb : b = 47
    · subst hb
      simp [splitL, Lib.indexByte]
    · have hb' : (b == 47) = false := by simpa using hb
      have e : Lib.indexByte (b :: r) 47 = if Lib.indexByte r 47 == -1 then -1 else Lib.indexByte r 47 + 1 := by
        rw [Lib.indexByte]; simp [hb]
      rw [e]
      by_cases h : Lib.indexByte r 47 = -1
      · rw [h] at ih
        simp [splitL, hb, h, ih]
      · have h0 : ¬ Lib.indexByte r 47 < 0 := by omega
        rw [if_neg h0] at ih
        have h' : (Lib.indexByte r 47 == -1) = false := by simpa using h
        have t1 : (Lib.indexByte r 47 + 1).toNat = (Lib.indexByte r 47).toNat + 1 := by omega
        have t2 : (Lib.indexByte r 47 + 1 + 1).toNat = (Lib.indexByte r 47 + 1).toNat + 1 := by omega
        have h1 : ¬ Lib.indexByte r 47 + 1 < 0 := by omega
        simp only [splitL, hb, if_false, h', Bool.false_eq_true, h1]
        rw [ih, t2, List.drop_succ_cons, t1, List.take_succ_cons]

theorem names_step (s : List UInt8) : namesL s = (if isName (cutL s).1 then [(cutL s).1] else []) ++ namesL (cutL s).2.1 := by
  unfold namesL cutL
  rw [split_cut s]
  by_cases h : Lib.indexByte s 47 < 0
  · simp only [h, if_true]
    rw [List.filter_cons]
    simp [splitL, isName]
  · simp only [h, if_false]
    rw [List.filter_cons]
    split <;> simp

theorem cut_shorter {s : List UInt8} (hs : s ≠ []) : (cutL s).2.1.length < s.length := by
  have : 0 < s.length := List.length_pos_iff.2 hs
  unfold cutL
  split
  · simpa using this
  · simp; omega

theorem cut_le (s : List UInt8) : (cutL s).1.length ≤ s.length ∧ (cutL s).2.1.length ≤ s.length := by
  unfold cutL
  split
  · simp
  · simp; omega

/-- How much the cell still holds. -/
def leftIn (c : Nat) (w : World) : Nat :=
  match w.cell? ⟨c, 0, none⟩ with
  | some (.string b) => b.size
  | _ => 0

theorem left_eq {c : Nat} {w : World} {s : List UInt8} (h : w.cell? ⟨c, 0, none⟩ = some (.string ⟨s.toArray⟩)) : leftIn c w = s.length := by
  unfold leftIn; rw [h]; rfl

theorem Out.set (W : World) (c : Nat) (v : Value) : Out (· = c) W (W.setCell ⟨c, 0, none⟩ v) :=
  ⟨rfl, rfl, rfl, by simp [World.setCell], fun _ _ hk => Below.heap_setCell _ _ _ _ hk⟩
theorem Out.trans {S : Nat → Prop} {A B C : World} (h : Out S A B) (k : Out S B C) : Out S A C :=
  ⟨k.os.trans h.os, k.tape.trans h.tape, k.output.trans h.output, Nat.le_trans h.size k.size, fun j hj hn => (k.block j (Nat.lt_of_lt_of_le hj h.size) hn).trans (h.block j hj hn)⟩
theorem Out.of_below {S : Nat → Prop} {A B : World} (h : Below A.heap.size A B) : Out S A B :=
  ⟨h.os, h.tape, h.output, h.size, fun k hk _ => h.block k hk⟩

theorem cell_of {c : Nat} {w : World} {v : Value} {t : Nat} (h : w.heap[c]? = some (.cells #[v] t (0, 0))) : w.cell? ⟨c, 0, none⟩ = some v ∧ w.frozen? ⟨c, 0, none⟩ = false := by
  simp [World.cell?, World.frozen?, h]

theorem set_one {c : Nat} {w : World} {v v' : Value} {t : Nat} (h : w.heap[c]? = some (.cells #[v] t (0, 0))) : (w.setCell ⟨c, 0, none⟩ v').heap[c]? = some (.cells #[v'] t (0, 0)) := by
  rw [heap_setCell_same w c 0 #[v] t v' h]
  rfl

set_option maxRecDepth 100000 in
set_option maxHeartbeats 4000000 in
theorem names_gives (c : Nat) (s : List UInt8) (hs : s.length ≤ 4000000000000) :
    Gives Fence.wide 2 Try.prog 90 #[.pointer (some ⟨c, 0, none⟩)] c (some (.cells #[.string ⟨s.toArray⟩] 9 (0, 0))) (fun x : List UInt8 => #[.string ⟨x.toArray⟩]) (fun xs => xs = namesL s) (fun pre => pre <+: namesL s) := by
  intro l J Jx W hJ hJx hY h0 hc
  refine callsIn_of_wp Try.func90 rfl trivial ?_ rfl
  simp only [Try.ntmps90, List.size_toArray, List.length_cons, List.length_nil, Nat.reduceAdd, Nat.reduceSub, Array.replicate_succ, Array.replicate_zero, List.push_toArray, List.append_toArray, List.nil_append, List.cons_append]
  gi_wp2
  gi_loopw [3, 4, 5, 6, 7, 8, 9, 10, 11, 12, 13, 14, 15, 16, 17, 18, 19, 20, 21, 22, 23, 24, 25, 26] (fun _ _ _ _ _ _ _ _ _ _ _ _ _ _ _ _ _ _ _ _ _ _ _ _ wr => ∃ (pre : List (List UInt8)) (rest : List UInt8), wr.heap[c]? = some (.cells #[.string ⟨rest.toArray⟩] 9 (0, 0)) ∧ rest.length ≤ 4000000000000 ∧ pre ++ namesL rest = namesL s ∧ J pre wr)
    (fun _ _ _ _ _ _ _ _ _ _ _ _ _ _ _ _ _ _ _ _ _ _ _ _ wr => leftIn c wr)
  case atStart =>
    exact ⟨[], s, hc, hs, rfl, h0⟩
  case round =>
    obtain ⟨pre, rest, hr, hl, hx, hj⟩ := hrel
    obtain ⟨c1, f1⟩ := cell_of hr
    have hlt : c < wr.heap.size := (Array.getElem?_eq_some_iff.1 hr).1
    by_cases hne : rest = []
    · subst hne
      gi_wp2
      go_end0
      exact ⟨⟨_, rfl⟩, .inl ⟨pre, by rw [← hx]; simp [namesL, splitL, isName], hj⟩⟩
    · have e0 := emp hne
      have hst := names_step rest
      have hsh := cut_shorter hne
      have hle := cut_le rest
      have HC := fun w => cut_any rest hl w
      obtain ⟨nm, rs, bb, hcut⟩ : ∃ nm rs bb, cutL rest = (nm, rs, bb) := ⟨_, _, _, rfl⟩
      simp only [hcut] at hst hsh hle HC
      have hleft := left_eq c1
      have J2 : ∀ w1, Below wr.heap.size wr w1 → J pre (w1.setCell ⟨c, 0, none⟩ (.string ⟨rs.toArray⟩)) ∧ (w1.setCell ⟨c, 0, none⟩ (.string ⟨rs.toArray⟩)).heap[c]? = some (.cells #[.string ⟨rs.toArray⟩] 9 (0, 0)) ∧ w1.frozen? ⟨c, 0, none⟩ = false ∧ w1.cell? ⟨c, 0, none⟩ = some (.string ⟨rest.toArray⟩) :=
        fun w1 hb => ⟨hJ _ _ _ hj ((Out.of_below hb).trans (Out.set _ _ _)), set_one ((hb.block c hlt).trans hr), (World.frozen?_of_block (hb.block c hlt)).trans f1, (World.cell?_of_block (hb.block c hlt)).trans c1⟩
      by_cases hn : isName nm = true
      · have n1 : nm ≠ [] := by rintro rfl; simp [isName] at hn
        have n2 : nm ≠ [46] := by rintro rfl; simp [isName] at hn
        have n3 := emp n1
        have n4 : (nm == [46]) = false := by simpa using n2
        rw [if_pos hn] at hst
        clear hn
        have HY := fun W => hY pre nm W ⟨namesL rs, by rw [← hx, hst]; simp⟩
        dsimp only at HY
        have HST := Lib.hid hst; clear hst
        gi_wp2_with (refine ⟨trivial, ?_⟩; gi_at_call 91; refine (callsIn_wide.2 (HC _)).mono ?_; rintro e w1 ⟨rfl, hb⟩; obtain ⟨j2, k2, f2, d2⟩ := J2 w1 hb; obtain ⟨fn, tmps, assign, body, hy, hR⟩ := HY _ j2)
        refine hR.mono ?_
        rintro e W3 (⟨rfl, j3, k3⟩ | ⟨rfl, j3⟩)
        · gi_wp2
          go_roundw
          case rel => exact ⟨pre ++ [nm], rs, k3.trans k2, by omega, by rw [← hx, HST.out]; simp, j3⟩
          case measure => rw [hleft, left_eq (cell_of (k3.trans k2)).1]; exact hsh
        · gi_wp2
          refine bodyPost_ret (results_none rfl _ _ _) rfl ?_
          exact ⟨⟨_, rfl⟩, .inr ⟨pre ++ [nm], ⟨namesL rs, by rw [← hx, HST.out]; simp⟩, j3⟩⟩
      · have HS : namesL rest = namesL rs := by rw [hst, if_neg hn]; rfl
        have hcase : nm = [] ∨ nm = [46] := by
          by_cases h1 : nm = []
          · exact .inl h1
          · right; simpa [isName, h1] using hn
        have HST := Lib.hid HS; clear HS hst hn
        rcases hcase with rfl | rfl
        · gi_wp2_with (refine ⟨trivial, ?_⟩; gi_at_call 91; refine (callsIn_wide.2 (HC _)).mono ?_; rintro e w1 ⟨rfl, hb⟩; obtain ⟨j2, k2, f2, d2⟩ := J2 w1 hb)
          refine ⟨fun _ h => (by cases h), ?_⟩
          gi_wp2
          go_roundw
          case rel => exact ⟨pre, rs, k2, by omega, by rw [← HST.out]; exact hx, j2⟩
          case measure => rw [hleft, left_eq (cell_of k2).1]; exact hsh
        · gi_wp2_with (refine ⟨trivial, ?_⟩; gi_at_call 91; refine (callsIn_wide.2 (HC _)).mono ?_; rintro e w1 ⟨rfl, hb⟩; obtain ⟨j2, k2, f2, d2⟩ := J2 w1 hb)
          refine ⟨fun _ h => (by cases h), ?_⟩
          gi_wp2
          go_roundw
          case rel => exact ⟨pre, rs, k2, by omega, by rw [← HST.out]; exact hx, j2⟩
          case measure => rw [hleft, left_eq (cell_of k2).1]; exact hsh

end Go.Proofs.Ytlbipmlbkcdmnaa
