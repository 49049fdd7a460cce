/-
  Insert one node in a row of one's own.
-/
import Derived.Test.YtlbipmlbkcdmnaaMerD
import Derived.Lib.AppendZerosOnto
import Derived.Lib.Overlaps
import Derived.Shelf.Spec.SlicesInsert
namespace Go.Proofs.Ytlbipmlbkcdmnaa
open Go.RowKit Go.Shelf

/-- copy at cells of nodes: what is read lies somewhere, what is written lies in block g. -/
theorem run_copy4 (w : World) (ty g o dLen dCap : Nat) (a : Addr) (sLen sCap : Nat) (cur : Array Value) (cs : List Value)
    (hg : w.heap[g]? = some (.cells cur 31 (0, 0))) (hn : cs.length = Nat.min sLen dLen * 4)
    (hsrc : ∀ j v, cs[j]? = some v → w.cell? (a.add j) = some v) (hfit : o + cs.length ≤ cur.size) (h1 : ∀ v ∈ cs, v.oneCell' = true) :
    (Builtin.copy_ #[28, 28] ty #[.slice (some ⟨g, o, none⟩) dLen dCap, .slice (some a) sLen sCap]).run Try.prog w =
      .ok (goInt (Nat.min sLen dLen)) (w.setRow g (cur.toList.take o ++ cs ++ cur.toList.drop (o + cs.length)).toArray) := by
  have hl := run_loadCells_list (P := Try.prog) w a cs hsrc
  have hst := run_storeCells_at Try.prog g o 31 cs 0 cur w hg (by simpa using hfit) h1
  obtain ⟨i0, hi, hz0, hz1, hz2⟩ := info_parts Try.info31
  simp [Builtin.copy_, run_underlying Try.underlying28, Builtin.lenOf, Builtin.firstCells, sizeOf, typeInfo, hi, hz1, ← hn, hl, hst]

def nodeZ : Nd := ⟨[], 0, none, 0, 0, []⟩
theorem zeroCells_nodes (m : Nat) : (Builtin.zeroCells (Value.agg #[.string ⟨#[]⟩, .int .u8 0, .slice none 0 0, .string ⟨#[]⟩]).cells m).size = m * 4 := by
  simp [Builtin.zeroCells, Value.cells]

theorem cellsOf_drop (ns : List Nd) (m : Nat) (hm : m ≤ ns.length) : (cellsOf ns).drop (m * 4) = cellsOf (ns.drop m) := by
  have h1 : cellsOf ns = cellsOf (ns.take m) ++ cellsOf (ns.drop m) := by
    unfold cellsOf
    rw [← List.flatMap_append, List.take_append_drop]
  have h2 : (cellsOf (ns.take m)).length = m * 4 := by rw [cellsOf_length, List.length_take]; congr 1; omega
  rw [h1, ← h2, List.drop_left]

theorem cellsOf_mid (ns : List Nd) (x : Nd) (i : Nat) : cellsOf (ns.take i ++ x :: ns.drop i) = cellsOf (ns.take i) ++ x.cells ++ cellsOf (ns.drop i) := by
  unfold cellsOf
  rw [List.flatMap_append, List.flatMap_cons]
  simp

/-- What Insert yields: a row of one's own. -/
def InsPost (w : World) (B : Nat) (v0 : Value) (ns : List Nd) (x : Nd) (i : Nat) : Ending → World → Prop := fun e w' =>
  ∃ v, e = .returned v ∧ w'.ownsRow B 31 4 v (ns.length + 1) (cellsOf (ns.take i ++ x :: ns.drop i)) ∧ w.grownBy w' v0.ownBlock

set_option maxRecDepth 100000 in
set_option maxHeartbeats 2000000 in
theorem insert_end {w : World} {B : Nat} {A : Option Addr} {n c : Nat} {ns : List Nd} (x : Nd) (b cv : Nat) (ho : w.ownsRow B 31 4 (.slice A n c) n (cellsOf ns)) (hB : B ≤ w.heap.size) (hn : n ≤ 1000000000000)
    (hx : ∀ j u, x.cells[j]? = some u → w.cell? ((⟨b, 0, none⟩ : Addr).add j) = some u) :
    Calls Try.prog 52 #[.slice A n c, .int .i64 n, .slice (some ⟨b, 0, none⟩) 1 cv] w (InsPost w B (.slice A n c) ns x n) := by
  obtain ⟨i0, hi, hz0, hz1, hz2⟩ := info_parts Try.info31
  have hl := (own_nodes ho).1
  have HL := Lib.hid hl; clear hl
  have HO := Lib.hid ho; clear ho
  have hcap := own_cap HO.out
  unfold InsPost
  go_enter Try.func52, Try.ntmps52
  go_wp2_with (at_builtin; refine wpList_append_own _ rfl _ _ 28 rfl B 31 i0 _ 4 64 Try.underlying28 hi hz0 hz1 hz2 rfl (by decide) (.slice A n c) n (cellsOf ns) rfl HO.out ⟨b, 0, none⟩ 1 cv x.cells rfl rfl hx (fun u hu => cells_one [x] u (by simpa [cellsOf] using hu)) (by unfold maxLen; omega) (by omega) hB ?_; intro v' w1 hown' hgrow _)
  all_goals
    go_ret
    have h1 : ns.take ns.length = ns := List.take_of_length_le (Nat.le_refl _)
    have h2 : ns.drop ns.length = [] := List.drop_eq_nil_of_le (Nat.le_refl _)
    have hl := HL.out
    subst hl
    rw [h1, h2, ← cellsOf_snoc]
    exact ⟨_, rfl, hown', by cases A <;> exact hgrow⟩

set_option maxRecDepth 100000 in
set_option maxHeartbeats 4000000 in
theorem insert_room {w : World} {B g n c i : Nat} {ns : List Nd} (x : Nd) (b cv : Nat) (ho : w.ownsRow B 31 4 (.slice (some ⟨g, 0, none⟩) n c) n (cellsOf ns)) (hB : B ≤ w.heap.size) (hn : n ≤ 1000000000000) (hin : i < n) (hroom : n + 1 ≤ c)
    (hb : w.heap[b]? = some (.cells x.cells.toArray 31 (0, 0))) (hbg : b ≠ g) :
    Calls Try.prog 52 #[.slice (some ⟨g, 0, none⟩) n c, .int .i64 i, .slice (some ⟨b, 0, none⟩) 1 cv] w (InsPost w B (.slice (some ⟨g, 0, none⟩) n c) ns x i) := by
  have hl := (own_nodes ho).1
  rcases ho.2 with ⟨h', _⟩ | ⟨g', cap, cur, hv, hgb, hg, hcap, hcm, hcs, htake⟩
  · cases h'
  simp only [Value.slice.injEq, Option.some.injEq, Addr.mk.injEq, and_true, true_and] at hv
  obtain ⟨rfl, rfl⟩ := hv
  have hov : ∀ lb cb, (callFunc 70 #[.slice (some ⟨b, 0, none⟩) 1 cv, .slice (some ⟨g, (i + 1) * 4, none⟩) lb cb]).run Try.prog w = .ok (.value (.bool false)) w := fun lb cb => by
    rw [run_callFunc_extern Try.func70 (by kernel_rfl) (by kernel_rfl) (by kernel_rfl) (e := Extern.SlicesOverlaps.overlaps #[28, 28] #[4]) (by kernel_rfl),
      Lib.run_overlaps_apart w 28 4 31 Try.underlying28 4 (fun w => by kernel_rfl) ⟨b, 0, none⟩ ⟨g, (i + 1) * 4, none⟩ 1 cv lb cb hbg 31 31 x.cells.toArray.size cur.size (by simp [World.shape?, hb]) (by simp [World.shape?, hg]) (by omega) (by simp [World.frozen?, hb]) (by simp [World.frozen?, hb])]
    rfl
  have hz2 : ¬ ((i : Int) = (n : Int)) := by omega
  have hcz : (c : Int) ≤ 9223372036854775807 := by unfold maxLen at hcm; omega
  have hdl : (cellsOf (ns.drop i)).length = (n - i) * 4 := by rw [cellsOf_length, List.length_drop, ← hl]
  have hw1 : IntKind.i64.wrap ((i : Int) + (1 : Int)) = (i : Int) + (1 : Int) := by rw [IntKind.wrap_i64]; omega
  have htn : ((i : Int) + (1 : Int)).toNat = i + 1 := by omega
  have hb2 : ¬ (c = i + 1) := by omega
  have hb3 : (i : Int) ≤ (n : Int) + (1 : Int) := by omega
  have hb4 : ¬ (c = i) := by omega
  have hb1 : (0 : Int) ≤ (i : Int) + 1 := by omega
  have hb5 : i ≤ n := by omega
  have hb6 : (i : Int) ≤ (n : Int) := by omega
  have hcl : cur.toList.length = c * 4 := by simpa using hcs
  have htk : ∀ j, j ≤ n → cur.toList.take (j * 4) = cellsOf (ns.take j) := fun j hj => by
    rw [← cellsOf_take ns j (by omega), ← htake, List.take_take, Nat.min_eq_left (by omega)]
  have hrd : ∀ j v, (cellsOf (ns.drop i))[j]? = some v → w.cell? ((⟨g, i * 4, none⟩ : Addr).add j) = some v := fun j v hj => by
    have hj4 : j < (n - i) * 4 := by rw [← hdl]; exact (List.getElem?_eq_some_iff.1 hj).1
    rw [← cellsOf_drop ns i (by omega), List.getElem?_drop, ← htake, List.getElem?_take] at hj
    rw [if_pos (by omega)] at hj
    rw [Addr.add_lit]
    simp only [World.cell?, hg]
    simpa using hj
  obtain ⟨R1, hR1⟩ : ∃ R : Array Value, R = (cur.toList.take ((i + 1) * 4) ++ cellsOf (ns.drop i) ++ cur.toList.drop ((i + 1) * 4 + (cellsOf (ns.drop i)).length)).toArray := ⟨_, rfl⟩
  have hR1l : R1.toList.length = c * 4 := by
    rw [hR1]
    simp only [List.length_append, List.length_take, List.length_drop, hcl, hdl]
    omega
  obtain ⟨R2, hR2⟩ : ∃ R : Array Value, R = (R1.toList.take (i * 4) ++ x.cells ++ R1.toList.drop (i * 4 + x.cells.length)).toArray := ⟨_, rfl⟩
  have hxl : x.cells.length = 4 := rfl
  have hcp1 : ∀ (W : World), W.heap = w.heap → ∀ ty dc sc, (Builtin.copy_ #[28, 28] ty #[.slice (some ⟨g, (i + 1) * 4, none⟩) (n + 1 - (i + 1)) dc, .slice (some ⟨g, i * 4, none⟩) (n + 1 - i) sc]).run Try.prog W = .ok (goInt (n - i : Nat)) (W.setRow g R1) := fun W hW ty dc sc => by
    have hc : ∀ a, W.cell? a = w.cell? a := fun a => by unfold World.cell?; rw [hW]
    have h := run_copy4 W ty g ((i + 1) * 4) (n + 1 - (i + 1)) dc ⟨g, i * 4, none⟩ (n + 1 - i) sc cur (cellsOf (ns.drop i)) (by rw [hW]; exact hg) (by rw [hdl]; congr 1; simp only [Nat.min_def]; split <;> omega)
      (fun j v hj => (hc _).trans (hrd j v hj)) (by rw [hdl, hcs]; omega) (cells_one _)
    rw [h, ← hR1]
    congr 2
    simp only [Nat.min_def]; split <;> omega
  have hcp2 : ∀ (W : World), (∃ W0 : World, W0.heap = w.heap ∧ W = W0.setRow g R1) → ∀ ty dc, (Builtin.copy_ #[28, 28] ty #[.slice (some ⟨g, i * 4, none⟩) (n + 1 - i) dc, .slice (some ⟨b, 0, none⟩) 1 cv]).run Try.prog W = .ok (goInt (1 : Nat)) (W.setRow g R2) := fun W ⟨W0, hW0, hW⟩ ty dc => by
    have hg0 : W0.heap[g]? = some (.cells cur 31 (0, 0)) := by rw [hW0]; exact hg
    have hnm : Nat.min 1 (n + 1 - i) = 1 := by simp only [Nat.min_def]; split <;> omega
    have h := run_copy4 W ty g (i * 4) (n + 1 - i) dc ⟨b, 0, none⟩ 1 cv R1 x.cells (by rw [hW]; exact setRow_heap W0 g cur R1 31 (0, 0) hg0) (by rw [hxl, hnm])
      (fun j v hj => by
        rw [Addr.add_lit, Nat.zero_add, hW]
        have hbb : (W0.setRow g R1).heap[b]? = some (.cells x.cells.toArray 31 (0, 0)) := by rw [setRow_other W0 g b R1 hbg, hW0]; exact hb
        simp only [World.cell?, hbb]
        simpa using hj) (by rw [hxl]; have : R1.size = c * 4 := by simpa using hR1l
                            omega) (fun u hu => cells_one [x] u (by simpa [cellsOf] using hu))
    rw [h, ← hR2, hnm]
  have hfin : ∀ (W0 : World), W0.heap = w.heap → W0.os = w.os → W0.tape = w.tape → W0.output = w.output → ∀ W1, W1 = W0.setRow g R1 → ((W1.setRow g R2).ownsRow B 31 4 (.slice (some ⟨g, 0, none⟩) (n + 1) c) (n + 1) (cellsOf (ns.take i ++ x :: ns.drop i)) ∧ w.grownBy (W1.setRow g R2) (some g)) := fun W0 h0 h1 h2 h3 W1 hW1 => by
    have hg0 : W0.heap[g]? = some (.cells cur 31 (0, 0)) := by rw [h0]; exact hg
    have hR2l : R2.toList.length = c * 4 := by
      rw [hR2]
      simp only [List.length_append, List.length_take, List.length_drop, hR1l, hxl]
      omega
    subst hW1
    refine ⟨⟨?_, .inr ⟨g, c, R2, rfl, hgb, setRow_heap _ g R1 R2 31 (0, 0) (setRow_heap W0 g cur R1 31 (0, 0) hg0), hroom, hcm, by simpa using hR2l, ?_⟩⟩, ⟨h1, h2, h3, by simp [World.setRow, h0], fun k hk hne => ?_⟩⟩
    · rw [cellsOf_length]
      simp
      omega
    · have hlen : (cellsOf (ns.take i)).length = i * 4 := by rw [cellsOf_length, List.length_take]; congr 1; omega
      have e1 : R1.toList.take (i * 4) = cellsOf (ns.take i) := by
        rw [hR1, List.append_assoc]
        simp only
        rw [List.take_append_of_le_length (by simp only [List.length_take, hcl]; omega), List.take_take, Nat.min_eq_left (by omega), htk i (by omega)]
      have e2 : R1.toList.drop (i * 4 + 4) = cellsOf (ns.drop i) ++ cur.toList.drop ((i + 1) * 4 + (cellsOf (ns.drop i)).length) := by
        have h4 : (cur.toList.take ((i + 1) * 4)).length = i * 4 + 4 := by simp only [List.length_take, hcl]; omega
        rw [hR1, List.append_assoc]
        simp only
        rw [← h4, List.drop_left]
      rw [cellsOf_mid, hR2, hxl, e1, e2]
      simp only
      rw [← List.append_assoc]
      have h5 : (cellsOf (ns.take i) ++ x.cells ++ cellsOf (ns.drop i)).length = (n + 1) * 4 := by
        simp only [List.length_append, hlen, hdl, hxl]; omega
      rw [← h5, List.take_left]
    · have hk' : k ≠ g := fun e => hne (by rw [e])
      rw [setRow_other _ g k R2 hk', setRow_other _ g k R1 hk', h0]
  have HFIN := Lib.hid hfin
  have HN := Lib.hid hl
  clear hfin hl hR1 hR2 hrd htk hcl hdl hR1l hg hb ho htake hcs
  unfold InsPost
  go_enter Try.func52, Try.ntmps52
  go_wp2_with (simp only [hov])
  refine wp_region_ordB B [0, 1, 2, 3, 4, 5, 6, 7, 8] [8] (by kernel_rfl) (by kernel_rfl) (by kernel_rfl) (fun d _ _ _ _ h => by cases d <;> exact h) (by kernel_rfl) ?_
  repeat (first | (refine wpOrd_take (v := ?_) rfl rfl rfl (fun W hW => ?_) ?_; rotate_left; (focus (go_simp; with_reducible rfl)); simp only [Act.put, List.setIfInBounds_toArray, List.set_cons_succ, List.set_cons_zero]) | (refine wpOrd_skip rfl rfl ?_; simp only [Act.put, List.setIfInBounds_toArray, List.set_cons_succ, List.set_cons_zero]))
  refine wpOrd_step rfl rfl ?_
  refine step_copy_runI rfl _ _ 28 28 rfl (.slice (some ⟨g, (i + 1) * 4, none⟩) (n + 1 - (i + 1)) (c - (i + 1))) (.slice (some ⟨g, i * 4, none⟩) (n + 1 - i) (c - i)) (by simp [Act.eval]) (by simp [Act.eval]) (hcp1 w.drew rfl _ _ _) ?_
  refine ⟨(Below.refl B _).grown (row := some g) ⟨rfl, rfl, rfl, by simp [World.setRow], fun k _ hk => setRow_other _ g k R1 (fun e => hk (by rw [e]))⟩ (by simpa using hB) (fun j e => by cases e; exact hgb), ?_⟩
  refine wpOrd_nil ?_
  have hc2 := hcp2 (w.drew.setRow g R1) ⟨w.drew, rfl, rfl⟩
  clear hcp1 hcp2
  go_wp2_with fail
  go_ret
  have hF := HFIN.out w.drew rfl rfl rfl rfl _ rfl
  exact ⟨_, rfl, by rw [← HN.out]; exact hF.1, hF.2⟩

set_option maxRecDepth 100000 in
set_option maxHeartbeats 4000000 in
theorem insert_grow {w : World} {B g n c i : Nat} {ns : List Nd} (x : Nd) (b cv : Nat) (ho : w.ownsRow B 31 4 (.slice (some ⟨g, 0, none⟩) n c) n (cellsOf ns)) (hB : B ≤ w.heap.size) (hn : n ≤ 1000000000000) (hin : i < n) (hroom : c < n + 1)
    (hb : w.heap[b]? = some (.cells x.cells.toArray 31 (0, 0))) :
    Calls Try.prog 52 #[.slice (some ⟨g, 0, none⟩) n c, .int .i64 i, .slice (some ⟨b, 0, none⟩) 1 cv] w (InsPost w B (.slice (some ⟨g, 0, none⟩) n c) ns x i) := by
  obtain ⟨i0, hi, hz0, hzs, hzb⟩ := info_parts Try.info31
  have hl := (own_nodes ho).1
  have hcap := own_cap ho
  have hgl : g < w.heap.size := (ho.lt g rfl).2
  have hbl : b < w.heap.size := (Array.getElem?_eq_some_iff.1 hb).1
  have hcells := ho.cells (g := g) rfl
  have hz2 : ¬ ((i : Int) = (n : Int)) := by omega
  have hz3 : (c : Int) < (n : Int) + (1 : Int) := by omega
  have hdl : (cellsOf (ns.drop i)).length = (n - i) * 4 := by rw [cellsOf_length, List.length_drop, ← hl]
  have htl : (cellsOf (ns.take i)).length = i * 4 := by rw [cellsOf_length, List.length_take]; congr 1; omega
  have hkk : (n : Int) + (1 : Int) - (i : Int) = ((n + 1 - i : Nat) : Int) := by omega
  have hik : i + (n + 1 - i) = n + 1 := by omega
  have hold : (Builtin.firstCells i0.size i (.slice (some ⟨g, 0, none⟩) i c)).run Try.prog w.drew = .ok (cellsOf (ns.take i)).toArray w.drew := by
    rw [hzs]
    exact run_firstCells_some w.drew 4 i ⟨g, 0, none⟩ i c (cellsOf (ns.take i)) htl (fun j v hj => by
      rw [← cellsOf_take ns i (by omega), List.getElem?_take] at hj
      split at hj
      · exact hcells j v hj
      · cases hj)
  obtain ⟨G, hG⟩ : ∃ G, G = grownCap w (n + 1) c 31 := ⟨_, rfl⟩
  have hGn : n + 1 ≤ G := by rw [hG]; exact grownCap_ge w _ _ _
  have hG63 : G ≤ maxLen := by
    have := grownCap_le_maxLen w (n + 1) c 31 (by unfold maxLen; omega)
    rwa [← hG] at this
  obtain ⟨ROW, hROW⟩ : ∃ ROW : Array Value, ROW = (cellsOf (ns.take i)).toArray ++ Builtin.zeroCells (Value.agg #[.string ⟨#[]⟩, .int .u8 0, .slice none 0 0, .string ⟨#[]⟩]).cells (n + 1 - i) ++ Builtin.zeroCells (Value.agg #[.string ⟨#[]⟩, .int .u8 0, .slice none 0 0, .string ⟨#[]⟩]).cells (G - (n + 1)) := ⟨_, rfl⟩
  have hrz : ∀ ty, (Builtin.append_ #[28, 3] ty #[.slice (some ⟨g, 0, none⟩) i c, .int .i64 ((n : Int) + (1 : Int) - (i : Int))]).run Try.prog w =
      .ok (.slice (some ⟨w.heap.size, 0, none⟩) (n + 1) G) (w.drew.alloc (.cells ROW 31)) := fun ty => by
    have h := Lib.run_append_grow_zeros w 28 3 ty 31 i0 _ .i64 .i64 Try.underlying28 Try.underlying3 hi hz0 (some ⟨g, 0, none⟩) i c (cellsOf (ns.take i)) hold (n + 1 - i) (by omega) (by rw [hzs]; decide) (by omega) (by omega) (by rw [hzb]; omega) (by rw [hzb, hik]; exact growslice_fits (by omega) (by omega))
    rw [hik] at h
    rw [hkk, h, hROW, hG]
  have hRl : ROW.toList.length = G * 4 := by
    rw [hROW]
    simp only [Array.toList_append, List.length_append, Array.length_toList, zeroCells_nodes, htl]
    omega
  obtain ⟨W1, hW1⟩ : ∃ W1, W1 = w.drew.alloc (.cells ROW 31) := ⟨_, rfl⟩
  have hN : W1.heap[w.heap.size]? = some (.cells ROW 31 (0, 0)) := by rw [hW1]; exact heap_alloc_new w.drew _
  have hOld : ∀ k, k < w.heap.size → W1.heap[k]? = w.heap[k]? := fun k hk => by rw [hW1]; exact heap_alloc_old w.drew _ hk
  have hxl : x.cells.length = 4 := rfl
  obtain ⟨R1, hR1⟩ : ∃ R : Array Value, R = (ROW.toList.take (i * 4) ++ x.cells ++ ROW.toList.drop (i * 4 + x.cells.length)).toArray := ⟨_, rfl⟩
  have hR1l : R1.toList.length = G * 4 := by
    rw [hR1]
    simp only [List.length_append, List.length_take, List.length_drop, hRl, hxl]
    omega
  obtain ⟨R2, hR2⟩ : ∃ R : Array Value, R = (R1.toList.take ((i + 1) * 4) ++ cellsOf (ns.drop i) ++ R1.toList.drop ((i + 1) * 4 + (cellsOf (ns.drop i)).length)).toArray := ⟨_, rfl⟩
  have hR2l : R2.toList.length = G * 4 := by
    rw [hR2]
    simp only [List.length_append, List.length_take, List.length_drop, hR1l, hdl]
    omega
  have hcpA : ∀ (W : World), W.heap = W1.heap → ∀ ty dc, (Builtin.copy_ #[28, 28] ty #[.slice (some ⟨w.heap.size, i * 4, none⟩) (n + 1 - i) dc, .slice (some ⟨b, 0, none⟩) 1 cv]).run Try.prog W = .ok (goInt (1 : Nat)) (W.setRow w.heap.size R1) := fun W hW ty dc => by
    have hnm : Nat.min 1 (n + 1 - i) = 1 := by simp only [Nat.min_def]; split <;> omega
    have h := run_copy4 W ty w.heap.size (i * 4) (n + 1 - i) dc ⟨b, 0, none⟩ 1 cv ROW x.cells (by rw [hW]; exact hN) (by rw [hxl, hnm])
      (fun j v hj => by
        rw [Addr.add_lit, Nat.zero_add]
        have hbb : W.heap[b]? = some (.cells x.cells.toArray 31 (0, 0)) := by rw [hW, hOld b hbl]; exact hb
        simp only [World.cell?, hbb]
        simpa using hj) (by rw [hxl]; have : ROW.size = G * 4 := by simpa using hRl
                            omega) (fun u hu => cells_one [x] u (by simpa [cellsOf] using hu))
    rw [h, ← hR1, hnm]
  have hcpB : ∀ (W : World), W.heap = (W1.setRow w.heap.size R1).heap → ∀ ty dc sc, (Builtin.copy_ #[28, 28] ty #[.slice (some ⟨w.heap.size, (i + 1) * 4, none⟩) (n + 1 - (i + 1)) dc, .slice (some ⟨g, i * 4, none⟩) (n - i) sc]).run Try.prog W = .ok (goInt (n - i : Nat)) (W.setRow w.heap.size R2) := fun W hW ty dc sc => by
    have hnm : Nat.min (n - i) (n + 1 - (i + 1)) = n - i := by simp only [Nat.min_def]; split <;> omega
    have h := run_copy4 W ty w.heap.size ((i + 1) * 4) (n + 1 - (i + 1)) dc ⟨g, i * 4, none⟩ (n - i) sc R1 (cellsOf (ns.drop i)) (by rw [hW]; exact setRow_heap W1 w.heap.size ROW R1 31 (0, 0) hN) (by rw [hdl, hnm])
      (fun j v hj => by
        rw [← cellsOf_drop ns i (by omega), List.getElem?_drop] at hj
        have h1 := hcells (i * 4 + j) v hj
        rw [Addr.add_lit] at h1 ⊢
        rw [Nat.zero_add] at h1
        have hgg : W.heap[g]? = w.heap[g]? := by rw [hW, setRow_other W1 w.heap.size g R1 (by omega), hOld g hgl]
        exact (World.cell?_of_block hgg).trans h1) (by rw [hdl]; have : R1.size = G * 4 := by simpa using hR1l
                                                       omega) (cells_one _)
    rw [h, ← hR2, hnm]
  have hfin : ∀ (W : World), W.heap = W1.heap → W.os = w.os → W.tape = w.tape → W.output = w.output → ∀ W2 : World, W2.heap = (W.setRow w.heap.size R1).heap → W2.os = w.os → W2.tape = w.tape → W2.output = w.output →
      (W2.setRow w.heap.size R2).ownsRow B 31 4 (.slice (some ⟨w.heap.size, 0, none⟩) (n + 1) G) (n + 1) (cellsOf (ns.take i ++ x :: ns.drop i)) ∧ w.grownBy (W2.setRow w.heap.size R2) (some g) := fun W h0 _ _ _ W2 k0 k1 k2 k3 => by
    have hNW : W.heap[w.heap.size]? = some (.cells ROW 31 (0, 0)) := by rw [h0]; exact hN
    have hN2 : W2.heap[w.heap.size]? = some (.cells R1 31 (0, 0)) := by rw [k0]; exact setRow_heap W _ ROW R1 31 (0, 0) hNW
    refine ⟨⟨?_, .inr ⟨w.heap.size, G, R2, rfl, hB, setRow_heap _ _ R1 R2 31 (0, 0) hN2, hGn, hG63, by simpa using hR2l, ?_⟩⟩, ⟨k1, k2, k3, ?_, fun k hk hne => ?_⟩⟩
    · rw [cellsOf_length]
      simp
      omega
    · have e1 : R1.toList.take ((i + 1) * 4) = cellsOf (ns.take i) ++ x.cells := by
        have e0 : ROW.toList.take (i * 4) = cellsOf (ns.take i) := by
          rw [hROW]
          simp only [Array.toList_append, List.append_assoc]
          rw [← htl, List.take_left]
        have h4 : (cellsOf (ns.take i) ++ x.cells).length = (i + 1) * 4 := by simp only [List.length_append, htl, hxl]; omega
        rw [hR1, e0]
        simp only
        rw [← h4, List.take_left]
      rw [cellsOf_mid, hR2, e1]
      simp only
      have h5 : (cellsOf (ns.take i) ++ x.cells ++ cellsOf (ns.drop i)).length = (n + 1) * 4 := by
        simp only [List.length_append, htl, hdl, hxl]; omega
      rw [← h5, List.take_left]
    · have h1 : W2.heap.size = W1.heap.size := by rw [k0]; simp [World.setRow, h0]
      have h2 : W1.heap.size = w.heap.size + 1 := by rw [hW1]; simp
      simp [World.setRow, h1, h2]
    · have hk' : k ≠ w.heap.size := by omega
      rw [setRow_other _ _ k R2 hk', k0, setRow_other _ _ k R1 hk', h0, hOld k hk]
  have HFIN := Lib.hid hfin
  have HN := Lib.hid hl
  have hGi : ¬ (G = i) := by omega
  have hGim : ¬ (G = i + 1) := by omega
  have hci : ¬ (c = i) := by omega
  have hw1 : IntKind.i64.wrap ((i : Int) + (1 : Int)) = (i : Int) + (1 : Int) := by rw [IntKind.wrap_i64]; omega
  have htn : ((i : Int) + (1 : Int)).toNat = i + 1 := by omega
  have hb1 : (0 : Int) ≤ (i : Int) + 1 := by omega
  have hb5 : i ≤ n := by omega
  have hb6 : (i : Int) ≤ (n : Int) := by omega
  have hG63' : G ≤ 9223372036854775807 := by unfold maxLen at hG63; omega
  clear hfin hl hR1 hR2 hdl hR1l hR2l hb ho hN hOld hold hG hROW hRl hcells htl hkk hik hi hz0 hzs hzb
  subst hW1
  unfold InsPost
  go_enter Try.func52, Try.ntmps52
  have hcA := hcpA (w.alloc (.cells ROW 31)).drew rfl
  clear hcpA
  go_wp2_with (at_builtin; refine Lib.wpList_append_run _ rfl _ _ _ _ rfl _ _ rfl rfl _ _ (hrz _) ?_)
  refine wp_region_ordB w.heap.size [0, 1, 2, 3, 4, 5, 6, 7, 8] [8] (by kernel_rfl) (by kernel_rfl) (by kernel_rfl) (fun d _ _ _ _ h => by cases d <;> exact h) (by kernel_rfl) ?_
  repeat (first | (refine wpOrd_take (v := ?_) rfl rfl rfl (fun W hW => ?_) ?_; rotate_left; (focus (go_simp; with_reducible rfl)); simp only [Act.put, List.setIfInBounds_toArray, List.set_cons_succ, List.set_cons_zero]) | (refine wpOrd_skip rfl rfl ?_; simp only [Act.put, List.setIfInBounds_toArray, List.set_cons_succ, List.set_cons_zero]))
  refine wpOrd_step rfl rfl ?_
  refine step_copy_runI rfl _ _ 28 28 rfl (.slice (some ⟨w.heap.size, (i + 1) * 4, none⟩) (n + 1 - (i + 1)) (G - (i + 1))) (.slice (some ⟨g, i * 4, none⟩) (n - i) (c - i)) (by simp [Act.eval]) (by simp [Act.eval]) (hcpB ((w.alloc (.cells ROW 31)).drew.setRow w.heap.size R1).drew rfl _ _ _) ?_
  refine ⟨(Below.refl w.heap.size _).grown (row := some w.heap.size) ⟨rfl, rfl, rfl, by simp [World.setRow], fun k _ hk => setRow_other _ _ k R2 (fun e => hk (by rw [e]))⟩ (by simp [World.setRow]) (fun j e => by cases e; exact Nat.le_refl _), ?_⟩
  refine wpOrd_nil ?_
  go_wp2_with fail
  go_ret
  have hF := HFIN.out (w.alloc (.cells ROW 31)).drew rfl rfl rfl rfl ((w.alloc (.cells ROW 31)).drew.setRow w.heap.size R1).drew rfl rfl rfl rfl
  exact ⟨_, rfl, by rw [← HN.out]; exact hF.1, hF.2⟩

theorem insert_any {w : World} {B n c i : Nat} {A : Option Addr} {ns : List Nd} (x : Nd) (b cv : Nat) (ho : w.ownsRow B 31 4 (.slice A n c) n (cellsOf ns)) (hB : B ≤ w.heap.size) (hn : n ≤ 1000000000000) (hin : i ≤ n)
    (hb : w.heap[b]? = some (.cells x.cells.toArray 31 (0, 0))) (hbg : ∀ g, (Value.slice A n c).ownBlock = some g → b ≠ g) :
    Calls Try.prog 52 #[.slice A n c, .int .i64 i, .slice (some ⟨b, 0, none⟩) 1 cv] w (InsPost w B (.slice A n c) ns x i) := by
  by_cases he : i = n
  · subst he
    exact insert_end x b cv ho hB hn fun j u h => by
      rw [Addr.add_lit, Nat.zero_add]
      simp only [World.cell?, hb]
      simpa using h
  · rcases ho.2 with ⟨h', h0⟩ | ⟨g', cap, cur, hv, rest⟩
    · omega
    · injection hv with hA hn' hc
      subst hA; subst hc
      by_cases hr : n + 1 ≤ c
      · exact insert_room x b cv ho hB hn (by omega) hr hb (hbg g' rfl)
      · exact insert_grow x b cv ho hB hn (by omega) (by omega) hb

end Go.Proofs.Ytlbipmlbkcdmnaa

/-
  Put: one more, or in place of one.
-/
namespace Go.Proofs.Ytlbipmlbkcdmnaa
open Go.RowKit Go.Shelf

set_option maxHeartbeats 1000000 in
/-- Is it the same path? -/
theorem same_path (x : Nd) (b : Nat) (y : Nd) (w : World) (hs : w.cell? ⟨b, 0, none⟩ = some (.string ⟨y.path.toArray⟩)) (hb : b < w.heap.size) :
    Calls Try.prog 49 #[.agg x.cells.toArray, .pointer (some ⟨b, 0, none⟩)] w fun e w' => e = .returned (.bool (x.path == y.path)) ∧ Below w.heap.size w w' := by
  obtain ⟨p, k, A, n, c, l⟩ := x
  unfold Nd.cells
  dsimp only
  have h2 : (w.alloc (.cells #[.string ⟨p.toArray⟩, .int .u8 k, .slice A n c, .string ⟨l.toArray⟩] 31)).cell? ⟨b, 0, none⟩ = some (.string ⟨y.path.toArray⟩) := (World.cell?_of_block (Below.heap_alloc w _ b hb)).trans hs
  go_enter Try.func49, Try.ntmps49
  go_wp2_with fail
  go_ret
  exact ⟨rfl, (Below.refl _ w).alloc (Nat.le_refl _) _⟩

set_option maxHeartbeats 1000000 in
/-- Is it behind? -/
theorem path_behind (x : Nd) (b : Nat) (y : Nd) (w : World) (hs : w.cell? ⟨b, 0, none⟩ = some (.string ⟨y.path.toArray⟩)) (hb : b < w.heap.size) :
    Calls Try.prog 51 #[.agg x.cells.toArray, .pointer (some ⟨b, 0, none⟩)] w fun e w' => e = .returned (.bool (gtL x.path y.path)) ∧ Below w.heap.size w w' := by
  obtain ⟨p, k, A, n, c, l⟩ := x
  unfold Nd.cells gtL
  dsimp only
  have h2 : (w.alloc (.cells #[.string ⟨p.toArray⟩, .int .u8 k, .slice A n c, .string ⟨l.toArray⟩] 31)).cell? ⟨b, 0, none⟩ = some (.string ⟨y.path.toArray⟩) := (World.cell?_of_block (Below.heap_alloc w _ b hb)).trans hs
  go_enter Try.func51, Try.ntmps51
  go_wp2_with fail
  go_ret
  exact ⟨by simp, (Below.refl _ w).alloc (Nat.le_refl _) _⟩

theorem putG_insert {α : Type} (pa : α → List UInt8) (x : α) : ∀ (l : List α) (i : Nat), i ≤ (l.filter fun z => !(pa z == pa x)).length →
    (∀ (j : Nat) (y : α), j < i → (l.filter fun z => !(pa z == pa x))[j]? = some y → gtL (pa y) (pa x) = false) →
    (∀ (y : α), (l.filter fun z => !(pa z == pa x))[i]? = some y → gtL (pa y) (pa x) = true) →
    putG pa x l = (l.filter fun z => !(pa z == pa x)).take i ++ x :: (l.filter fun z => !(pa z == pa x)).drop i
  | [], i, h, _, _ => by
    obtain rfl : i = 0 := by simpa using h
    rfl
  | y :: r, i, h, h1, h2 => by
    rw [putG]
    by_cases he : (pa y == pa x) = true
    · rw [if_pos he]
      have hf : ((y :: r).filter fun z => !(pa z == pa x)) = r.filter fun z => !(pa z == pa x) := by simp [he]
      rw [hf] at h h1 h2 ⊢
      exact putG_insert pa x r i h h1 h2
    · rw [if_neg he]
      have hf : ((y :: r).filter fun z => !(pa z == pa x)) = y :: r.filter fun z => !(pa z == pa x) := by simp [he]
      rw [hf] at h h1 h2 ⊢
      by_cases hg : gtL (pa y) (pa x) = true
      · rw [if_pos hg]
        cases i with
        | zero => rfl
        | succ i =>
          have := h1 0 y (by omega) rfl
          rw [hg] at this
          cases this
      · rw [if_neg hg]
        cases i with
        | zero => exact absurd (h2 y rfl) hg
        | succ i =>
          have ih := putG_insert pa x r i (by simpa using h) (fun j z hj hz => h1 (j + 1) z (by omega) (by simpa using hz)) (fun z hz => h2 z (by simpa using hz))
          rw [ih]
          rfl

theorem likeO_put {w : World} {B : Nat} {x : Nd} {s : Sn} (hx : NdOwn w B x s) : ∀ {ns : List Nd} {ss : List Sn}, LikeO w B ns ss → LikeO w B (putG Nd.path x ns) (putG Sn.path s ss)
  | [], ss, h => by rw [likeO_nil h]; exact likeO_mk hx ⟨rfl, fun j x s hx => by simp at hx⟩
  | y :: r, ss, h => by
    obtain ⟨u, t, rfl, h1, h2⟩ := likeO_cons h
    have ih := likeO_put hx h2
    rw [putG, putG, h1.1, hx.1]
    split
    · exact ih
    · split
      · exact likeO_mk hx (likeO_mk h1 (likeO_filter (fun a b hab => by rw [hab.1]) h2))
      · exact likeO_mk h1 ih

theorem own_grown {w w' : World} {B B' : Nat} {v v5 : Value} {n n5 : Nat} {cs xs : List Value} (h : w.ownsRow B 5 1 v5 n5 xs) (ho : w.ownsRow B' 31 4 v n cs) (hg : w.grownBy w' v.ownBlock) : w'.ownsRow B 5 1 v5 n5 xs := by
  rcases ho.2 with ⟨rfl, _⟩ | ⟨g, cap, cur, rfl, _, hb, _⟩
  · exact own_below h ⟨hg.os, hg.tape, hg.output, hg.size, fun k hk => hg.block k hk (by simp [Value.ownBlock])⟩
  · exact own_other h hb (by decide) fun k hk hne => hg.block k hk (by simpa [Value.ownBlock] using hne)

set_option maxRecDepth 100000 in
set_option maxHeartbeats 4000000 in
theorem put_any {w : World} {A : Option Addr} {n c : Nat} {ns : List Nd} {ss : List Sn} (x : Nd) (s : Sn) (h : Nodes w A ns) (hL : Like w ns ss) (hx : NdAt w x s) (hl : n = ns.length) (hn : n ≤ 100000000000) (hnil : A = none → n = 0) :
    Calls Try.prog 26 #[.slice A n c, .agg x.cells.toArray] w fun e w' => ∃ v m ms, e = .returned v ∧ w'.ownsRow w.heap.size 31 4 v m (cellsOf ms) ∧ LikeO w' w.heap.size ms (putG Sn.path s ss) ∧ Below w.heap.size w w' := by
  obtain ⟨w1, hw1⟩ : ∃ w1, w1 = w.alloc (.cells x.cells.toArray 31) := ⟨_, rfl⟩
  have hb1 : Below w.heap.size w w1 := by rw [hw1]; exact (Below.refl _ w).alloc (Nat.le_refl _) _
  have z1 : w1.heap.size = w.heap.size + 1 := by rw [hw1]; simp
  have k1 : w1.heap[w.heap.size]? = some (.cells x.cells.toArray 31 (0, 0)) := by rw [hw1]; exact heap_alloc_new w _
  have HC := clone_any (c := x.cap) (hx.2.2.2.1.below hb1) hx.2.2.2.2.2
  have HX := Lib.hid hx; clear hx
  unfold Nd.cells at hw1 k1 ⊢
  obtain ⟨d0, d1, d2, d3⟩ := node_cells k1
  go_enter Try.func26, Try.ntmps26
  go_wp2_with fail
  rw [← hw1]
  refine HC.mono ?_
  rintro e w2 ⟨A2, c2, rfl, ho2, hb2⟩
  have k2 := (hb2.block w.heap.size (by omega)).trans k1
  obtain ⟨f0, f1, f2, f3⟩ := node_cells k2
  obtain ⟨g0, g1, g2, g3⟩ := node_frozen k2
  -- the box with the bytes of its own
  obtain ⟨w3, hw3⟩ : ∃ w3, w3 = w2.setCell ⟨w.heap.size, 2, none⟩ (.slice A2 x.len c2) := ⟨_, rfl⟩
  have k3 : w3.heap[w.heap.size]? = some (.cells (Nd.cells { x with adr := A2, len := x.len, cap := c2 }).toArray 31 (0, 0)) := by
    rw [hw3]
    exact heap_setCell_same _ w.heap.size 2 _ 31 _ k2
  have hB2 : Below w.heap.size w w2 := hb1.trans (hb2.mono (by omega))
  have hB3 : Below w.heap.size w w3 := by rw [hw3]; exact hB2.setCell (p := ⟨w.heap.size, 2, none⟩) (Nat.le_refl _) _
  have z3 : w3.heap.size = w2.heap.size := by rw [hw3]; simp [World.setCell]
  have hxo : NdOwn w3 w1.heap.size { x with adr := A2, len := x.len, cap := c2 } s := by
    refine ⟨HX.out.1, HX.out.2.1, HX.out.2.2.1, ?_, HX.out.2.2.2.2.2⟩
    refine own_other ho2 k2 (by decide) fun k hk hne => ?_
    rw [hw3]
    exact Below.heap_setCell _ _ _ _ hne
  generalize hy : ({ x with adr := A2, len := x.len, cap := c2 } : Nd) = y at k3 hxo
  have HCP := copied_any (c := c) (h.below hB3) (hL.below hB3) hl (by omega) hnil
  have hz12 : w1.heap.size ≤ w2.heap.size := hb2.size
  have HK3 := Lib.hid k3
  have HXO := Lib.hid hxo
  have HB3 := Lib.hid hB3
  have HHL := Lib.hid hl
  clear h hL hnil k1 k2 d0 d1 d2 d3 ho2 hb1 hb2 hB2 hB3 k3 hxo HC HX hy hl
  go_wp2_with fail
  rw [← hw3]
  clear f0 f1 f2 f3 g0 g1 g2 g3 hw3 hw1
  refine HCP.mono ?_
  rintro e w4 ⟨A4, c4, ms, rfl, ho4, hL4, hb4⟩
  have l3 := (Array.getElem?_eq_some_iff.1 HK3.out).1
  have k4 := (hb4.block _ l3).trans HK3.out
  have hm4 := own_nodes ho4
  have HD := delete_any 49 #[.pointer (some ⟨w.heap.size, 0, none⟩)] (enters_of Try.func49 (by kernel_rfl) rfl) (fun z => z.path == y.path) ho4 hb4.size (by omega) (fun W z _ hW => by
    have e1 := (node_cells ((hW.block _ l3).trans k4)).1
    have := hW.size
    have := hb4.size
    exact same_path z w.heap.size y W e1 (by omega))
  have hxo4 := HXO.out.below hb4
  have HO4 := Lib.hid ho4
  have HL4 := Lib.hid hL4
  have HK4 := Lib.hid k4
  have HXO4 := Lib.hid hxo4
  have HB4 := Lib.hid (HB3.out.trans (hb4.mono HB3.out.size))
  have hz4 := hb4.size
  have HM4 := Lib.hid hm4
  clear ho4 hL4 k4 hb4 hxo4 HXO HK3 HB3 HCP hm4
  go_wp2_with fail
  refine HD.mono ?_
  rintro e w5 ⟨v5, m5, rfl, hm5, ho5, hg5⟩
  have hne4 : ∀ k, (Value.slice A4 n c4).ownBlock = some k → w3.heap.size ≤ k := fun k hk => own_from HO4.out k hk
  have k5 : w5.heap[w.heap.size]? = some (.cells y.cells.toArray 31 (0, 0)) := by
    refine (hg5.block _ (by omega) (fun e => ?_)).trans HK4.out
    have := hne4 _ e.symm
    omega
  have hL5 := likeO_grown HL4.out HO4.out hg5
  have hxd5 := own_grown HXO4.out.2.2.2.1 HO4.out hg5
  have hz5 := hg5.size
  have hB5 : Below w.heap.size w w5 := HB4.out.trans ((Below.refl _ w4).grown hg5 (by omega) (fun k e => by have := hne4 k e; omega))
  obtain ⟨A5, c5, rfl⟩ := own_form ho5
  obtain ⟨hm5', hN5⟩ := own_nodes ho5
  have hlen5 : m5 ≤ 100000000000 := by
    have h1 := List.length_filter_le (fun z : Nd => !(z.path == y.path)) ms
    have h2 := HM4.out.1
    omega
  have HI := index_any 51 #[.pointer (some ⟨w.heap.size, 0, none⟩)] (enters_of Try.func51 (by kernel_rfl) rfl) (fun z => gtL z.path y.path) (c := c5) hN5 hm5' (by omega) (fun W z _ hW => by
    have l5 := (Array.getElem?_eq_some_iff.1 k5).1
    have e1 := (node_cells ((hW.block _ l5).trans k5)).1
    have := hW.size
    exact path_behind z w.heap.size y W e1 (by omega))
  have HO5 := Lib.hid ho5
  have HK5 := Lib.hid k5
  have HL5 := Lib.hid hL5
  have HX5 := Lib.hid hxd5
  have HB5 := Lib.hid hB5
  have HM5 := Lib.hid hm5'
  have HXW := Lib.hid (show y.path = s.path ∧ y.kind = s.kind ∧ y.link = s.link ∧ y.len ≤ 4000000000000 from ⟨HXO4.out.1, HXO4.out.2.1, HXO4.out.2.2.1, HXO4.out.2.2.2.2⟩)
  clear ho5 k5 hL5 hxd5 hB5 hm5' hN5 hm5 HD HO4 HL4 HK4 HXO4 HB4 HM4 hne4
  go_wp2_with fail
  refine HI.mono ?_
  rintro e w6 ⟨i, rfl, hidx, hb6⟩
  have hz6 := hb6.size
  -- where it goes
  obtain ⟨q, hq, hqv, hput⟩ : ∃ q : Nat, q ≤ m5 ∧ ((i < 0 ∧ q = m5) ∨ (i = q ∧ ¬ i < 0)) ∧ putG Nd.path y ms = (ms.filter fun z => !(z.path == y.path)).take q ++ y :: (ms.filter fun z => !(z.path == y.path)).drop q := by
    rcases hidx with ⟨rfl, hall⟩ | ⟨k, rfl, ⟨z, hz, hzp⟩, hbef⟩
    · refine ⟨m5, Nat.le_refl _, .inl ⟨by omega, rfl⟩, putG_insert Nd.path y ms m5 (Nat.le_of_eq HM5.out) (fun j z _ hz => hall j z hz) (fun z hz => ?_)⟩
      have := (List.getElem?_eq_some_iff.1 hz).1
      have := HM5.out
      omega
    · have hk := (List.getElem?_eq_some_iff.1 hz).1
      refine ⟨k, by have := HM5.out; omega, .inr ⟨rfl, by omega⟩, putG_insert Nd.path y ms k (by omega) (fun j u hj hu => hbef j u hj hu) (fun u hu => ?_)⟩
      rw [hz] at hu
      cases hu
      exact hzp
  have HPUT := Lib.hid hput
  have HO6 := Lib.hid (own_below HO5.out hb6)
  have HL6 := Lib.hid (HL5.out.below hb6)
  have HX6 := Lib.hid (own_below HX5.out hb6)
  have HB6 := Lib.hid (HB5.out.trans (hb6.mono HB5.out.size))
  have k6 := (hb6.block _ (Array.getElem?_eq_some_iff.1 HK5.out).1).trans HK5.out
  have k6' := k6
  unfold Nd.cells at k6'
  obtain ⟨d0, d1, d2, d3⟩ := node_cells k6'
  obtain ⟨w7, hw7⟩ : ∃ w7, w7 = w6.alloc (.cells y.cells.toArray 31) := ⟨_, rfl⟩
  have hb7 : Below w6.heap.size w6 w7 := by rw [hw7]; exact (Below.refl _ _).alloc (Nat.le_refl _) _
  have k7 : w7.heap[w6.heap.size]? = some (.cells y.cells.toArray 31 (0, 0)) := by rw [hw7]; exact heap_alloc_new _ _
  have hz7 := hb7.size
  have HINS := insert_any (i := q) y w6.heap.size 1 (own_below HO6.out hb7) (by omega) (by omega) hq k7 (fun g e => by have := (HO6.out.lt g e).2; omega)
  have HL7 := Lib.hid (HL6.out.below hb7)
  have HX7 := Lib.hid (own_below HX6.out hb7)
  have HO7 := Lib.hid (own_below HO6.out hb7)
  have HB7 := Lib.hid (HB6.out.trans (hb7.mono HB6.out.size))
  clear HPUT hidx hb6 k6 k6' k7 hb7 HO5 HK5 HL5 HX5 HB5 HO6 HL6 HX6 HB6 HI
  have HP := Lib.hid hput; clear hput
  unfold Nd.cells at hw7
  have hdone : ∀ e w', InsPost w7 w3.heap.size (.slice A5 m5 c5) (ms.filter fun z => !(z.path == y.path)) y q e w' → ∃ v m ms', e = .returned v ∧ w'.ownsRow w.heap.size 31 4 v m (cellsOf ms') ∧ LikeO w' w.heap.size ms' (putG Sn.path s ss) ∧ Below w.heap.size w w' := by
    rintro e w8 ⟨v, rfl, ho8, hg8⟩
    rw [← HP.out] at ho8
    refine ⟨v, _, _, rfl, own_wider ho8 (by omega), ?_, HB7.out.trans ((Below.refl _ w7).grown hg8 (by omega) (fun k e => by have := own_from HO7.out k e; omega))⟩
    have h1 := likeO_grown HL7.out HO7.out hg8
    have h2 := own_grown HX7.out HO7.out hg8
    have h3 : NdOwn w8 w.heap.size y s := ⟨HXW.out.1, HXW.out.2.1, HXW.out.2.2.1, own_wider h2 (by omega), HXW.out.2.2.2⟩
    exact likeO_put h3 ⟨h1.1, fun j a b ha hb => (h1.2 j a b ha hb).wider (by omega)⟩
  have HDONE := Lib.hid hdone
  clear hdone HP HXW HB7 HO7 HX7 HL7
  rcases hqv with ⟨hi0, rfl⟩ | ⟨rfl, hi0⟩
  · go_wp2_with fail
    rw [← hw7]
    refine HINS.mono ?_
    rintro e w8 hpost
    obtain ⟨v, m, ms', rfl, r1, r2, r3⟩ := HDONE.out e w8 hpost
    go_wp2_with fail
    go_ret
    exact ⟨v, m, ms', rfl, r1, r2, r3⟩
  · go_wp2_with fail
    rw [← hw7]
    refine HINS.mono ?_
    rintro e w8 hpost
    obtain ⟨v, m, ms', rfl, r1, r2, r3⟩ := HDONE.out e w8 hpost
    go_wp2_with fail
    go_ret
    exact ⟨v, m, ms', rfl, r1, r2, r3⟩

end Go.Proofs.Ytlbipmlbkcdmnaa
