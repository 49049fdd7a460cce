/-
  Insert one node in a row of one's own.
-/
import Derived.Test.YtlbipmlbkcdmnaaAeWd
import Derived.Lib.AppendZerosOnto
import Derived.Lib.Overlaps
import Derived.Shelf.Spec.SlicesInsert
namespace Go.Proofs.Ytlbipmlbkcdmnaa
open Go.RowKit Go.Shelf

/-- copy at cells of nodes: what is read lies somewhere, what is written lies in block g. -/
theorem run_copy4 (w : World) (ty g o dLen dCap : Nat) (a : Addr) (sLen sCap : Nat) (cur : Array Value) (cs : List Value)
    (hg : w.heap[g]? = some (.cells cur 31 (0, 0))) (hn : cs.length = Nat.min sLen dLen * 4)
    (hsrc : ∀ j v, cs[j]? = some v → w.cell? (a.add j) = some v) (hfit : o + cs.length ≤ cur.size) (h1 : ∀ v ∈ cs, v.oneCell' = true) :
    (Builtin.copy_ #[28, 28] ty #[.slice (some ⟨g, o, none⟩) dLen dCap, .slice (some a) sLen sCap]).run Try.prog w =
      .ok (goInt (Nat.min sLen dLen)) (w.setRow g (cur.toList.take o ++ cs ++ cur.toList.drop (o + cs.length)).toArray) := by
  have hl := run_loadCells_list (P := Try.prog) w a cs hsrc
  have hst := run_storeCells_at Try.prog g o 31 cs 0 cur w hg (by simpa using hfit) h1
  obtain ⟨i0, hi, hz0, hz1, hz2⟩ := info_parts Try.info31
  simp [Builtin.copy_, run_underlying Try.underlying28, Builtin.lenOf, Builtin.firstCells, sizeOf, typeInfo, hi, hz1, ← hn, hl, hst]

def nodeZ : Nd := ⟨[], 0, none, 0, 0, []⟩
theorem zeroCells_nodes (m : Nat) : (Builtin.zeroCells (Value.agg #[.string ⟨#[]⟩, .int .u8 0, .slice none 0 0, .string ⟨#[]⟩]).cells m).size = m * 4 := by
  simp [Builtin.zeroCells, Value.cells]

theorem cellsOf_drop (ns : List Nd) (m : Nat) (hm : m ≤ ns.length) : (cellsOf ns).drop (m * 4) = cellsOf (ns.drop m) := by
  have h1 : cellsOf ns = cellsOf (ns.take m) ++ cellsOf (ns.drop m) := by
    unfold cellsOf
    rw [← List.flatMap_append, List.take_append_drop]
  have h2 : (cellsOf (ns.take m)).length = m * 4 := by rw [cellsOf_length, List.length_take]; congr 1; omega
  rw [h1, ← h2, List.drop_left]

theorem cellsOf_mid (ns : List Nd) (x : Nd) (i : Nat) : cellsOf (ns.take i ++ x :: ns.drop i) = cellsOf (ns.take i) ++ x.cells ++ cellsOf (ns.drop i) := by
  unfold cellsOf
  rw [List.flatMap_append, List.flatMap_cons]
  simp

/-- What Insert yields: a row of one's own. -/
def InsPost (w : World) (B : Nat) (v0 : Value) (ns : List Nd) (x : Nd) (i : Nat) : Ending → World → Prop := fun e w' =>
  ∃ v, e = .returned v ∧ w'.ownsRow B 31 4 v (ns.length + 1) (cellsOf (ns.take i ++ x :: ns.drop i)) ∧ w.grownBy w' v0.ownBlock

set_option maxRecDepth 100000 in
set_option maxHeartbeats 2000000 in
theorem insert_end {w : World} {B : Nat} {A : Option Addr} {n c : Nat} {ns : List Nd} (x : Nd) (b cv : Nat) (ho : w.ownsRow B 31 4 (.slice A n c) n (cellsOf ns)) (hB : B ≤ w.heap.size) (hn : n ≤ 2199023255500)
    (hx : ∀ j u, x.cells[j]? = some u → w.cell? ((⟨b, 0, none⟩ : Addr).add j) = some u) :
    Calls Try.prog 52 #[.slice A n c, .int .i64 n, .slice (some ⟨b, 0, none⟩) 1 cv] w (InsPost w B (.slice A n c) ns x n) := by
  obtain ⟨i0, hi, hz0, hz1, hz2⟩ := info_parts Try.info31
  have hl := (own_nodes ho).1
  have HL := Lib.hid hl; clear hl
  have HO := Lib.hid ho; clear ho
  have hcap := own_cap HO.out
  unfold InsPost
  go_enter Try.func52, Try.ntmps52
  go_wp2_with (at_builtin; refine wpList_append_own _ rfl _ _ 28 rfl B 31 i0 _ 4 64 Try.underlying28 hi hz0 hz1 hz2 rfl (by decide) (.slice A n c) n (cellsOf ns) rfl HO.out ⟨b, 0, none⟩ 1 cv x.cells rfl rfl hx (fun u hu => cells_one [x] u (by simpa [cellsOf] using hu)) (by unfold maxLen; omega) (by omega) hB ?_; intro v' w1 hown' hgrow _)
  all_goals
    go_ret
    have h1 : ns.take ns.length = ns := List.take_of_length_le (Nat.le_refl _)
    have h2 : ns.drop ns.length = [] := List.drop_eq_nil_of_le (Nat.le_refl _)
    have hl := HL.out
    subst hl
    rw [h1, h2, ← cellsOf_snoc]
    exact ⟨_, rfl, hown', by cases A <;> exact hgrow⟩

set_option maxRecDepth 100000 in
set_option maxHeartbeats 4000000 in
theorem insert_room {w : World} {B g n c i : Nat} {ns : List Nd} (x : Nd) (b cv : Nat) (ho : w.ownsRow B 31 4 (.slice (some ⟨g, 0, none⟩) n c) n (cellsOf ns)) (hB : B ≤ w.heap.size) (hn : n ≤ 2199023255500) (hin : i < n) (hroom : n + 1 ≤ c)
    (hb : w.heap[b]? = some (.cells x.cells.toArray 31 (0, 0))) (hbg : b ≠ g) :
    Calls Try.prog 52 #[.slice (some ⟨g, 0, none⟩) n c, .int .i64 i, .slice (some ⟨b, 0, none⟩) 1 cv] w (InsPost w B (.slice (some ⟨g, 0, none⟩) n c) ns x i) := by
  have hl := (own_nodes ho).1
  rcases ho.2 with ⟨h', _⟩ | ⟨g', cap, cur, hv, hgb, hg, hcap, hcm, hcs, htake⟩
  · cases h'
  simp only [Value.slice.injEq, Option.some.injEq, Addr.mk.injEq, and_true, true_and] at hv
  obtain ⟨rfl, rfl⟩ := hv
  have hov : ∀ lb cb, (callFunc 70 #[.slice (some ⟨b, 0, none⟩) 1 cv, .slice (some ⟨g, (i + 1) * 4, none⟩) lb cb]).run Try.prog w = .ok (.value (.bool false)) w := fun lb cb => by
    rw [run_callFunc_extern Try.func70 (by kernel_rfl) (by kernel_rfl) (by kernel_rfl) (e := Extern.SlicesOverlaps.overlaps #[28, 28] #[4]) (by kernel_rfl),
      Lib.run_overlaps_apart w 28 4 31 Try.underlying28 4 (fun w => by kernel_rfl) ⟨b, 0, none⟩ ⟨g, (i + 1) * 4, none⟩ 1 cv lb cb hbg 31 31 x.cells.toArray.size cur.size (by simp [World.shape?, hb]) (by simp [World.shape?, hg]) (by omega) (by simp [World.frozen?, hb]) (by simp [World.frozen?, hb])]
    rfl
  have hz2 : ¬ ((i : Int) = (n : Int)) := by omega
  have hcz : (c : Int) ≤ 9223372036854775807 := by unfold maxLen at hcm; omega
  have hdl : (cellsOf (ns.drop i)).length = (n - i) * 4 := by rw [cellsOf_length, List.length_drop, ← hl]
  have hw1 : IntKind.i64.wrap ((i : Int) + (1 : Int)) = (i : Int) + (1 : Int) := by rw [IntKind.wrap_i64]; omega
  have htn : ((i : Int) + (1 : Int)).toNat = i + 1 := by omega
  have hb2 : ¬ (c = i + 1) := by omega
  have hb3 : (i : Int) ≤ (n : Int) + (1 : Int) := by omega
  have hb4 : ¬ (c = i) := by omega
  have hb1 : (0 : Int) ≤ (i : Int) + 1 := by omega
  have hb5 : i ≤ n := by omega
  have hb6 : (i : Int) ≤ (n : Int) := by omega
  have hcl : cur.toList.length = c * 4 := by simpa using hcs
  have htk : ∀ j, j ≤ n → cur.toList.take (j * 4) = cellsOf (ns.take j) := fun j hj => by
    rw [← cellsOf_take ns j (by omega), ← htake, List.take_take, Nat.min_eq_left (by omega)]
  have hrd : ∀ j v, (cellsOf (ns.drop i))[j]? = some v → w.cell? ((⟨g, i * 4, none⟩ : Addr).add j) = some v := fun j v hj => by
    have hj4 : j < (n - i) * 4 := by rw [← hdl]; exact (List.getElem?_eq_some_iff.1 hj).1
    rw [← cellsOf_drop ns i (by omega), List.getElem?_drop, ← htake, List.getElem?_take] at hj
    rw [if_pos (by omega)] at hj
    rw [Addr.add_lit]
    simp only [World.cell?, hg]
    simpa using hj
  obtain ⟨R1, hR1⟩ : ∃ R : Array Value, R = (cur.toList.take ((i + 1) * 4) ++ cellsOf (ns.drop i) ++ cur.toList.drop ((i + 1) * 4 + (cellsOf (ns.drop i)).length)).toArray := ⟨_, rfl⟩
  have hR1l : R1.toList.length = c * 4 := by
    rw [hR1]
    simp only [List.length_append, List.length_take, List.length_drop, hcl, hdl]
    omega
  obtain ⟨R2, hR2⟩ : ∃ R : Array Value, R = (R1.toList.take (i * 4) ++ x.cells ++ R1.toList.drop (i * 4 + x.cells.length)).toArray := ⟨_, rfl⟩
  have hxl : x.cells.length = 4 := rfl
  have hcp1 : ∀ (W : World), W.heap = w.heap → ∀ ty dc sc, (Builtin.copy_ #[28, 28] ty #[.slice (some ⟨g, (i + 1) * 4, none⟩) (n + 1 - (i + 1)) dc, .slice (some ⟨g, i * 4, none⟩) (n + 1 - i) sc]).run Try.prog W = .ok (goInt (n - i : Nat)) (W.setRow g R1) := fun W hW ty dc sc => by
    have hc : ∀ a, W.cell? a = w.cell? a := fun a => by unfold World.cell?; rw [hW]
    have h := run_copy4 W ty g ((i + 1) * 4) (n + 1 - (i + 1)) dc ⟨g, i * 4, none⟩ (n + 1 - i) sc cur (cellsOf (ns.drop i)) (by rw [hW]; exact hg) (by rw [hdl]; congr 1; simp only [Nat.min_def]; split <;> omega)
      (fun j v hj => (hc _).trans (hrd j v hj)) (by rw [hdl, hcs]; omega) (cells_one _)
    rw [h, ← hR1]
    congr 2
    simp only [Nat.min_def]; split <;> omega
  have hcp2 : ∀ (W : World), (∃ W0 : World, W0.heap = w.heap ∧ W = W0.setRow g R1) → ∀ ty dc, (Builtin.copy_ #[28, 28] ty #[.slice (some ⟨g, i * 4, none⟩) (n + 1 - i) dc, .slice (some ⟨b, 0, none⟩) 1 cv]).run Try.prog W = .ok (goInt (1 : Nat)) (W.setRow g R2) := fun W ⟨W0, hW0, hW⟩ ty dc => by
    have hg0 : W0.heap[g]? = some (.cells cur 31 (0, 0)) := by rw [hW0]; exact hg
    have hnm : Nat.min 1 (n + 1 - i) = 1 := by simp only [Nat.min_def]; split <;> omega
    have h := run_copy4 W ty g (i * 4) (n + 1 - i) dc ⟨b, 0, none⟩ 1 cv R1 x.cells (by rw [hW]; exact setRow_heap W0 g cur R1 31 (0, 0) hg0) (by rw [hxl, hnm])
      (fun j v hj => by
        rw [Addr.add_lit, Nat.zero_add, hW]
        have hbb : (W0.setRow g R1).heap[b]? = some (.cells x.cells.toArray 31 (0, 0)) := by rw [setRow_other W0 g b R1 hbg, hW0]; exact hb
        simp only [World.cell?, hbb]
        simpa using hj) (by rw [hxl]; have : R1.size = c * 4 := by simpa using hR1l
                            omega) (fun u hu => cells_one [x] u (by simpa [cellsOf] using hu))
    rw [h, ← hR2, hnm]
  have hfin : ∀ (W0 : World), W0.heap = w.heap → W0.os = w.os → W0.tape = w.tape → W0.output = w.output → ∀ W1, W1 = W0.setRow g R1 → ((W1.setRow g R2).ownsRow B 31 4 (.slice (some ⟨g, 0, none⟩) (n + 1) c) (n + 1) (cellsOf (ns.take i ++ x :: ns.drop i)) ∧ w.grownBy (W1.setRow g R2) (some g)) := fun W0 h0 h1 h2 h3 W1 hW1 => by
    have hg0 : W0.heap[g]? = some (.cells cur 31 (0, 0)) := by rw [h0]; exact hg
    have hR2l : R2.toList.length = c * 4 := by
      rw [hR2]
      simp only [List.length_append, List.length_take, List.length_drop, hR1l, hxl]
      omega
    subst hW1
    refine ⟨⟨?_, .inr ⟨g, c, R2, rfl, hgb, setRow_heap _ g R1 R2 31 (0, 0) (setRow_heap W0 g cur R1 31 (0, 0) hg0), hroom, hcm, by simpa using hR2l, ?_⟩⟩, ⟨h1, h2, h3, by simp [World.setRow, h0], fun k hk hne => ?_⟩⟩
    · rw [cellsOf_length]
      simp
      omega
    · have hlen : (cellsOf (ns.take i)).length = i * 4 := by rw [cellsOf_length, List.length_take]; congr 1; omega
      have e1 : R1.toList.take (i * 4) = cellsOf (ns.take i) := by
        rw [hR1, List.append_assoc]
        simp only
        rw [List.take_append_of_le_length (by simp only [List.length_take, hcl]; omega), List.take_take, Nat.min_eq_left (by omega), htk i (by omega)]
      have e2 : R1.toList.drop (i * 4 + 4) = cellsOf (ns.drop i) ++ cur.toList.drop ((i + 1) * 4 + (cellsOf (ns.drop i)).length) := by
        have h4 : (cur.toList.take ((i + 1) * 4)).length = i * 4 + 4 := by simp only [List.length_take, hcl]; omega
        rw [hR1, List.append_assoc]
        simp only
        rw [← h4, List.drop_left]
      rw [cellsOf_mid, hR2, hxl, e1, e2]
      simp only
      rw [← List.append_assoc]
      have h5 : (cellsOf (ns.take i) ++ x.cells ++ cellsOf (ns.drop i)).length = (n + 1) * 4 := by
        simp only [List.length_append, hlen, hdl, hxl]; omega
      rw [← h5, List.take_left]
    · have hk' : k ≠ g := fun e => hne (by rw [e])
      rw [setRow_other _ g k R2 hk', setRow_other _ g k R1 hk', h0]
  have HFIN := Lib.hid hfin
  have HN := Lib.hid hl
  clear hfin hl hR1 hR2 hrd htk hcl hdl hR1l hg hb ho htake hcs
  unfold InsPost
  go_enter Try.func52, Try.ntmps52
  go_wp2_with (simp only [hov])
  refine wp_region_ordB B [0, 1, 2, 3, 4, 5, 6, 7, 8] [8] (by kernel_rfl) (by kernel_rfl) (by kernel_rfl) (fun d _ _ _ _ h => by cases d <;> exact h) (by kernel_rfl) ?_
  repeat (first | (refine wpOrd_take (v := ?_) rfl rfl rfl (fun W hW => ?_) ?_; rotate_left; (focus (go_simp; with_reducible rfl)); simp only [Act.put, List.setIfInBounds_toArray, List.set_cons_succ, List.set_cons_zero]) | (refine wpOrd_skip rfl rfl ?_; simp only [Act.put, List.setIfInBounds_toArray, List.set_cons_succ, List.set_cons_zero]))
  refine wpOrd_step rfl rfl ?_
  refine step_copy_runI rfl _ _ 28 28 rfl (.slice (some ⟨g, (i + 1) * 4, none⟩) (n + 1 - (i + 1)) (c - (i + 1))) (.slice (some ⟨g, i * 4, none⟩) (n + 1 - i) (c - i)) (by simp [Act.eval]) (by simp [Act.eval]) (hcp1 w.drew rfl _ _ _) ?_
  refine ⟨(Below.refl B _).grown (row := some g) ⟨rfl, rfl, rfl, by simp [World.setRow], fun k _ hk => setRow_other _ g k R1 (fun e => hk (by rw [e]))⟩ (by simpa using hB) (fun j e => by cases e; exact hgb), ?_⟩
  refine wpOrd_nil ?_
  have hc2 := hcp2 (w.drew.setRow g R1) ⟨w.drew, rfl, rfl⟩
  clear hcp1 hcp2
  go_wp2_with fail
  go_ret
  have hF := HFIN.out w.drew rfl rfl rfl rfl _ rfl
  exact ⟨_, rfl, by rw [← HN.out]; exact hF.1, hF.2⟩

set_option maxRecDepth 100000 in
set_option maxHeartbeats 4000000 in
theorem insert_grow {w : World} {B g n c i : Nat} {ns : List Nd} (x : Nd) (b cv : Nat) (ho : w.ownsRow B 31 4 (.slice (some ⟨g, 0, none⟩) n c) n (cellsOf ns)) (hB : B ≤ w.heap.size) (hn : n ≤ 2199023255500) (hin : i < n) (hroom : c < n + 1)
    (hb : w.heap[b]? = some (.cells x.cells.toArray 31 (0, 0))) :
    Calls Try.prog 52 #[.slice (some ⟨g, 0, none⟩) n c, .int .i64 i, .slice (some ⟨b, 0, none⟩) 1 cv] w (InsPost w B (.slice (some ⟨g, 0, none⟩) n c) ns x i) := by
  obtain ⟨i0, hi, hz0, hzs, hzb⟩ := info_parts Try.info31
  have hl := (own_nodes ho).1
  have hcap := own_cap ho
  have hgl : g < w.heap.size := (ho.lt g rfl).2
  have hbl : b < w.heap.size := (Array.getElem?_eq_some_iff.1 hb).1
  have hcells := ho.cells (g := g) rfl
  have hz2 : ¬ ((i : Int) = (n : Int)) := by omega
  have hz3 : (c : Int) < (n : Int) + (1 : Int) := by omega
  have hdl : (cellsOf (ns.drop i)).length = (n - i) * 4 := by rw [cellsOf_length, List.length_drop, ← hl]
  have htl : (cellsOf (ns.take i)).length = i * 4 := by rw [cellsOf_length, List.length_take]; congr 1; omega
  have hkk : (n : Int) + (1 : Int) - (i : Int) = ((n + 1 - i : Nat) : Int) := by omega
  have hik : i + (n + 1 - i) = n + 1 := by omega
  have hold : (Builtin.firstCells i0.size i (.slice (some ⟨g, 0, none⟩) i c)).run Try.prog w.drew = .ok (cellsOf (ns.take i)).toArray w.drew := by
    rw [hzs]
    exact run_firstCells_some w.drew 4 i ⟨g, 0, none⟩ i c (cellsOf (ns.take i)) htl (fun j v hj => by
      rw [← cellsOf_take ns i (by omega), List.getElem?_take] at hj
      split at hj
      · exact hcells j v hj
      · cases hj)
  obtain ⟨G, hG⟩ : ∃ G, G = grownCap w (n + 1) c 31 := ⟨_, rfl⟩
  have hGn : n + 1 ≤ G := by rw [hG]; exact grownCap_ge w _ _ _
  have hG63 : G ≤ maxLen := by
    have := grownCap_le_maxLen w (n + 1) c 31 (by unfold maxLen; omega)
    rwa [← hG] at this
  obtain ⟨ROW, hROW⟩ : ∃ ROW : Array Value, ROW = (cellsOf (ns.take i)).toArray ++ Builtin.zeroCells (Value.agg #[.string ⟨#[]⟩, .int .u8 0, .slice none 0 0, .string ⟨#[]⟩]).cells (n + 1 - i) ++ Builtin.zeroCells (Value.agg #[.string ⟨#[]⟩, .int .u8 0, .slice none 0 0, .string ⟨#[]⟩]).cells (G - (n + 1)) := ⟨_, rfl⟩
  have hrz : ∀ ty, (Builtin.append_ #[28, 3] ty #[.slice (some ⟨g, 0, none⟩) i c, .int .i64 ((n : Int) + (1 : Int) - (i : Int))]).run Try.prog w =
      .ok (.slice (some ⟨w.heap.size, 0, none⟩) (n + 1) G) (w.drew.alloc (.cells ROW 31)) := fun ty => by
    have h := Lib.run_append_grow_zeros w 28 3 ty 31 i0 _ .i64 .i64 Try.underlying28 Try.underlying3 hi hz0 (some ⟨g, 0, none⟩) i c (cellsOf (ns.take i)) hold (n + 1 - i) (by omega) (by rw [hzs]; decide) (by omega) (by omega) (by rw [hzb]; omega) (by rw [hzb, hik]; exact growslice_fits (by omega) (by omega))
    rw [hik] at h
    rw [hkk, h, hROW, hG]
  have hRl : ROW.toList.length = G * 4 := by
    rw [hROW]
    simp only [Array.toList_append, List.length_append, Array.length_toList, zeroCells_nodes, htl]
    omega
  obtain ⟨W1, hW1⟩ : ∃ W1, W1 = w.drew.alloc (.cells ROW 31) := ⟨_, rfl⟩
  have hN : W1.heap[w.heap.size]? = some (.cells ROW 31 (0, 0)) := by rw [hW1]; exact heap_alloc_new w.drew _
  have hOld : ∀ k, k < w.heap.size → W1.heap[k]? = w.heap[k]? := fun k hk => by rw [hW1]; exact heap_alloc_old w.drew _ hk
  have hxl : x.cells.length = 4 := rfl
  obtain ⟨R1, hR1⟩ : ∃ R : Array Value, R = (ROW.toList.take (i * 4) ++ x.cells ++ ROW.toList.drop (i * 4 + x.cells.length)).toArray := ⟨_, rfl⟩
  have hR1l : R1.toList.length = G * 4 := by
    rw [hR1]
    simp only [List.length_append, List.length_take, List.length_drop, hRl, hxl]
    omega
  obtain ⟨R2, hR2⟩ : ∃ R : Array Value, R = (R1.toList.take ((i + 1) * 4) ++ cellsOf (ns.drop i) ++ R1.toList.drop ((i + 1) * 4 + (cellsOf (ns.drop i)).length)).toArray := ⟨_, rfl⟩
  have hR2l : R2.toList.length = G * 4 := by
    rw [hR2]
    simp only [List.length_append, List.length_take, List.length_drop, hR1l, hdl]
    omega
  have hcpA : ∀ (W : World), W.heap = W1.heap → ∀ ty dc, (Builtin.copy_ #[28, 28] ty #[.slice (some ⟨w.heap.size, i * 4, none⟩) (n + 1 - i) dc, .slice (some ⟨b, 0, none⟩) 1 cv]).run Try.prog W = .ok (goInt (1 : Nat)) (W.setRow w.heap.size R1) := fun W hW ty dc => by
    have hnm : Nat.min 1 (n + 1 - i) = 1 := by simp only [Nat.min_def]; split <;> omega
    have h := run_copy4 W ty w.heap.size (i * 4) (n + 1 - i) dc ⟨b, 0, none⟩ 1 cv ROW x.cells (by rw [hW]; exact hN) (by rw [hxl, hnm])
      (fun j v hj => by
        rw [Addr.add_lit, Nat.zero_add]
        have hbb : W.heap[b]? = some (.cells x.cells.toArray 31 (0, 0)) := by rw [hW, hOld b hbl]; exact hb
        simp only [World.cell?, hbb]
        simpa using hj) (by rw [hxl]; have : ROW.size = G * 4 := by simpa using hRl
                            omega) (fun u hu => cells_one [x] u (by simpa [cellsOf] using hu))
    rw [h, ← hR1, hnm]
  have hcpB : ∀ (W : World), W.heap = (W1.setRow w.heap.size R1).heap → ∀ ty dc sc, (Builtin.copy_ #[28, 28] ty #[.slice (some ⟨w.heap.size, (i + 1) * 4, none⟩) (n + 1 - (i + 1)) dc, .slice (some ⟨g, i * 4, none⟩) (n - i) sc]).run Try.prog W = .ok (goInt (n - i : Nat)) (W.setRow w.heap.size R2) := fun W hW ty dc sc => by
    have hnm : Nat.min (n - i) (n + 1 - (i + 1)) = n - i := by simp only [Nat.min_def]; split <;> omega
    have h := run_copy4 W ty w.heap.size ((i + 1) * 4) (n + 1 - (i + 1)) dc ⟨g, i * 4, none⟩ (n - i) sc R1 (cellsOf (ns.drop i)) (by rw [hW]; exact setRow_heap W1 w.heap.size ROW R1 31 (0, 0) hN) (by rw [hdl, hnm])
      (fun j v hj => by
        rw [← cellsOf_drop ns i (by omega), List.getElem?_drop] at hj
        have h1 := hcells (i * 4 + j) v hj
        rw [Addr.add_lit] at h1 ⊢
        rw [Nat.zero_add] at h1
        have hgg : W.heap[g]? = w.heap[g]? := by rw [hW, setRow_other W1 w.heap.size g R1 (by omega), hOld g hgl]
        exact (World.cell?_of_block hgg).trans h1) (by rw [hdl]; have : R1.size = G * 4 := by simpa using hR1l
                                                       omega) (cells_one _)
    rw [h, ← hR2, hnm]
  have hfin : ∀ (W : World), W.heap = W1.heap → W.os = w.os → W.tape = w.tape → W.output = w.output → ∀ W2 : World, W2.heap = (W.setRow w.heap.size R1).heap → W2.os = w.os → W2.tape = w.tape → W2.output = w.output →
      (W2.setRow w.heap.size R2).ownsRow B 31 4 (.slice (some ⟨w.heap.size, 0, none⟩) (n + 1) G) (n + 1) (cellsOf (ns.take i ++ x :: ns.drop i)) ∧ w.grownBy (W2.setRow w.heap.size R2) (some g) := fun W h0 _ _ _ W2 k0 k1 k2 k3 => by
    have hNW : W.heap[w.heap.size]? = some (.cells ROW 31 (0, 0)) := by rw [h0]; exact hN
    have hN2 : W2.heap[w.heap.size]? = some (.cells R1 31 (0, 0)) := by rw [k0]; exact setRow_heap W _ ROW R1 31 (0, 0) hNW
    refine ⟨⟨?_, .inr ⟨w.heap.size, G, R2, rfl, hB, setRow_heap _ _ R1 R2 31 (0, 0) hN2, hGn, hG63, by simpa using hR2l, ?_⟩⟩, ⟨k1, k2, k3, ?_, fun k hk hne => ?_⟩⟩
    · rw [cellsOf_length]
      simp
      omega
    · have e1 : R1.toList.take ((i + 1) * 4) = cellsOf (ns.take i) ++ x.cells := by
        have e0 : ROW.toList.take (i * 4) = cellsOf (ns.take i) := by
          rw [hROW]
          simp only [Array.toList_append, List.append_assoc]
          rw [← htl, List.take_left]
        have h4 : (cellsOf (ns.take i) ++ x.cells).length = (i + 1) * 4 := by simp only [List.length_append, htl, hxl]; omega
        rw [hR1, e0]
        simp only
        rw [← h4, List.take_left]
      rw [cellsOf_mid, hR2, e1]
      simp only
      have h5 : (cellsOf (ns.take i) ++ x.cells ++ cellsOf (ns.drop i)).length = (n + 1) * 4 := by
        simp only [List.length_append, htl, hdl, hxl]; omega
      rw [← h5, List.take_left]
    · have h1 : W2.heap.size = W1.heap.size := by rw [k0]; simp [World.setRow, h0]
      have h2 : W1.heap.size = w.heap.size + 1 := by rw [hW1]; simp
      simp [World.setRow, h1, h2]
    · have hk' : k ≠ w.heap.size := by omega
      rw [setRow_other _ _ k R2 hk', k0, setRow_other _ _ k R1 hk', h0, hOld k hk]
  have HFIN := Lib.hid hfin
  have HN := Lib.hid hl
  have hGi : ¬ (G = i) := by omega
  have hGim : ¬ (G = i + 1) := by omega
  have hci : ¬ (c = i) := by omega
  have hw1 : IntKind.i64.wrap ((i : Int) + (1 : Int)) = (i : Int) + (1 : Int) := by rw [IntKind.wrap_i64]; omega
  have htn : ((i : Int) + (1 : Int)).toNat = i + 1 := by omega
  have hb1 : (0 : Int) ≤ (i : Int) + 1 := by omega
  have hb5 : i ≤ n := by omega
  have hb6 : (i : Int) ≤ (n : Int) := by omega
  have hG63' : G ≤ 9223372036854775807 := by unfold maxLen at hG63; omega
  clear hfin hl hR1 hR2 hdl hR1l hR2l hb ho hN hOld hold hG hROW hRl hcells htl hkk hik hi hz0 hzs hzb
  subst hW1
  unfold InsPost
  go_enter Try.func52, Try.ntmps52
  have hcA := hcpA (w.alloc (.cells ROW 31)).drew rfl
  clear hcpA
  go_wp2_with (at_builtin; refine Lib.wpList_append_run _ rfl _ _ _ _ rfl _ _ rfl rfl _ _ (hrz _) ?_)
  refine wp_region_ordB w.heap.size [0, 1, 2, 3, 4, 5, 6, 7, 8] [8] (by kernel_rfl) (by kernel_rfl) (by kernel_rfl) (fun d _ _ _ _ h => by cases d <;> exact h) (by kernel_rfl) ?_
  repeat (first | (refine wpOrd_take (v := ?_) rfl rfl rfl (fun W hW => ?_) ?_; rotate_left; (focus (go_simp; with_reducible rfl)); simp only [Act.put, List.setIfInBounds_toArray, List.set_cons_succ, List.set_cons_zero]) | (refine wpOrd_skip rfl rfl ?_; simp only [Act.put, List.setIfInBounds_toArray, List.set_cons_succ, List.set_cons_zero]))
  refine wpOrd_step rfl rfl ?_
  refine step_copy_runI rfl _ _ 28 28 rfl (.slice (some ⟨w.heap.size, (i + 1) * 4, none⟩) (n + 1 - (i + 1)) (G - (i + 1))) (.slice (some ⟨g, i * 4, none⟩) (n - i) (c - i)) (by simp [Act.eval]) (by simp [Act.eval]) (hcpB ((w.alloc (.cells ROW 31)).drew.setRow w.heap.size R1).drew rfl _ _ _) ?_
  refine ⟨(Below.refl w.heap.size _).grown (row := some w.heap.size) ⟨rfl, rfl, rfl, by simp [World.setRow], fun k _ hk => setRow_other _ _ k R2 (fun e => hk (by rw [e]))⟩ (by simp [World.setRow]) (fun j e => by cases e; exact Nat.le_refl _), ?_⟩
  refine wpOrd_nil ?_
  go_wp2_with fail
  go_ret
  have hF := HFIN.out (w.alloc (.cells ROW 31)).drew rfl rfl rfl rfl ((w.alloc (.cells ROW 31)).drew.setRow w.heap.size R1).drew rfl rfl rfl rfl
  exact ⟨_, rfl, by rw [← HN.out]; exact hF.1, hF.2⟩

theorem insert_any {w : World} {B n c i : Nat} {A : Option Addr} {ns : List Nd} (x : Nd) (b cv : Nat) (ho : w.ownsRow B 31 4 (.slice A n c) n (cellsOf ns)) (hB : B ≤ w.heap.size) (hn : n ≤ 2199023255500) (hin : i ≤ n)
    (hb : w.heap[b]? = some (.cells x.cells.toArray 31 (0, 0))) (hbg : ∀ g, (Value.slice A n c).ownBlock = some g → b ≠ g) :
    Calls Try.prog 52 #[.slice A n c, .int .i64 i, .slice (some ⟨b, 0, none⟩) 1 cv] w (InsPost w B (.slice A n c) ns x i) := by
  by_cases he : i = n
  · subst he
    exact insert_end x b cv ho hB hn fun j u h => by
      rw [Addr.add_lit, Nat.zero_add]
      simp only [World.cell?, hb]
      simpa using h
  · rcases ho.2 with ⟨h', h0⟩ | ⟨g', cap, cur, hv, rest⟩
    · omega
    · injection hv with hA hn' hc
      subst hA; subst hc
      by_cases hr : n + 1 ≤ c
      · exact insert_room x b cv ho hB hn (by omega) hr hb (hbg g' rfl)
      · exact insert_grow x b cv ho hB hn (by omega) (by omega) hb

end Go.Proofs.Ytlbipmlbkcdmnaa
