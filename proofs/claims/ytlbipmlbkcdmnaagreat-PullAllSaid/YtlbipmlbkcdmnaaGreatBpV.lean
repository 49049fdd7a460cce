
/-
  Options, as a choice says.
-/
import Derived.Test.YtlbipmlbkcdmnaaGreatBoV
import Derived.Test.YtlbipmlbkcdmnaaGreatBnV
namespace Go.Proofs.YtlbipmlbkcdmnaaGreat
open Go.RowKit Go.Shelf

section
variable {P : Program} {ops : Array Oper} {rest : List Oper} {a : Act} {Q : Exit → Act → World → Prop} {w : World} {dst : Option Tmp} {ty : TypeId} {pos : String} {after : Array Edge}

/-- A store of a struct into a block. -/
theorem wpList_store_at (T : TypeId) (d s : Operand) (i : TypeInfo) (g : Nat) (cur : Array Value) (vs : List Value) (hi : P.info? T = some i) (hz : i.size = vs.length) (hg : w.heap[g]? = some (.cells cur T (0, 0)))
    (hd : a.eval d = .pointer (some ⟨g, 0, none⟩)) (hs : a.eval s = .agg vs.toArray) (hl : vs.length = cur.size) (h1 : ∀ v ∈ vs, v.oneCell' = true)
    (h : wpList P ops Q rest (a.put dst undef) (w.setRow g vs.toArray)) : wpList P ops Q (⟨dst, .store T d s, ty, pos, after, none⟩ :: rest) a w :=
  wpList_plain rfl fun K hK => by
    have hst := run_storeCells_at P g 0 T vs 0 cur w hg (by omega) h1
    rw [show (cur.toList.take (0 + 0) ++ vs ++ cur.toList.drop (0 + 0 + vs.length)).toArray = vs.toArray by simp [hl]] at hst
    unfold Oper.wp execOp
    simp [Instr.storeAt, hd, hs, Instr.sureAddr, storeVar, sizeOf, typeInfo, hi, hz, Value.cells, hst]
    exact hK _ _ h

/-- A struct that is handed back out of a block. -/
theorem results_cell {fn : Func} {t : Tmp} {T : TypeId} {tmps : Array Value} {ad : Addr} (h : fn.results = #[.cell t T]) (ht : tmps.getD t undef = .pointer (some ad)) (i : TypeInfo) (vs : List Value) (hi : P.info? T = some i) (hz : i.size = vs.length) (hag : (isAgg T).run P w = .ok true w)
    (hc : ∀ j v, vs[j]? = some v → w.cell? (ad.add j) = some v) : (results fn tmps).run P w = .ok (.agg vs.toArray) w := by
  have hl := run_loadCells_list (P := P) w ad vs hc
  rw [Array.getD_eq_getD_getElem?] at ht
  simp [results, h, ht, asAddr, loadVar, hag, sizeOf, typeInfo, hi, hz, hl]
end

theorem opt_end {w : World} {Y : Obj} (o : Opt) {tmps : Array Value} (ht : tmps.getD 2 undef = .pointer (some ⟨w.heap.size, 0, none⟩)) :
    (results Tryz.f8 tmps).run Tryz.prog ((w.alloc (.cells (optCells o).toArray 40)).alloc Y) = .ok (.agg (optCells o).toArray) ((w.alloc (.cells (optCells o).toArray 40)).alloc Y) := by
  obtain ⟨i62, hi62, hz62⟩ := size62
  have h1 := heap_alloc_new w (.cells (optCells o).toArray 40)
  have h2 : ((w.alloc (.cells (optCells o).toArray 40)).alloc Y).heap[w.heap.size]? = some (.cells (optCells o).toArray 40 (0, 0)) :=
    (Below.heap_alloc _ Y _ (Array.getElem?_eq_some_iff.1 h1).1).trans h1
  exact results_cell (T := 40) (t := 2) rfl ht i62 (optCells o) hi62 hz62 (agg62 _) (row_cells h2)

set_option maxRecDepth 100000 in
set_option maxHeartbeats 4000000 in
theorem options_any (k : Int) (w : World) (hk : 0 ≤ k) (hk2 : k < 256) : Calls Tryz.prog 8 #[.int .u8 k] w fun e w' =>
    ∃ o : Opt, e = .returned (.agg (optCells o).toArray) ∧ o.root.length ≤ 10 ∧ Below w.heap.size w w' := by
  have h8 : k % 8 = 0 ∨ k % 8 = 1 ∨ k % 8 = 2 ∨ k % 8 = 3 ∨ k % 8 = 4 ∨ k % 8 = 5 ∨ k % 8 = 6 ∨ k % 8 = 7 := by omega
  go_enter Tryz.func8, Tryz.ntmps8
  rcases h8 with h | h | h | h | h | h | h | h
  · go_wp2_with fail
    refine bodyPost_ret (opt_end ⟨[], k / 8 % 2 == 0, k / 16 % 2 == 0⟩ rfl) rfl ⟨⟨[], k / 8 % 2 == 0, k / 16 % 2 == 0⟩, rfl, by dsimp only; decide, ((Below.refl _ _).alloc (Nat.le_refl _) _).alloc (by simp) _⟩
  · go_wp2_with fail
    refine bodyPost_ret (opt_end ⟨[97], k / 8 % 2 == 0, k / 16 % 2 == 0⟩ rfl) rfl ⟨⟨[97], k / 8 % 2 == 0, k / 16 % 2 == 0⟩, rfl, by dsimp only; decide, ((Below.refl _ _).alloc (Nat.le_refl _) _).alloc (by simp) _⟩
  · go_wp2_with fail
    refine bodyPost_ret (opt_end ⟨[97, 47, 98], k / 8 % 2 == 0, k / 16 % 2 == 0⟩ rfl) rfl ⟨⟨[97, 47, 98], k / 8 % 2 == 0, k / 16 % 2 == 0⟩, rfl, by dsimp only; decide, ((Below.refl _ _).alloc (Nat.le_refl _) _).alloc (by simp) _⟩
  · go_wp2_with fail
    refine bodyPost_ret (opt_end ⟨[100], k / 8 % 2 == 0, k / 16 % 2 == 0⟩ rfl) rfl ⟨⟨[100], k / 8 % 2 == 0, k / 16 % 2 == 0⟩, rfl, by dsimp only; decide, ((Below.refl _ _).alloc (Nat.le_refl _) _).alloc (by simp) _⟩
  · go_wp2_with fail
    refine bodyPost_ret (opt_end ⟨[120], k / 8 % 2 == 0, k / 16 % 2 == 0⟩ rfl) rfl ⟨⟨[120], k / 8 % 2 == 0, k / 16 % 2 == 0⟩, rfl, by dsimp only; decide, ((Below.refl _ _).alloc (Nat.le_refl _) _).alloc (by simp) _⟩
  · go_wp2_with fail
    refine bodyPost_ret (opt_end ⟨[97, 47], k / 8 % 2 == 0, k / 16 % 2 == 0⟩ rfl) rfl ⟨⟨[97, 47], k / 8 % 2 == 0, k / 16 % 2 == 0⟩, rfl, by dsimp only; decide, ((Below.refl _ _).alloc (Nat.le_refl _) _).alloc (by simp) _⟩
  · go_wp2_with fail
    refine bodyPost_ret (opt_end ⟨[46, 46, 47, 97], k / 8 % 2 == 0, k / 16 % 2 == 0⟩ rfl) rfl ⟨⟨[46, 46, 47, 97], k / 8 % 2 == 0, k / 16 % 2 == 0⟩, rfl, by dsimp only; decide, ((Below.refl _ _).alloc (Nat.le_refl _) _).alloc (by simp) _⟩
  · go_wp2_with fail
    refine bodyPost_ret (opt_end ⟨[97], k / 8 % 2 == 0, k / 16 % 2 == 0⟩ rfl) rfl ⟨⟨[97], k / 8 % 2 == 0, k / 16 % 2 == 0⟩, rfl, by dsimp only; decide, ((Below.refl _ _).alloc (Nat.le_refl _) _).alloc (by simp) _⟩

end Go.Proofs.YtlbipmlbkcdmnaaGreat
