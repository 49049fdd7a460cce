/-
  Structs of many cells: a store into what was just made, a load: one step each.
-/
import Derived.Test.YtlbipmlbkcdmnaaMerG
import Derived.WalkKit
namespace Go.Proofs.Ytlbipmlbkcdmnaa
open Go.RowKit Go.Shelf

theorem alloc_setRow (w : World) (cur cs : Array Value) (t : TypeId) : (w.alloc (.cells cur t)).setRow w.heap.size cs = w.alloc (.cells cs t) := by
  unfold World.setRow World.alloc
  congr 1
  apply Array.ext
  · simp
  · intro k h1 h2
    simp only [Array.getElem_modify]
    split
    · rename_i hk
      subst hk
      simp
    · rename_i hk
      rw [Array.getElem_push_lt, Array.getElem_push_lt]
      all_goals
        simp at h1 h2
        omega

/-- A store into what was just made. -/
theorem store_alloc {P : Program} (w : World) (cur : Array Value) (vs : List Value) (t : TypeId) (hl : vs.length = cur.size) (h1 : ∀ v ∈ vs, v.oneCell' = true) :
    (storeCells ⟨w.heap.size, 0, none⟩ vs).run P (w.alloc (.cells cur t)) = .ok () (w.alloc (.cells vs.toArray t)) := by
  have h := run_storeCells_at P w.heap.size 0 t vs 0 cur (w.alloc (.cells cur t)) (heap_alloc_new w _) (by omega) h1
  rw [h]
  congr 1
  rw [alloc_setRow]
  congr 2
  simp [hl]

variable {P : Program} {ops : Array Oper} {rest : List Oper} {a : Act} {Q : Exit → Act → World → Prop} {w : World} {dst : Option Tmp} {ty : TypeId} {pos : String} {after : Array Edge}

theorem wpList_store_new (T : TypeId) (d s : Operand) (i : TypeInfo) (cur : Array Value) (vs : List Value) (hi : P.info? T = some i) (hz : i.size = vs.length)
    (hd : a.eval d = .pointer (some ⟨w.heap.size, 0, none⟩)) (hs : a.eval s = .agg vs.toArray) (hl : vs.length = cur.size) (h1 : ∀ v ∈ vs, v.oneCell' = true)
    (h : wpList P ops Q rest (a.put dst undef) (w.alloc (.cells vs.toArray T))) : wpList P ops Q (⟨dst, .store T d s, ty, pos, after, none⟩ :: rest) a (w.alloc (.cells cur T)) :=
  wpList_plain rfl fun K hK => by
    have hst := store_alloc (P := P) w cur vs T hl h1
    unfold Oper.wp execOp
    simp [Instr.storeAt, hd, hs, Instr.sureAddr, storeVar, sizeOf, typeInfo, hi, hz, Value.cells, hst]
    exact hK _ _ h

theorem wpList_load_row (T : TypeId) (d : Operand) (i : TypeInfo) (ad : Addr) (vs : List Value) (hi : P.info? T = some i) (hz : i.size = vs.length) (hag : (isAgg T).run P w = .ok true w)
    (hd : a.eval d = .pointer (some ad)) (hc : ∀ j v, vs[j]? = some v → w.cell? (ad.add j) = some v)
    (h : wpList P ops Q rest (a.put dst (.agg vs.toArray)) w) : wpList P ops Q (⟨dst, .load T d, ty, pos, after, none⟩ :: rest) a w :=
  wpList_plain rfl fun K hK => by
    have hl := run_loadCells_list (P := P) w ad vs hc
    unfold Oper.wp execOp
    simp [Instr.loadAt, hd, Instr.sureAddr, loadVar, hag, sizeOf, typeInfo, hi, hz, hl]
    exact hK _ _ h

/-- .. and in a region that draws. -/
theorem exec_load_row {ρ : Operand → Value} {guard : Option (Nat × Bool)} (T : TypeId) (d : Operand) (i : TypeInfo) (ad : Addr) (vs : List Value) (hi : P.info? T = some i) (hz : i.size = vs.length) (hag : (isAgg T).run P w = .ok true w)
    (hd : ρ d = .pointer (some ad)) (hc : ∀ j v, vs[j]? = some v → w.cell? (ad.add j) = some v) :
    (execOp ρ ⟨dst, .load T d, ty, pos, after, guard⟩).run P w = .ok (.value (.agg vs.toArray)) w := by
  have hl := run_loadCells_list (P := P) w ad vs hc
  unfold execOp
  simp [Instr.loadAt, hd, Instr.sureAddr, loadVar, hag, sizeOf, typeInfo, hi, hz, hl]

/-- The cells of a block. -/
theorem row_cells {w : World} {b : Nat} {cs : List Value} {t : TypeId} (h : w.heap[b]? = some (.cells cs.toArray t (0, 0))) (j : Nat) (v : Value) (hj : cs[j]? = some v) : w.cell? ((⟨b, 0, none⟩ : Addr).add j) = some v := by
  rw [Addr.add_lit, Nat.zero_add]
  unfold World.cell?
  dsimp only
  rw [h]
  simpa using hj

theorem size_of {P : Program} {T : TypeId} {n : Nat} (h : (P.info? T).map (fun i => i.size) = some n) : ∃ i, P.info? T = some i ∧ i.size = n := by
  cases hi : P.info? T with
  | none => rw [hi] at h; cases h
  | some i =>
    rw [hi] at h
    exact ⟨i, rfl, by simpa using h⟩

theorem size54 : ∃ i, Try.prog.info? 54 = some i ∧ i.size = 17 := size_of (by kernel_rfl)
theorem size56 : ∃ i, Try.prog.info? 56 = some i ∧ i.size = 18 := size_of (by kernel_rfl)
theorem size98 : ∃ i, Try.prog.info? 98 = some i ∧ i.size = 23 := size_of (by kernel_rfl)
theorem agg54 (w : World) : (isAgg 54).run Try.prog w = .ok true w := by simp [isAgg, run_underlying Try.underlying54]
theorem agg56 (w : World) : (isAgg 56).run Try.prog w = .ok true w := by simp [isAgg, run_underlying Try.underlying56]
theorem agg98 (w : World) : (isAgg 98).run Try.prog w = .ok true w := by simp [isAgg, run_underlying Try.underlying98]

end Go.Proofs.Ytlbipmlbkcdmnaa
