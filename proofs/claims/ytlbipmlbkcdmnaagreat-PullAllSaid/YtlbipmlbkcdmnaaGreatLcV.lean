
/-
  Files and directories, laid twice: the law's walk.
-/
import Derived.Test.YtlbipmlbkcdmnaaGreatBqV
import Derived.Test.YtlbipmlbkcdmnaaGreatBsV
import Derived.Test.YtlbipmlbkcdmnaaGreatMerQ
namespace Go.Proofs.YtlbipmlbkcdmnaaGreat
open Go.RowKit Go.Shelf

theorem wpList_run {P : Program} {ops : Array Oper} {rest : List Oper} {a : Act} {Q : Exit → Act → World → Prop} {w : World} {dst : Option Tmp} {op : Op} {ty : TypeId} {pos : String} {after : Array Edge} (v : Value) (w' : World)
    (hr : (execOp a.eval ⟨dst, op, ty, pos, after, none⟩).run P w = .ok (.value v) w') (h : wpList P ops Q rest (a.put dst v) w') : wpList P ops Q (⟨dst, op, ty, pos, after, none⟩ :: rest) a w :=
  wpList_plain rfl fun K hK => by
    unfold Oper.wp
    rw [hr]
    exact hK _ _ h

def oA : Opt := ⟨[], false, true⟩

theorem build62A (w : World) : (Instr.build 40 #[(2, .bool true)]).run Tryz.prog w = .ok (.agg (optCells oA).toArray) w := run_build w 40 _ _ (by kernel_rfl)

theorem ok_nil : OkTree [] := ⟨List.Pairwise.nil, fun s hs => by cases hs⟩

end Go.Proofs.YtlbipmlbkcdmnaaGreat
