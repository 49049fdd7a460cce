/-
  TreeChanges: true for every input; the input reads as it did.
-/
import Derived.Test.YtlbipmlbkcdmnaaAlWd
import Derived.Test.YtlbipmlbkcdmnaaAnWd
import Derived.SizedLaws
import Derived.WalkKit
import Derived.ProofKit
import Derived.OpenShut
import Derived.ShutString
import Derived.ChangeOld
import Derived.Below
namespace Go.Proofs.Ytlbipmlbkcdmnaa.treeChanges
open Go.ChangeShapes Go.WideShapes Go.ChangeAt Go.RowKit
open Go.ChangeMaps (open_string shut_string)
set_option linter.unusedVariables false

theorem own : ownKnob Try.prog.godebug = none := by kernel_rfl
theorem laidOut : laidOutB Try.prog = true := by kernel_rfl

theorem u8_range {a : Int} (h : (Lit.int .u8 a).wf = true) : 0 ≤ a ∧ a < 256 := by
  have h1 : IntKind.u8.min = 0 := by decide
  have h2 : IntKind.u8.max = 255 := by decide
  simp [Lit.wf, h1, h2] at h
  omega

/-- What the walk is told of a slice of integers that came in. -/
def IsRow (k : IntKind) (w : World) (a : Option Addr) (len cap : Nat) (zs : List Int) : Prop :=
  (a = none ∧ len = 0 ∧ cap = 0 ∧ zs = []) ∨
  ∃ x, a = some x ∧ len ≤ cap ∧ cap ≤ maxLen ∧ zs.length = cap ∧ (∀ i, i < zs.length → w.cell? (x.add i) = some (.int k (zs.getD i 0))) ∧ ∀ n ∈ zs, (Lit.int k n).wf = true

theorem IsRow.rd {w : World} {a : Option Addr} {len cap : Nat} {zs : List Int} (h : IsRow .u8 w a len cap zs) : Rd w .u8 a len (zs.take len) ∧ len ≤ 9223372036854775807 ∧ ∀ x ∈ zs.take len, 0 ≤ x ∧ x < 256 := by
  rcases h with ⟨rfl, rfl, rfl, rfl⟩ | ⟨x, rfl, hl, hm, hz, hc, hw⟩
  · exact ⟨⟨rfl, fun j hj => absurd hj (by omega)⟩, by omega, by simp⟩
  · refine ⟨⟨by simp; omega, fun j hj => ⟨x, rfl, ?_⟩⟩, by unfold maxLen at hm; omega, fun y hy => u8_range (hw y (List.mem_of_mem_take hy))⟩
    rw [hc j (by omega)]
    simp [hj]

theorem walk {a0 : Option Addr} {len0 cap0 : Nat} {x : Nd} {s : Sn} (a2 : ByteArray) {a3 : Option Addr} {len3 cap3 : Nat} {z3 : List Int} {a4 : Int} (W : World)
    (w0 : ∃ (ns : List Nd) (ss : List Sn), Nodes W a0 ns ∧ Like W ns ss ∧ len0 = ns.length ∧ (a0 = none → len0 = 0) ∧ len0 ≤ 2199023255488 ∧ ∀ t ∈ ss, t.path.length ≤ 140737488355328 ∧ t.data.length ≤ 140737488355328 ∧ t.link.length ≤ 140737488355328)
    (wn : NdAt W x s) (ww : s.path.length ≤ 140737488355328 ∧ s.data.length ≤ 140737488355328 ∧ s.link.length ≤ 140737488355328) (h2 : a2.data.toList.length ≤ reachBytes) (w3 : IsRow .u8 W a3 len3 cap3 z3) (w4 : (Lit.int .u8 a4).wf = true) :
    Calls Try.prog 5 #[.slice a0 len0 cap0, .agg x.cells.toArray, .string a2, .slice a3 len3 cap3, .int .u8 a4] W fun e w' => e = .returned (.bool true) ∧ Below W.heap.size W w' := by
  obtain ⟨ns, ss, hN, hL, hl, hnil, hlen, hss⟩ := w0
  obtain ⟨⟨l⟩⟩ := a2
  have hr := reachBytes_lt
  exact changes_walk x s l W hN hL hl hnil hlen hss wn ⟨ww.1, ww.2.1⟩ (Nat.le_trans (by simpa using h2) (by omega)) w3.rd.1 w3.rd.2.2 w3.rd.2.1 (u8_range w4).1 (u8_range w4).2

set_option maxRecDepth 100000 in
theorem lifted (os : Os) (started : os.Started) (H : Type) (enc : TypeId × Value → H) :
    ReturnsInHanded {} Try.checked os 5 .any (Rows.treeChangesSpec.pre6 enc Try.prog Try.f5 Rows.treeChangesRow.domain false) (Rows.treeChangesSpec.post enc Try.prog Try.f5 false true false false) := by
  refine returnsInHanded_of_change_sized (C := Try.checked) own started (by kernel_rfl) Try.func5
    (ChangeSpec.witness6 (enc := enc) (C := Try.checked) false ⟨#[], #[.slice none 0 0, .agg #[.string ByteArray.empty, .int .u8 0, .slice none 0 0, .string ByteArray.empty], .string ByteArray.empty, .slice none 0 0, .int .u8 0], []⟩ 8 (by kernel_rfl) (by kernel_rfl) (by kernel_rfl) (by kernel_rfl)) ?_
  intro W base args ds gs before hval0 hW hcnd hsz0 _
  have hsz : (DataW.weightsEach Try.prog (Try.f5.params.toList ++ Rows.treeChangesSpec.plain.varTypes Try.prog) (ds ++ gs)).all (· ≤ reachBytes) = true := hsz0
  have hval : ∀ (j : Nat) t v, Try.f5.params[j]? = some t → args[j]? = some v → Value.okWide Try.prog W .any base t v := hval0
  have hW' := hW
  obtain ⟨p, q, hA0, hV, rfl, hfz, hnd⟩ := hW
  have hA : DataW.TrodAll enc Try.prog W 0 (fun _ => true) true Try.f5.params.toList args.toList ds p := hA0
  rw [Try.params5] at hA hval hsz
  obtain ⟨v0, vs0, d0, ds0, p0, q0, hargs, rfl, rfl, h0, r0⟩ := trodAll_cons hA
  obtain ⟨v1, vs1, d1, ds1, p1, q1, rfl, rfl, rfl, h1, r1⟩ := trodAll_cons r0
  obtain ⟨v2, vs2, d2, ds2, p2, q2, rfl, rfl, rfl, h2, r2⟩ := trodAll_cons r1
  obtain ⟨v3, vs3, d3, ds3, p3, q3, rfl, rfl, rfl, h3, r3⟩ := trodAll_cons r2
  obtain ⟨v4, vs4, d4, ds4, p4, q4, rfl, rfl, rfl, h4, r4⟩ := trodAll_cons r3
  obtain ⟨rfl, rfl, rfl⟩ := trodAll_nil r4
  obtain rfl : args = #[v0, v1, v2, v3, v4] := by cases args; simp_all
  obtain ⟨rfl, rfl⟩ := trodVars_none hV
  clear hA0
  have lt0 : ∀ x ∈ p0, x.block < W.heap.size := by obtain ⟨m, hm⟩ := h0; exact DataW.trod_lt m _ _ _ hm
  obtain ⟨a0, len0, cap0, rfl⟩ := okWide_slice Try.underlying28 (hval 0 28 v0 rfl rfl)
  have k0 := h0
  have w0 : ∃ (ns : List Nd) (ss : List Sn), Nodes W a0 ns ∧ Like W ns ss ∧ len0 = ns.length ∧ (a0 = none → len0 = 0) ∧ len0 ≤ 2199023255488 ∧ ∀ t ∈ ss, t.path.length ≤ 140737488355328 ∧ t.data.length ≤ 140737488355328 ∧ t.link.length ≤ 140737488355328 := by
    obtain ⟨fuel, hf⟩ := h0
    exact open_nodes (x := (d0, p0)) hf fun n hn => of_decide_eq_true (List.all_eq_true.1 hsz n (DataW.weights_mem_each (j := 0) (t := 28) rfl rfl n hn))
  have lt1 : ∀ x ∈ p1, x.block < W.heap.size := by obtain ⟨m, hm⟩ := h1; exact DataW.trod_lt m _ _ _ hm
  obtain ⟨cs1, rfl, _⟩ := okWide_struct Try.underlying31 (hval 1 31 v1 rfl rfl)
  obtain ⟨x1, s1, hcs1, wn1, ww1⟩ : ∃ (nd : Nd) (s : Sn), cs1.toList = nd.cells ∧ NdAt W nd s ∧ s.path.length ≤ 140737488355328 ∧ s.data.length ≤ 140737488355328 ∧ s.link.length ≤ 140737488355328 := by
    obtain ⟨fuel, hf⟩ := h1
    exact open_node (x := (d1, p1)) hf fun n hn => of_decide_eq_true (List.all_eq_true.1 hsz n (DataW.weights_mem_each (j := 1) (t := 31) rfl rfl n hn))
  obtain rfl : cs1 = x1.cells.toArray := by rw [← hcs1]
  have k1 := h1
  have lt2 : ∀ x ∈ p2, x.block < W.heap.size := by obtain ⟨m, hm⟩ := h2; exact DataW.trod_lt m _ _ _ hm
  obtain ⟨a2, rfl, rfl, rfl, w2⟩ := open_string Try.underlying9 (hval 2 9 v2 rfl rfl) h2
  have lt3 : ∀ x ∈ p3, x.block < W.heap.size := by obtain ⟨m, hm⟩ := h3; exact DataW.trod_lt m _ _ _ hm
  obtain ⟨a3, len3, cap3, rfl⟩ := okWide_slice Try.underlying29 (hval 3 29 v3 rfl rfl)
  have k3 := h3
  obtain ⟨z3, w3⟩ : ∃ zs, IsRow .u8 W a3 len3 cap3 zs := by
    obtain ⟨fuel, hf⟩ := h3
    rcases open_ints Try.underlying29 Try.underlying5 (by kernel_rfl) hf with ⟨hcs, _⟩ | ⟨x, l, c, zs, hcs, _, hl, hm, hz, _, hcell, hwz⟩
    · simp [Value.cells] at hcs
      obtain ⟨rfl, rfl, rfl⟩ := hcs
      exact ⟨[], .inl ⟨rfl, rfl, rfl, rfl⟩⟩
    · simp [Value.cells] at hcs
      obtain ⟨rfl, rfl, rfl⟩ := hcs
      exact ⟨zs, .inr ⟨_, rfl, hl, hm, by simpa using hz, hcell, hwz⟩⟩
  have lt4 : ∀ x ∈ p4, x.block < W.heap.size := by obtain ⟨m, hm⟩ := h4; exact DataW.trod_lt m _ _ _ hm
  obtain ⟨a4, rfl, rfl, rfl, w4⟩ := open_int Try.underlying5 (hval 4 5 v4 rfl rfl) h4
  refine (walk a2 W w0 wn1 ww1 (sized_string hsz (j := 2) (t := 9) rfl rfl) w3 w4).mono fun e W' ⟨he, bel⟩ => ?_
  subst he
  exact ⟨_, rfl, _, _, _, [], _, [], hW', trodAll_mk1 (shut_bool Try.underlying4 _), (trodAll_cons_mk (Below.trod laidOut (by kernel_rfl) (of_decide_eq_true (by kernel_rfl)) k0 bel lt0) (trodAll_cons_mk (Below.trod laidOut (by kernel_rfl) (of_decide_eq_true (by kernel_rfl)) k1 bel lt1) (trodAll_cons_mk (shut_string Try.underlying9 w2) (trodAll_cons_mk (Below.trod laidOut (by kernel_rfl) (of_decide_eq_true (by kernel_rfl)) k3 bel lt3) (trodAll_cons_mk (shut_int Try.underlying5 w4) trodAll_mk0))))), rfl, bel.frame _, fun h => by cases h⟩

theorem over : Rows.treeChangesRow.holds Try.pinned (OpenSpec.ofChange Rows.treeChangesSpec) :=
  OpenClaim.holds_of_wide 5 Try.f5 rfl rfl rfl rfl rfl rfl rfl ⟨rfl, rfl, rfl, rfl, rfl⟩ rfl rfl rfl rfl rfl (by kernel_rfl) Try.func5 (by kernel_rfl)
    (of_decide_eq_true (by kernel_rfl)) (by unfold Func.isWrapper; first | (rw [if_pos (by decide +kernel)]; kernel_rfl) | (rw [if_neg (by decide +kernel)]; exact ⟨rfl, rfl⟩))
    (fun os started H enc _ => lifted os started H enc)

theorem proved : Rows.TreeChangesSaid := over
#print axioms proved
end Go.Proofs.Ytlbipmlbkcdmnaa.treeChanges
