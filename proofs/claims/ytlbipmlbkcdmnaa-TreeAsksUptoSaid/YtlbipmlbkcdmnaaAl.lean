/-
  Nodes that came in: what they read as, and how much it is.
-/
import Derived.Test.YtlbipmlbkcdmnaaAi
import Derived.Deep.Slices
import Derived.ChangeSame
import Derived.WalkKit
import Derived.ProofKit
import Derived.OpenShut
namespace Go.Proofs.Ytlbipmlbkcdmnaa
open Go.RowKit Go.ChangeShapes Go.WideShapes Go.Deep

def wtS (s : Sn) : Nat := s.path.length + s.data.length + s.link.length
def wtL (ss : List Sn) : Nat := (ss.map wtS).sum

theorem bulk_lits {H : Type} (k : IntKind) (zs : List Int) : Rows.uptoBulkAll (lits k zs : List (DataW H)) = zs.length := by
  induction zs with
  | nil => rfl
  | cons z r ih =>
    unfold lits at ih ⊢
    rw [List.map_cons]
    simp only [Rows.uptoBulkAll, ih, List.length_cons, Rows.uptoBulk]
    omega

variable {H : Type} {enc : TypeId × Value → H} {W : World} {base : Nat} {held : Bool}

theorem open_data {fuel : Nat} {v : Value} {y : DataW H × List MemPlace} (h : DataW.trod enc Try.prog W base (fun _ => true) held fuel 29 [v] = some y) (hb : Rows.uptoBulk y.1 ≤ 1048576) :
    ∃ (A : Option Addr) (l c : Nat) (zs : List Int), v = .slice A l c ∧ Rd W .u8 A l zs ∧ l ≤ c ∧ l ≤ 4000000000000 ∧ zs.length ≤ Rows.uptoBulk y.1 := by
  rcases open_ints Try.underlying29 Try.underlying5 (by kernel_rfl) h with ⟨hcs, rfl⟩ | ⟨a, l, c, zs, hcs, _, hl, hm, hz, rfl, hcell, hw⟩
  · cases hcs
    exact ⟨none, 0, 0, [], rfl, ⟨rfl, fun j hj => absurd hj (Nat.not_lt_zero _)⟩, Nat.le_refl _, by omega, by simp⟩
  · cases hcs
    have hz' : zs.length = c := by simpa using hz
    simp only [Rows.uptoBulk, bulk_lits] at hb ⊢
    have h1 : (zs.take l).length = l := by rw [List.length_take]; omega
    refine ⟨some a, l, c, zs.take l, rfl, ⟨h1, fun j hj => ⟨a, rfl, ?_⟩⟩, hl, by omega, by omega⟩
    rw [hcell j (by omega)]
    simp [hj]

theorem list4 {α : Type} {l : List α} (h : l.length = 4) : ∃ a b c d, l = [a, b, c, d] := by
  rcases l with _ | ⟨a, _ | ⟨b, _ | ⟨c, _ | ⟨d, _ | ⟨e, r⟩⟩⟩⟩⟩
  · simp at h
  · simp at h
  · simp at h
  · simp at h
  · exact ⟨a, b, c, d, rfl⟩
  · simp at h

theorem open_node {fuel : Nat} {cs : List Value} {x : DataW H × List MemPlace} (h : DataW.trod enc Try.prog W base (fun _ => true) held fuel 31 cs = some x) (hb : Rows.uptoBulk x.1 ≤ 1048576) :
    ∃ (nd : Nd) (s : Sn), cs = nd.cells ∧ NdAt W nd s ∧ wtS s + 1 ≤ Rows.uptoBulk x.1 := by
  obtain ⟨xs, n, _, rfl, hcl, hxl, hf⟩ := DataW.trod_struct Try.underlying31 h
  have hc4 : Try.prog.cellsOf 31 = 4 := by kernel_rfl
  have h9 : Try.prog.cellsOf 9 = 1 := by kernel_rfl
  have h5 : Try.prog.cellsOf 5 = 1 := by kernel_rfl
  have h29 : Try.prog.cellsOf 29 = 1 := by kernel_rfl
  rw [hc4] at hcl
  obtain ⟨v0, v1, v2, v3, rfl⟩ := list4 hcl
  obtain ⟨y0, y1, y2, y3, rfl⟩ := list4 (show xs.length = 4 from hxl)
  have g0 := hf 0 _ rfl
  have g1 := hf 1 _ rfl
  have g2 := hf 2 _ rfl
  have g3 := hf 3 _ rfl
  simp [h9, h5, h29] at g0 g1 g2 g3
  simp only [List.map_cons, List.map_nil, Rows.uptoBulk, Rows.uptoBulkAll] at hb ⊢
  obtain ⟨s0, e0, rfl, _⟩ := DataW.trod_string Try.underlying9 g0
  obtain ⟨k1, e1, rfl, _⟩ := DataW.trod_int Try.underlying5 g1
  obtain ⟨A, l, c, zs, rfl, hrd, hlc, hl4, hzl⟩ := open_data g2 (by omega)
  obtain ⟨s3, e3, rfl, _⟩ := DataW.trod_string Try.underlying9 g3
  cases e0; cases e1; cases e3
  refine ⟨⟨s0.data.toList, k1, A, l, c, s3.data.toList⟩, ⟨s0.data.toList, k1, zs, s3.data.toList⟩, ?_, ⟨rfl, rfl, rfl, hrd, hlc, hl4⟩, ?_⟩
  · rfl
  · simp only [Rows.uptoBulk, wtS]
    omega

theorem bulk_all_append (a b : List (DataW H)) : Rows.uptoBulkAll (a ++ b) = Rows.uptoBulkAll a + Rows.uptoBulkAll b := by
  induction a with
  | nil => simp [Rows.uptoBulkAll]
  | cons x r ih => simp only [List.cons_append, Rows.uptoBulkAll, ih]; omega

theorem bulk_range (D : Nat → DataW H) (g : Nat → Nat) : ∀ n, (∀ i, i < n → g i + 1 ≤ Rows.uptoBulk (D i)) → n + ((List.range n).map g).sum ≤ Rows.uptoBulkAll ((List.range n).map D)
  | 0, _ => by simp [Rows.uptoBulkAll]
  | n + 1, h => by
    have ih := bulk_range D g n fun i hi => h i (by omega)
    have h1 := h n (by omega)
    rw [List.range_succ, List.map_append, List.map_append, bulk_all_append, List.sum_append]
    simp only [List.map_cons, List.map_nil, List.sum_cons, List.sum_nil, Rows.uptoBulkAll]
    omega

theorem bulk_each (D : Nat → DataW H) (n i : Nat) (hi : i < n) : Rows.uptoBulk (D i) ≤ Rows.uptoBulkAll ((List.range n).map D) := by
  induction n with
  | zero => omega
  | succ n ih =>
    rw [List.range_succ, List.map_append, bulk_all_append]
    simp only [List.map_cons, List.map_nil, Rows.uptoBulkAll]
    by_cases h : i = n
    · subst h; omega
    · have := ih (by omega); omega

theorem open_nodes {fuel : Nat} {A : Option Addr} {len cap : Nat} {x : DataW H × List MemPlace} (h : DataW.trod enc Try.prog W base (fun _ => true) held fuel 28 [.slice A len cap] = some x) (hb : Rows.uptoBulk x.1 ≤ 1048576) :
    ∃ (ns : List Nd) (ss : List Sn), Nodes W A ns ∧ Like W ns ss ∧ len = ns.length ∧ (A = none → len = 0) ∧ len + wtL ss ≤ Rows.uptoBulk x.1 := by
  rcases open_slice Try.underlying28 h with ⟨hcs, rfl⟩ | ⟨a, len', cap', m, n, D, Pl, hcs, _, hl, hm, hmm, rfl, hx⟩
  · cases hcs
    exact ⟨[], [], .inl rfl, ⟨rfl, fun j x s hx => by simp at hx⟩, rfl, fun _ => rfl, by simp [wtL]⟩
  · cases hcs
    simp only [if_true] at hmm
    subst hmm
    simp only [Rows.uptoBulk] at hb ⊢
    have hc4 : Try.prog.cellsOf 31 = 4 := by kernel_rfl
    rw [hc4] at hx
    have each : ∀ i, i < len → ∃ q : Nd × Sn, (∀ (j : Nat) v, q.1.cells[j]? = some v → W.cell? (a.add (i * 4 + j)) = some v) ∧ NdAt W q.1 q.2 ∧ wtS q.2 + 1 ≤ Rows.uptoBulk (D i) := fun i hi => by
      obtain ⟨cs', h1, h2⟩ := hx i (by omega)
      have h3 := bulk_each D len i hi
      obtain ⟨nd, s, rfl, hnd, hw⟩ := open_node h2 (Nat.le_trans h3 (by omega))
      obtain ⟨_, _, hcell⟩ := World.cells?_some h1
      refine ⟨(nd, s), fun j v hj => ?_, hnd, hw⟩
      have hj4 : j < 4 := (List.getElem?_eq_some_iff.1 hj).1
      have h5 := hcell j hj4
      rw [Go.Deep.add_add] at h5
      rw [h5]
      exact hj
    have hInh : Inhabited (Nd × Sn) := ⟨(nodeZ, ⟨[], 0, [], []⟩)⟩
    obtain ⟨f, hf⟩ := choose_lt each
    have hget : ∀ {α : Type} (g : Nat → α) (j : Nat) (y : α), ((List.range len).map g)[j]? = some y → j < len ∧ y = g j := fun g j y hy => by
      have hj := (List.getElem?_eq_some_iff.1 hy).1
      simp only [List.length_map, List.length_range] at hj
      refine ⟨hj, ?_⟩
      rw [List.getElem?_map, List.getElem?_range hj] at hy
      simpa using hy.symm
    refine ⟨(List.range len).map fun i => (f i).1, (List.range len).map fun i => (f i).2, ?_, ⟨by simp, fun j x s hxj hsj => ?_⟩, by simp, (by intro h0; cases h0), ?_⟩
    · rcases Nat.eq_zero_or_pos len with h0 | h0
      · subst h0; exact .inl rfl
      · right
        obtain ⟨b, off, spot⟩ := a
        have hc0 := (hf 0 h0).1 0 _ rfl
        have hspot : spot = none := by simpa [Addr.add] using World.cell?_spot hc0
        subst hspot
        refine ⟨b, off, rfl, World.block_lt_of_cell? W _ hc0, fun j x hxj => ?_⟩
        obtain ⟨hj, rfl⟩ := hget _ j x hxj
        have hc := (hf j hj).1
        have e : ∀ i v, (f j).1.cells[i]? = some v → W.cell? ⟨b, off + j * 4 + i, none⟩ = some v := fun i v hi => by
          have := hc i v hi
          rw [Addr.add_lit] at this
          rw [Nat.add_assoc]
          exact this
        exact ⟨e 0 _ rfl, e 1 _ rfl, e 2 _ rfl, e 3 _ rfl⟩
    · obtain ⟨hj, rfl⟩ := hget _ j x hxj
      obtain ⟨_, rfl⟩ := hget _ j s hsj
      exact (hf j hj).2.1
    · have h1 := bulk_range D (fun i => wtS (f i).2) len fun i hi => (hf i hi).2.2
      unfold wtL
      rw [List.map_map]
      have h2 : ((List.range len).map (wtS ∘ fun i => (f i).2)).sum = ((List.range len).map fun i => wtS (f i).2).sum := rfl
      rw [h2]
      omega

end Go.Proofs.Ytlbipmlbkcdmnaa
