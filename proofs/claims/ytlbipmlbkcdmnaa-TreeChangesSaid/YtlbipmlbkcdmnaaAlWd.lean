/-
  Nodes that came in: what they read as, and how much it may be.
-/
import Derived.Test.YtlbipmlbkcdmnaaAiWd
import Derived.Deep.Slices
import Derived.ChangeSame
import Derived.WalkKit
import Derived.ProofKit
import Derived.OpenShut
import Derived.SizedLaws
namespace Go.Proofs.Ytlbipmlbkcdmnaa
open Go.RowKit Go.ChangeShapes Go.WideShapes Go.Deep

theorem bytes5 : Try.prog.bytesOf 5 = 1 := by kernel_rfl
theorem bytes31 : Try.prog.bytesOf 31 = 64 := by kernel_rfl

theorem weights_all {H : Type} (P : Program) (e : TypeId) {d : DataW H} {n : Nat} (hn : n ∈ d.weights P e) : ∀ l : List (DataW H), d ∈ l → n ∈ DataW.weightsAll P e l
  | x :: r, h => by
    simp only [DataW.weightsAll, List.mem_append]
    rcases List.mem_cons.1 h with rfl | h
    · exact .inl hn
    · exact .inr (weights_all P e hn r h)

variable {H : Type} {enc : TypeId × Value → H} {W : World} {base : Nat} {held : Bool}

theorem open_data {fuel : Nat} {v : Value} {y : DataW H × List MemPlace} (h : DataW.trod enc Try.prog W base (fun _ => true) held fuel 29 [v] = some y) (hb : ∀ n ∈ y.1.weights Try.prog 29, n ≤ reachBytes) :
    ∃ (A : Option Addr) (l c : Nat) (zs : List Int), v = .slice A l c ∧ Rd W .u8 A l zs ∧ l ≤ c ∧ l ≤ 140737488355328 := by
  have hrl := reachBytes_lt
  rcases open_ints Try.underlying29 Try.underlying5 (by kernel_rfl) h with ⟨hcs, rfl⟩ | ⟨a, l, c, zs, hcs, _, hl, hm, hz, rfl, hcell, hw⟩
  · cases hcs
    exact ⟨none, 0, 0, [], rfl, ⟨rfl, fun j hj => absurd hj (Nat.not_lt_zero _)⟩, Nat.le_refl _, by omega⟩
  · cases hcs
    have hz' : zs.length = c := by simpa using hz
    have h1 : (zs.take l).length = l := by rw [List.length_take]; omega
    simp only [DataW.weights, Try.underlying29] at hb
    have hb1 := hb _ List.mem_cons_self
    rw [bytes5] at hb1
    simp only [lits, List.length_map] at hb1
    refine ⟨some a, l, c, zs.take l, rfl, ⟨h1, fun j hj => ⟨a, rfl, ?_⟩⟩, hl, by omega⟩
    rw [hcell j (by omega)]
    simp [hj]

theorem list4 {α : Type} {l : List α} (h : l.length = 4) : ∃ a b c d, l = [a, b, c, d] := by
  rcases l with _ | ⟨a, _ | ⟨b, _ | ⟨c, _ | ⟨d, _ | ⟨e, r⟩⟩⟩⟩⟩
  · simp at h
  · simp at h
  · simp at h
  · simp at h
  · exact ⟨a, b, c, d, rfl⟩
  · simp at h

theorem open_node {fuel : Nat} {cs : List Value} {x : DataW H × List MemPlace} (h : DataW.trod enc Try.prog W base (fun _ => true) held fuel 31 cs = some x) (hb : ∀ n ∈ x.1.weights Try.prog 31, n ≤ reachBytes) :
    ∃ (nd : Nd) (s : Sn), cs = nd.cells ∧ NdAt W nd s ∧ s.path.length ≤ 140737488355328 ∧ s.data.length ≤ 140737488355328 ∧ s.link.length ≤ 140737488355328 := by
  have hrl := reachBytes_lt
  obtain ⟨xs, n, _, rfl, hcl, hxl, hf⟩ := DataW.trod_struct Try.underlying31 h
  have hc4 : Try.prog.cellsOf 31 = 4 := by kernel_rfl
  have h9 : Try.prog.cellsOf 9 = 1 := by kernel_rfl
  have h5 : Try.prog.cellsOf 5 = 1 := by kernel_rfl
  have h29 : Try.prog.cellsOf 29 = 1 := by kernel_rfl
  rw [hc4] at hcl
  obtain ⟨v0, v1, v2, v3, rfl⟩ := list4 hcl
  obtain ⟨y0, y1, y2, y3, rfl⟩ := list4 (show xs.length = 4 from hxl)
  have g0 := hf 0 _ rfl
  have g1 := hf 1 _ rfl
  have g2 := hf 2 _ rfl
  have g3 := hf 3 _ rfl
  simp [h9, h5, h29] at g0 g1 g2 g3
  have hb' : ∀ n ∈ DataW.weightsEach Try.prog [9, 5, 29, 9] [y0.1, y1.1, y2.1, y3.1], n ≤ reachBytes := fun n hn => hb n (by
    simp only [DataW.weights, Try.underlying31]
    exact hn)
  obtain ⟨s0, e0, rfl, _⟩ := DataW.trod_string Try.underlying9 g0
  obtain ⟨k1, e1, rfl, _⟩ := DataW.trod_int Try.underlying5 g1
  obtain ⟨A, l, c, zs, rfl, hrd, hlc, hl4⟩ := open_data g2 fun n hn => hb' n (DataW.weights_mem_each (j := 2) (t := 29) rfl rfl n hn)
  obtain ⟨s3, e3, rfl, _⟩ := DataW.trod_string Try.underlying9 g3
  cases e0; cases e1; cases e3
  have b0 := hb' s0.data.toList.length (DataW.weights_mem_each (j := 0) (t := 9) rfl rfl _ (by simp [DataW.weights]))
  have b3 := hb' s3.data.toList.length (DataW.weights_mem_each (j := 3) (t := 9) rfl rfl _ (by simp [DataW.weights]))
  refine ⟨⟨s0.data.toList, k1, A, l, c, s3.data.toList⟩, ⟨s0.data.toList, k1, zs, s3.data.toList⟩, rfl, ⟨rfl, rfl, rfl, hrd, hlc, hl4⟩, by show s0.data.toList.length ≤ _; omega, ?_, by show s3.data.toList.length ≤ _; omega⟩
  show zs.length ≤ _
  rw [hrd.1]
  exact hl4

theorem open_nodes {fuel : Nat} {A : Option Addr} {len cap : Nat} {x : DataW H × List MemPlace} (h : DataW.trod enc Try.prog W base (fun _ => true) held fuel 28 [.slice A len cap] = some x) (hb : ∀ n ∈ x.1.weights Try.prog 28, n ≤ reachBytes) :
    ∃ (ns : List Nd) (ss : List Sn), Nodes W A ns ∧ Like W ns ss ∧ len = ns.length ∧ (A = none → len = 0) ∧ len ≤ 2199023255488 ∧ ∀ t ∈ ss, t.path.length ≤ 140737488355328 ∧ t.data.length ≤ 140737488355328 ∧ t.link.length ≤ 140737488355328 := by
  have hrl := reachBytes_lt
  rcases open_slice Try.underlying28 h with ⟨hcs, rfl⟩ | ⟨a, len', cap', m, n, D, Pl, hcs, _, hl, hm, hmm, rfl, hx⟩
  · cases hcs
    exact ⟨[], [], .inl rfl, ⟨rfl, fun j x s hx => by simp at hx⟩, rfl, fun _ => rfl, Nat.zero_le _, by simp⟩
  · cases hcs
    simp only [if_true] at hmm
    subst hmm
    simp only [DataW.weights, Try.underlying28] at hb
    have hb1 := hb _ List.mem_cons_self
    rw [bytes31] at hb1
    have hb2 : ∀ i, i < len → ∀ n ∈ (D i).weights Try.prog 31, n ≤ reachBytes := fun i hi n hn => hb n (List.mem_cons_of_mem _ (List.mem_append_left _ (weights_all _ _ hn _ (List.mem_map.2 ⟨i, List.mem_range.2 hi, rfl⟩))))
    have hlen : len ≤ 2199023255488 := by
      simp only [List.length_map, List.length_range] at hb1
      simp only [reachBytes] at hb1
      omega
    have hc4 : Try.prog.cellsOf 31 = 4 := by kernel_rfl
    rw [hc4] at hx
    have each : ∀ i, i < len → ∃ q : Nd × Sn, (∀ (j : Nat) v, q.1.cells[j]? = some v → W.cell? (a.add (i * 4 + j)) = some v) ∧ NdAt W q.1 q.2 ∧ q.2.path.length ≤ 140737488355328 ∧ q.2.data.length ≤ 140737488355328 ∧ q.2.link.length ≤ 140737488355328 := fun i hi => by
      obtain ⟨cs', h1, h2⟩ := hx i (by omega)
      obtain ⟨nd, s, rfl, hnd, hw⟩ := open_node h2 (hb2 i hi)
      obtain ⟨_, _, hcell⟩ := World.cells?_some h1
      refine ⟨(nd, s), fun j v hj => ?_, hnd, hw⟩
      have hj4 : j < 4 := (List.getElem?_eq_some_iff.1 hj).1
      have h5 := hcell j hj4
      rw [Go.Deep.add_add] at h5
      rw [h5]
      exact hj
    have hInh : Inhabited (Nd × Sn) := ⟨(nodeZ, ⟨[], 0, [], []⟩)⟩
    obtain ⟨f, hf⟩ := choose_lt each
    have hget : ∀ {α : Type} (g : Nat → α) (j : Nat) (y : α), ((List.range len).map g)[j]? = some y → j < len ∧ y = g j := fun g j y hy => by
      have hj := (List.getElem?_eq_some_iff.1 hy).1
      simp only [List.length_map, List.length_range] at hj
      refine ⟨hj, ?_⟩
      rw [List.getElem?_map, List.getElem?_range hj] at hy
      simpa using hy.symm
    refine ⟨(List.range len).map fun i => (f i).1, (List.range len).map fun i => (f i).2, ?_, ⟨by simp, fun j x s hxj hsj => ?_⟩, by simp, (by intro h0; cases h0), hlen, ?_⟩
    · rcases Nat.eq_zero_or_pos len with h0 | h0
      · subst h0; exact .inl rfl
      · right
        obtain ⟨b, off, spot⟩ := a
        have hc0 := (hf 0 h0).1 0 _ rfl
        have hspot : spot = none := by simpa [Addr.add] using World.cell?_spot hc0
        subst hspot
        refine ⟨b, off, rfl, World.block_lt_of_cell? W _ hc0, fun j x hxj => ?_⟩
        obtain ⟨hj, rfl⟩ := hget _ j x hxj
        have hc := (hf j hj).1
        have e : ∀ i v, (f j).1.cells[i]? = some v → W.cell? ⟨b, off + j * 4 + i, none⟩ = some v := fun i v hi => by
          have := hc i v hi
          rw [Addr.add_lit] at this
          rw [Nat.add_assoc]
          exact this
        exact ⟨e 0 _ rfl, e 1 _ rfl, e 2 _ rfl, e 3 _ rfl⟩
    · obtain ⟨hj, rfl⟩ := hget _ j x hxj
      obtain ⟨_, rfl⟩ := hget _ j s hsj
      exact (hf j hj).2.1
    · intro t ht
      obtain ⟨i, hi, rfl⟩ := List.mem_map.1 ht
      exact (hf i (List.mem_range.1 hi)).2.2

end Go.Proofs.Ytlbipmlbkcdmnaa
