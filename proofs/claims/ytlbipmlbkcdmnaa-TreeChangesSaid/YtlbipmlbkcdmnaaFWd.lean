/-
  Nodes in new memory.
-/
import Derived.Test.YtlbipmlbkcdmnaaDWd
namespace Go.Proofs.Ytlbipmlbkcdmnaa
open Go.RowKit

/-- A node as it is read. -/
structure Sn where
  path : List UInt8
  kind : Int
  data : List Int
  link : List UInt8

/-- What the cells of a node say. -/
def NdAt (w : World) (x : Nd) (s : Sn) : Prop :=
  x.path = s.path ∧ x.kind = s.kind ∧ x.link = s.link ∧ Rd w .u8 x.adr x.len s.data ∧ x.len ≤ x.cap ∧ x.len ≤ 140737488355328

def Like (w : World) (ns : List Nd) (ss : List Sn) : Prop :=
  ns.length = ss.length ∧ ∀ (j : Nat) (x : Nd) (s : Sn), ns[j]? = some x → ss[j]? = some s → NdAt w x s

/-- A node whose bytes lie in memory of one's own, from block B on. -/
def NdOwn (w : World) (B : Nat) (x : Nd) (s : Sn) : Prop :=
  x.path = s.path ∧ x.kind = s.kind ∧ x.link = s.link ∧ w.ownsRow B 5 1 (.slice x.adr x.len x.cap) x.len (s.data.map (Value.int .u8)) ∧ x.len ≤ 140737488355328
def LikeO (w : World) (B : Nat) (ns : List Nd) (ss : List Sn) : Prop :=
  ns.length = ss.length ∧ ∀ (j : Nat) (x : Nd) (s : Sn), ns[j]? = some x → ss[j]? = some s → NdOwn w B x s

theorem own_below {w w' : World} {B : Nat} {e : TypeId} {size : Nat} {v : Value} {n : Nat} {xs : List Value} (h : w.ownsRow B e size v n xs) (hb : Below w.heap.size w w') : w'.ownsRow B e size v n xs :=
  own_stays h fun k _ hk => hb.block k hk

/-- A row of one's own stays while a block of another element's type is turned. -/
theorem own_other {w w' : World} {B : Nat} {e e' : TypeId} {size : Nat} {v : Value} {n g : Nat} {xs : List Value} (h : w.ownsRow B e size v n xs) {cs : Array Value} {f : Nat × Nat} (hg : w.heap[g]? = some (.cells cs e' f)) (hne : e ≠ e')
    (hk : ∀ k, k < w.heap.size → k ≠ g → w'.heap[k]? = w.heap[k]?) : w'.ownsRow B e size v n xs := by
  obtain ⟨h1, h2⟩ := h
  refine ⟨h1, ?_⟩
  rcases h2 with h2 | ⟨g', cap, cur, rfl, hb, hg', rest⟩
  · exact .inl h2
  · refine .inr ⟨g', cap, cur, rfl, hb, (hk g' (Array.getElem?_eq_some_iff.1 hg').1 (fun e1 => ?_)).trans hg', rest⟩
    subst e1
    rw [hg] at hg'
    injection hg' with hg'
    injection hg' with _ ht _
    exact hne ht.symm

theorem NdOwn.at {w : World} {B : Nat} {x : Nd} {s : Sn} (h : NdOwn w B x s) : NdAt w x s :=
  ⟨h.1, h.2.1, h.2.2.1, rd_of_own h.2.2.2.1, own_cap h.2.2.2.1, h.2.2.2.2⟩
theorem LikeO.like {w : World} {B : Nat} {ns : List Nd} {ss : List Sn} (h : LikeO w B ns ss) : Like w ns ss := ⟨h.1, fun j x s hx hs => (h.2 j x s hx hs).at⟩
theorem NdOwn.below {w w' : World} {B : Nat} {x : Nd} {s : Sn} (h : NdOwn w B x s) (hb : Below w.heap.size w w') : NdOwn w' B x s :=
  ⟨h.1, h.2.1, h.2.2.1, own_below h.2.2.2.1 hb, h.2.2.2.2⟩
theorem NdOwn.wider {w : World} {B B' : Nat} {x : Nd} {s : Sn} (h : NdOwn w B x s) (hb : B' ≤ B) : NdOwn w B' x s :=
  ⟨h.1, h.2.1, h.2.2.1, own_wider h.2.2.2.1 hb, h.2.2.2.2⟩
theorem LikeO.below {w w' : World} {B : Nat} {ns : List Nd} {ss : List Sn} (h : LikeO w B ns ss) (hb : Below w.heap.size w w') : LikeO w' B ns ss :=
  ⟨h.1, fun j x s hx hs => (h.2 j x s hx hs).below hb⟩
/-- .. while the block of nodes is turned. -/
theorem NdOwn.other {w w' : World} {B g : Nat} {x : Nd} {s : Sn} (h : NdOwn w B x s) {cs : Array Value} {f : Nat × Nat} (hg : w.heap[g]? = some (.cells cs 31 f)) (hk : ∀ k, k < w.heap.size → k ≠ g → w'.heap[k]? = w.heap[k]?) : NdOwn w' B x s :=
  ⟨h.1, h.2.1, h.2.2.1, own_other h.2.2.2.1 hg (by decide) hk, h.2.2.2.2⟩

theorem NdAt.below {w w' : World} {x : Nd} {s : Sn} (h : NdAt w x s) (hb : Below w.heap.size w w') : NdAt w' x s :=
  ⟨h.1, h.2.1, h.2.2.1, h.2.2.2.1.below hb, h.2.2.2.2⟩
theorem Like.below {w w' : World} {ns : List Nd} {ss : List Sn} (h : Like w ns ss) (hb : Below w.heap.size w w') : Like w' ns ss :=
  ⟨h.1, fun j x s hx hs => (h.2 j x s hx hs).below hb⟩
theorem Nodes.below {w w' : World} {A : Option Addr} {ns : List Nd} (h : Nodes w A ns) (hb : Below w.heap.size w w') : Nodes w' A ns := by
  rcases h with h | ⟨b, off, rfl, hl, hc⟩
  · exact .inl h
  · refine .inr ⟨b, off, rfl, by have := hb.size; omega, fun j x hj => ?_⟩
    obtain ⟨a0, a1, a2, a3⟩ := hc j x hj
    exact ⟨(hb.cell (p := ⟨b, off + j * 4, none⟩) hl).trans a0, (hb.cell (p := ⟨b, off + j * 4 + 1, none⟩) hl).trans a1, (hb.cell (p := ⟨b, off + j * 4 + 2, none⟩) hl).trans a2, (hb.cell (p := ⟨b, off + j * 4 + 3, none⟩) hl).trans a3⟩

theorem nodes_cells {w : World} {A : Option Addr} {ns : List Nd} (h : Nodes w A ns) : ∀ j u, (cellsOf ns)[j]? = some u → ∃ ad, A = some ad ∧ w.cell? (ad.add j) = some u := by
  intro j u hu
  have hj := (List.getElem?_eq_some_iff.1 hu).1
  rw [cellsOf_length] at hj
  rcases h with rfl | ⟨b, off, rfl, hl, hc⟩
  · simp at hj
  · have hq : j / 4 < ns.length := by omega
    have hx : ns[j / 4]? = some ns[j / 4] := List.getElem?_eq_getElem hq
    have hm : j % 4 < 4 := by omega
    have he : j / 4 * 4 + j % 4 = j := by omega
    have := cellsOf_at hx hm
    rw [he, hu] at this
    obtain ⟨a0, a1, a2, a3⟩ := hc _ _ hx
    refine ⟨_, rfl, ?_⟩
    rw [Addr.add_lit, ← he, ← Nat.add_assoc]
    generalize ns[j / 4] = x at this a0 a1 a2 a3
    have h4 : j % 4 = 0 ∨ j % 4 = 1 ∨ j % 4 = 2 ∨ j % 4 = 3 := by omega
    rcases h4 with h4 | h4 | h4 | h4 <;> rw [h4] at this ⊢ <;> (have := Option.some.inj this; subst this; assumption)

set_option maxRecDepth 100000 in
set_option maxHeartbeats 1000000 in
/-- slices.Clone at nodes. -/
theorem cloneN_any {w : World} {A : Option Addr} {n c : Nat} {ns : List Nd} (h : Nodes w A ns) (hl : n = ns.length) (hn : n ≤ 2199023255500) (hnil : A = none → n = 0) :
    Calls Try.prog 69 #[.slice A n c] w fun e w' => ∃ A' c', e = .returned (.slice A' n c') ∧ w'.ownsRow w.heap.size 31 4 (.slice A' n c') n (cellsOf ns) ∧ Below w.heap.size w w' := by
  cases A with
  | none =>
    obtain rfl := hnil rfl
    obtain rfl : ns = [] := List.eq_nil_of_length_eq_zero hl.symm
    have hrun := fun W : World => Lib.run_eql_slice_nil (P := Try.prog) W 28 31 none 0 c 0 0 Try.underlying28
    clear h hl hnil
    go_enter Try.func69, Try.ntmps69
    go_wp2
    go_ret
    exact ⟨none, 0, rfl, World.ownsRow_nil _ _ _ _, Below.refl _ _⟩
  | some ad =>
    obtain ⟨i0, hi, hz0, hz1, hz2⟩ := info_parts Try.info31
    have hrun := fun W : World => Lib.run_eql_slice_nil (P := Try.prog) W 28 31 (some ad) n c 0 0 Try.underlying28
    have HH := Lib.hid h; clear h
    have HL := Lib.hid hl; clear hl
    clear hnil
    go_enter Try.func69, Try.ntmps69
    go_wp2_with (at_builtin; refine wpList_append_own _ rfl _ _ 28 rfl w.heap.size 31 i0 _ 4 64 Try.underlying28 hi hz0 hz1 hz2 rfl (by decide) _ 0 [] rfl (World.ownsRow_made w #[] 0 (Nat.le_refl _) (by simp [maxLen]) rfl) ad n c (cellsOf ns) rfl (by rw [cellsOf_length, HL.out]) (fun j u hu => by obtain ⟨ad', hA, hc⟩ := nodes_cells HH.out j u hu; cases hA; exact (Below.cell ((Below.refl _ w).alloc (Nat.le_refl _) _) (World.block_lt_of_cell? w _ hc)).trans hc) (cells_one ns) (by unfold maxLen; omega) (by omega) (by simp) ?_; intro v' w1 hown1 hgrow1 _; simp only [Nat.zero_add, List.nil_append] at hown1; obtain ⟨A', c', rfl⟩ := own_form hown1)
    go_ret
    exact ⟨A', c', rfl, hown1, ((Below.refl _ w).alloc (Nat.le_refl _) _).grown hgrow1 (by simp) (fun k e => Nat.le_of_eq (Option.some.inj e))⟩

/-- A node's slice of bytes is exchanged. -/
theorem cellsOf_set {ns : List Nd} {j : Nat} {x : Nd} (h : ns[j]? = some x) (A : Option Addr) (l c : Nat) :
    (cellsOf ns).set (j * 4 + 2) (.slice A l c) = cellsOf (ns.set j { x with adr := A, len := l, cap := c }) := by
  induction ns generalizing j with
  | nil => simp at h
  | cons y r ih =>
    unfold cellsOf at ih ⊢
    rw [List.flatMap_cons]
    cases j with
    | zero =>
      obtain rfl : y = x := by simpa using h
      simp [Nd.cells]
    | succ j =>
      have := ih (j := j) (by simpa using h)
      rw [List.set_append_right _ _ (by simp [Nd.cells]; omega), List.set_cons_succ, List.flatMap_cons, ← this]
      simp [Nd.cells]
      congr 1
      omega

end Go.Proofs.Ytlbipmlbkcdmnaa
