/-
  The law's own 'known' answers true, and writes nothing that was there.
-/
import Derived.Test.YteejjgnpjkldiaaB
import Derived.Laws.BytesArg
import Derived.Lib.SlBytesConst
import Derived.RegionCalls
import Derived.BigQuiet
namespace Go.Proofs.Yteejjgnpjkldiaa
open Go.RowKit

/-- A list of bytes that is read as a string. -/
theorem run_str {w : World} {A : Option Addr} {n c : Nat} {xs : List Int} (h : Rd w .u8 A n xs) : (convert 22 9 (.slice A n c)).run Try.prog w = .ok (.string (strOfNums xs)) w := by
  cases A with
  | none =>
    have h0 : n = 0 := by
      rcases Nat.eq_zero_or_pos n with h0 | h0
      · exact h0
      · obtain ⟨ad, hA, _⟩ := h.2 0 h0; cases hA
    have hx : xs = [] := List.eq_nil_of_length_eq_zero (h.1.trans h0)
    subst hx
    exact run_convert_bytes_nil w 22 5 Try.underlying22 Try.underlying5 n c 9 Try.underlying9
  | some ad =>
    have hl := run_loadCells_list (P := Try.prog) w ad (xs.map (Value.int .u8)) (fun j v hj => by
      obtain ⟨ad', hA, hc⟩ := cells_of_rd h j v hj
      cases hA
      exact hc)
    rw [List.length_map, h.1] at hl
    rw [run_convert_bytes_string w 22 9 5 _ n c Try.underlying22 Try.underlying5 Try.underlying9, run_bytesToString w ad n c xs hl, foldl_push_bytes]
    simp [strOfNums, ByteArray.empty, ByteArray.emptyWithCapacity]
    rfl

theorem snk_alloc {w : World} {B g : Nat} {A : Option Addr} {c : Nat} {xs : List Int} {left : Nat} (h : Snk w B g A c xs left) (o : Obj) : Snk (w.alloc o) B g A c xs left :=
  ⟨(Below.heap_alloc w o g (Array.getElem?_eq_some_iff.1 h.1).1).trans h.1, h.2.alloc o⟩

theorem Snk.below {w w' : World} {B g : Nat} {A : Option Addr} {c : Nat} {xs : List Int} {left : Nat} (h : Snk w B g A c xs left) (hb : Below w.heap.size w w') : Snk w' B g A c xs left :=
  ⟨(hb.block g (Array.getElem?_eq_some_iff.1 h.1).1).trans h.1, h.2.kept (row := none) ⟨hb.os, hb.tape, hb.output, hb.size, fun k hk _ => hb.block k hk⟩ (by cases (Value.slice A xs.length c).ownBlock <;> simp)⟩

theorem Snk.row {w : World} {B g : Nat} {A : Option Addr} {c : Nat} {xs : List Int} {left : Nat} (h : Snk w B g A c xs left) : ∀ k, (Value.slice A xs.length c).ownBlock = some k → B ≤ k :=
  fun k hk => (h.2.lt k hk).1

theorem abcde_rd (w : World) : Rd (w.alloc (.cells #[.int .u8 97, .int .u8 98, .int .u8 99, .int .u8 100, .int .u8 101] 5 (5, 6))) .u8 (some ⟨w.heap.size, 0, none⟩) 5 [97, 98, 99, 100, 101] := by
  refine ⟨rfl, fun j hj => ⟨_, rfl, ?_⟩⟩
  have hh := heap_alloc_new w (.cells #[.int .u8 97, .int .u8 98, .int .u8 99, .int .u8 100, .int .u8 101] 5 (5, 6))
  rw [Addr.add_lit, Nat.zero_add, cell_of_row _ _ j _ _ _ hh]
  rcases j with _ | _ | _ | _ | _ | j
  all_goals first | rfl | omega

set_option maxHeartbeats 400000 in
theorem known_any (w : World) : Calls Try.prog 7 #[] w fun e w' => e = .returned (.bool true) ∧ Below w.heap.size w w' := by
  go_enter Try.func7, Try.ntmps7
  go_wp2_with fail
  refine (new_any 3 _).mono ?_
  rintro e w1 ⟨rfl, hw1⟩
  have hS1 : Snk w1 w.heap.size w.heap.size none 0 [] 3 := by rw [hw1]; exact snk_new
  have hB1 : Below w.heap.size w w1 := by rw [hw1]; exact (Below.refl _ w).alloc (Nat.le_refl _) _
  clear hw1
  have kc := fun (w : World) (C : Array Value) (n c : Nat) => Lib.run_convert_bytes_const (P := Try.prog) w 22 5 C n c Try.underlying22 Try.underlying5
  go_wp2_with fail
  refine (write_full w.heap.size w.heap.size none 0 [] 3 _ 5 5 [97, 98, 99, 100, 101] _ (snk_alloc hS1 _) (by have := hB1.size; simp; omega) (by omega) (abcde_rd w1) (by omega) (by decide)).mono ?_
  rintro e w2 ⟨rfl, A2, c2, hS2, hO2, -⟩
  have hB2 : Below w.heap.size w w2 := (hB1.alloc hB1.size _).trans (hO2.below (by have := hB1.size; simp; omega) (Nat.le_refl _) (by intro k hk; cases hk))
  clear hO2 hS1 hB1 kc
  go_wp2_with fail
  refine (bytes_any hS2 (by decide)).mono ?_
  rintro e w3 ⟨A3, c3, rfl, hR3, hB3⟩
  have hS3 := hS2.below hB3
  have hstr : (convert 22 9 (.slice A3 3 c3)).run Try.prog w3 = .ok (.string { data := #[97, 98, 99] }) w3 := run_str hR3
  clear hS2
  go_wp2_with fail
  refine (left_any hS3).mono ?_
  rintro e w4 ⟨rfl, rfl⟩
  go_wp2_with fail
  go_ret
  exact ⟨rfl, hB2.trans (hB3.mono hB2.size)⟩

/-- A sink whose row is nil may be said to own one from any block on. -/
theorem Snk.rebase {w : World} {B R g c left : Nat} (h : Snk w B g none c [] left) : Snk w R g none 0 [] left := by
  have hc : c = 0 := by
    rcases h.2.2 with ⟨hv, _⟩ | ⟨g', cap, cur, hv, _⟩
    · injection hv
    · injection hv with hA _ _
      cases hA
  subst hc
  exact ⟨h.1, World.ownsRow_nil _ _ _ _⟩

/-- Another sink is written: this one stays. -/
theorem Snk.other {w w' : World} {B g g' c left : Nat} {A : Option Addr} {xs : List Int} {row : Option Nat} (h : Snk w B g A c xs left) (ho : Only2 w w' g' row) (h1 : g ≠ g')
    (h2 : some g ≠ row) (h3 : ∀ k, (Value.slice A xs.length c).ownBlock = some k → k ≠ g' ∧ some k ≠ row) : Snk w' B g A c xs left := by
  refine ⟨(ho.block g (Array.getElem?_eq_some_iff.1 h.1).1 h1 h2).trans h.1, ?_⟩
  obtain ⟨hl, hr⟩ := h.2
  refine ⟨hl, ?_⟩
  rcases hr with hr | ⟨k, cap, cur, hv, hk, hh, hrest⟩
  · exact .inl hr
  · have hkk := h3 k (by rw [hv]; rfl)
    exact .inr ⟨k, cap, cur, hv, hk, (ho.block k (Array.getElem?_eq_some_iff.1 hh).1 hkk.1 hkk.2).trans hh, hrest⟩

end Go.Proofs.Yteejjgnpjkldiaa
