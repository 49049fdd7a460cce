/-
  The walk of the law SinkNone.
-/
import Derived.Test.YteejjgnpjkldiaaC
namespace Go.Proofs.Yteejjgnpjkldiaa
open Go.RowKit

/-- What the walk is told of a slice of integers that came in. -/
def IsRow (k : IntKind) (w : World) (a : Option Addr) (len cap : Nat) (zs : List Int) : Prop :=
  (a = none ∧ len = 0 ∧ cap = 0 ∧ zs = []) ∨
  ∃ x, a = some x ∧ len ≤ cap ∧ cap ≤ maxLen ∧ zs.length = cap ∧ (∀ i, i < zs.length → w.cell? (x.add i) = some (.int k (zs.getD i 0))) ∧ ∀ n ∈ zs, (Lit.int k n).wf = true

theorem IsRow.rd {k : IntKind} {w : World} {a : Option Addr} {len cap : Nat} {zs : List Int} (h : IsRow k w a len cap zs) : Rd w k a len (zs.take len) ∧ len ≤ cap ∧ len ≤ 9223372036854775807 := by
  rcases h with ⟨rfl, rfl, rfl, rfl⟩ | ⟨x, rfl, hl, hm, hz, hc, _⟩
  · exact ⟨⟨rfl, fun j hj => absurd hj (by omega)⟩, by omega, by omega⟩
  · refine ⟨⟨by simp; omega, fun j hj => ⟨x, rfl, ?_⟩⟩, hl, by unfold maxLen at hm; omega⟩
    rw [hc j (by omega)]
    simp [hj]

theorem rd_nil (w : World) (k : IntKind) : Rd w k none 0 [] := ⟨rfl, fun j hj => absurd hj (by omega)⟩

set_option maxHeartbeats 4000000 in
theorem none_walk (r : Int) (D : Option Addr) (n cd : Nat) (bs : List Int) (w : World) (hb : Rd w .u8 D n bs) (hn : n ≤ cd) (hm : n ≤ 9223372036854775807) :
    Calls Try.prog 6 #[.int .i64 r, .slice D n cd] w fun e w' => e = .returned (.bool true) ∧ Below w.heap.size w w' := by
  by_cases hbig : 300 < n
  · have h1 : (300 : Int) < (n : Int) := by omega
    go_enter Try.func6, Try.ntmps6
    go_wp2_with (go_at_call 7; refine (known_any _).mono ?_; rintro e w1 ⟨rfl, hB1⟩)
    go_ret
    exact ⟨rfl, hB1⟩
  · have h1 : ¬ (300 : Int) < (n : Int) := by omega
    rcases (show 0 < r ∨ r = 0 ∨ r < 0 by omega) with hr | rfl | hr
    all_goals rcases Nat.eq_zero_or_pos n with rfl | h0
    all_goals
      try have hz : ((n : Int) == 0) = false := by simp; omega
      go_enter Try.func6, Try.ntmps6
      go_wp2_with fail
      refine (new_any _ _).mono ?_
      rintro e w1 ⟨rfl, hw1⟩
      have hS1 : Snk w1 w.heap.size w.heap.size none 0 [] 0 := by rw [hw1, Int.toNat_of_nonpos (by omega)]; exact snk_new
      have hB1 : Below w.heap.size w w1 := by rw [hw1]; exact (Below.refl _ w).alloc (Nat.le_refl _) _
      clear hw1
      go_wp2_with fail
      refine (write_any w.heap.size w.heap.size none 0 [] 0 D _ cd bs w1 hS1 hB1.size (hb.below hB1) hn (by simp <;> omega) (by omega)).mono ?_
      rintro e w2 ⟨rfl, A2, c2, hS2, hO2, -⟩
      have hB2 : Below w.heap.size w w2 := hB1.trans (hO2.below hB1.size (Nat.le_refl _) (by intro k hk; cases hk))
      clear hO2 hS1 hB1
      rw [List.take_zero, List.append_nil, Nat.zero_sub] at hS2
      go_wp2_with fail
      refine (write_any w.heap.size w.heap.size A2 c2 [] 0 none 0 0 [] w2 hS2 hB2.size (rd_nil _ _) (by omega) (by simp) (by omega)).mono ?_
      rintro e w3 ⟨rfl, A3, c3, hS3, hO3, -⟩
      have hB3 : Below w.heap.size w w3 := hB2.trans (hO3.below hB2.size (Nat.le_refl _) hS2.row)
      rw [List.take_zero, List.append_nil, Nat.zero_sub] at hS3
      clear hO3 hS2 hB2
      go_wp2_with fail
      refine (known_any _).mono ?_
      rintro e w4 ⟨rfl, hB4⟩
      have hS4 := hS3.below hB4
      have hB5 := hB3.trans (hB4.mono hB3.size)
      clear hS3 hB3 hB4
      go_wp2_with fail
      refine (bytes_any hS4 (by decide)).mono ?_
      rintro e w5 ⟨A5, c5, rfl, hR5, hB6⟩
      have hS5 := hS4.below hB6
      have hB7 := hB5.trans (hB6.mono hB5.size)
      clear hS4 hB5 hB6 hR5
      go_wp2_with fail
      refine (left_any hS5).mono ?_
      rintro e w6 ⟨rfl, rfl⟩
      go_wp2_with fail
      go_ret
      exact ⟨rfl, hB7⟩

end Go.Proofs.Yteejjgnpjkldiaa
