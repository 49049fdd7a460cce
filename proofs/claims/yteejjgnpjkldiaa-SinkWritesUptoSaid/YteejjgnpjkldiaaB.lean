/-
  The sink's functions: New, Left, Write: what each answers, and what lies in memory behind the call.
-/
import Derived.Test.YteejjgnpjkldiaaA
import Derived.Lib.SliceRun
namespace Go.Proofs.Yteejjgnpjkldiaa
open Go.RowKit

set_option maxHeartbeats 400000 in
theorem new_any (r : Int) (w : World) : Calls Try.prog 8 #[.int .i64 r] w fun e w' =>
    e = .returned (.pointer (some ⟨w.heap.size, 0, none⟩)) ∧ w' = w.alloc (.cells #[.slice none 0 0, .int .i64 (r.toNat : Int)] 39) := by
  by_cases h : 0 < r
  · have h2 : ((r.toNat : Nat) : Int) = r := by omega
    rw [h2]; clear h2
    go_enter Try.func8, Try.ntmps8
    go_wp2
    go_ret
    exact ⟨rfl, rfl⟩
  · have h2 : ((r.toNat : Nat) : Int) = 0 := by omega
    rw [h2]; clear h2
    by_cases h0 : r = 0
    · subst h0
      go_enter Try.func8, Try.ntmps8
      go_wp2
      go_ret
      exact ⟨rfl, rfl⟩
    · have h3 : r < 0 := by omega
      clear h h0
      go_enter Try.func8, Try.ntmps8
      go_wp2
      go_ret
      exact ⟨rfl, rfl⟩

theorem snk_new {w : World} {B n : Nat} : Snk (w.alloc (.cells #[.slice none 0 0, .int .i64 (n : Int)] 39)) B w.heap.size none 0 [] n :=
  ⟨heap_alloc_new w _, World.ownsRow_nil _ _ _ _⟩

set_option maxHeartbeats 400000 in
theorem left_any {w : World} {B g : Nat} {A : Option Addr} {c : Nat} {xs : List Int} {left : Nat} (hS : Snk w B g A c xs left) :
    Calls Try.prog 11 #[.pointer (some ⟨g, 0, none⟩)] w fun e w' => e = .returned (.int .i64 left) ∧ w = w' := by
  obtain ⟨hc, hown⟩ := hS
  have c1 : w.cell? ⟨g, 1, none⟩ = some (.int .i64 left) := by simp [World.cell?, hc]
  clear hc hown
  go_enter Try.func11, Try.ntmps11
  go_wp2
  go_ret
  exact ⟨rfl, rfl⟩

theorem take_cells {w : World} {D : Option Addr} {n k : Nat} {bs : List Int} (hb : Rd w .u8 D n bs) (hk : k ≤ n) :
    ∀ j u, ((bs.take k).map (Value.int .u8))[j]? = some u → ∃ ad, D = some ad ∧ w.cell? (ad.add j) = some u := by
  intro j u hu
  have hj : j < k := by
    have := (List.getElem?_eq_some_iff.1 hu).1
    simp at this; omega
  obtain ⟨ad, hD, hc⟩ := hb.2 j (by omega)
  refine ⟨ad, hD, hc.trans ?_⟩
  have hl := hb.1
  rw [← hu]
  simp [hj, show j < bs.length by omega]

theorem u8_oneCell (zs : List Int) : ∀ u ∈ zs.map (Value.int .u8), u.oneCell' = true := by
  intro u hu
  obtain ⟨_, _, rfl⟩ := List.mem_map.1 hu
  rfl

set_option maxHeartbeats 400000 in
theorem write_full (B g : Nat) (A : Option Addr) (c : Nat) (xs : List Int) (left : Nat) (D : Option Addr) (n cd : Nat) (bs : List Int) (w : World)
    (hS : Snk w B g A c xs left) (hB : B ≤ w.heap.size) (hlt : left < n) (hb : Rd w .u8 D n bs) (hn : n ≤ cd) (hbd : xs.length + n ≤ 1000000) :
    Calls Try.prog 9 #[.pointer (some ⟨g, 0, none⟩), .slice D n cd] w fun e w' =>
      e = .returned (.tuple #[.int .i64 left, .int .u16 20]) ∧ ∃ A' c', Snk w' B g A' c' (xs ++ bs.take left) (left - left) ∧ Only2 w w' g (Value.slice A xs.length c).ownBlock ∧ ∀ m, FreshOr w (Value.slice A xs.length c).ownBlock (Value.slice A' m c').ownBlock := by
  obtain ⟨i0, hi, hz0, hz1, hz2⟩ := info_parts Try.info5
  have HS := Lib.hid hS
  obtain ⟨hc, hown⟩ := hS
  have c0 : w.cell? ⟨g, 0, none⟩ = some (.slice A xs.length c) := by simp [World.cell?, hc]
  have c1 : w.cell? ⟨g, 1, none⟩ = some (.int .i64 left) := by simp [World.cell?, hc]
  have f0 : w.frozen? ⟨g, 0, none⟩ = false := by simp [World.frozen?, hc]
  have f1 : w.frozen? ⟨g, 1, none⟩ = false := by simp [World.frozen?, hc]
  have hgl : g < w.heap.size := (Array.getElem?_eq_some_iff.1 hc).1
  have hne := own_ne hown hc (by decide)
  have HT := Lib.hid (take_cells hb (k := left) (by omega))
  have hlen := Lib.hid (show (bs.take left).length = left by have := hb.1; simp; omega)
  have HC := Lib.hid hc; clear hc
  have hle : (left : Int) ≤ (cd : Int) := by omega
  have hlt' : (left : Int) < (n : Int) := by omega
  have HO := Lib.hid hown; clear hown
  have HN := Lib.hid hne; clear hne
  have HB := Lib.hid hb; clear hb
  go_enter Try.func9, Try.ntmps9
  go_wp2_with fail
  go_region_law (refine step_append_own rfl (.tmp 20) (.tmp 24) 22 rfl B 5 i0 (.int .u8 0) 1 1 Try.underlying22 hi hz0 hz1 hz2 rfl (by decide) (.slice A xs.length c) xs.length (xs.map (Value.int .u8)) (by simp [Act.eval]) HO.out.drew D left left ((bs.take left).map (Value.int .u8)) (by simp [Act.eval]) (by simpa using hlen.out) HT.out (u8_oneCell _) (by unfold maxLen; omega) (by omega) hB ?_; intro v' w' hown2 hgrow hfresh; obtain ⟨A', c', rfl⟩ := own_form hown2; have hb1 := hgrow.block g hgl HN.out; have k0 : w'.cell? ⟨g, 0, none⟩ = some (.slice A xs.length c) := (World.cell?_of_block hb1).trans c0; have k1 : w'.cell? ⟨g, 1, none⟩ = some (.int .i64 left) := (World.cell?_of_block hb1).trans c1; have e0 : w'.frozen? ⟨g, 0, none⟩ = false := (World.frozen?_of_block hb1).trans f0; have e1 : w'.frozen? ⟨g, 1, none⟩ = false := (World.frozen?_of_block hb1).trans f1; have HG := Lib.hid hgrow; clear hgrow; have HF := Lib.hid hfresh; clear hfresh; have HO2 := Lib.hid hown2; clear hown2; clear hb1)
  all_goals go_wp2
  all_goals go_ret2
  all_goals exact ⟨rfl, A', c', (snk_after HS.out HG.out HO2.out hlen.out (by omega)).1, (snk_after HS.out HG.out HO2.out hlen.out (by omega)).2, fun m => by cases A' <;> exact HF.out⟩

set_option maxHeartbeats 400000 in
theorem write_fits (B g : Nat) (A : Option Addr) (c : Nat) (xs : List Int) (left : Nat) (D : Option Addr) (n cd : Nat) (bs : List Int) (w : World)
    (hS : Snk w B g A c xs left) (hB : B ≤ w.heap.size) (hlt : n ≤ left) (hb : Rd w .u8 D n bs) (hn : n ≤ cd) (hbd : xs.length + n ≤ 1000000) (hm : left ≤ 9223372036854775807) :
    Calls Try.prog 9 #[.pointer (some ⟨g, 0, none⟩), .slice D n cd] w fun e w' =>
      e = .returned (.tuple #[.int .i64 n, .int .u16 0]) ∧ ∃ A' c', Snk w' B g A' c' (xs ++ bs.take n) (left - n) ∧ Only2 w w' g (Value.slice A xs.length c).ownBlock ∧ ∀ m, FreshOr w (Value.slice A xs.length c).ownBlock (Value.slice A' m c').ownBlock := by
  obtain ⟨i0, hi, hz0, hz1, hz2⟩ := info_parts Try.info5
  have HS := Lib.hid hS
  obtain ⟨hc, hown⟩ := hS
  have c0 : w.cell? ⟨g, 0, none⟩ = some (.slice A xs.length c) := by simp [World.cell?, hc]
  have c1 : w.cell? ⟨g, 1, none⟩ = some (.int .i64 left) := by simp [World.cell?, hc]
  have f0 : w.frozen? ⟨g, 0, none⟩ = false := by simp [World.frozen?, hc]
  have f1 : w.frozen? ⟨g, 1, none⟩ = false := by simp [World.frozen?, hc]
  have hgl : g < w.heap.size := (Array.getElem?_eq_some_iff.1 hc).1
  have hne := own_ne hown hc (by decide)
  have HT := Lib.hid (take_cells hb (k := n) (by omega))
  have hlen := Lib.hid (show (bs.take n).length = n by have := hb.1; simp; omega)
  have HC := Lib.hid hc; clear hc
  have hle : (n : Int) ≤ (cd : Int) := by omega
  have hlt' : ¬ (left : Int) < (n : Int) := by omega
  have HO := Lib.hid hown; clear hown
  have HN := Lib.hid hne; clear hne
  have HB := Lib.hid hb; clear hb
  go_enter Try.func9, Try.ntmps9
  go_wp2_with fail
  go_region_law (refine step_append_own rfl (.tmp 20) (.tmp 24) 22 rfl B 5 i0 (.int .u8 0) 1 1 Try.underlying22 hi hz0 hz1 hz2 rfl (by decide) (.slice A xs.length c) xs.length (xs.map (Value.int .u8)) (by simp [Act.eval]) HO.out.drew D n n ((bs.take n).map (Value.int .u8)) (by simp [Act.eval]) (by simpa using hlen.out) HT.out (u8_oneCell _) (by unfold maxLen; omega) (by omega) hB ?_; intro v' w' hown2 hgrow hfresh; obtain ⟨A', c', rfl⟩ := own_form hown2; have hb1 := hgrow.block g hgl HN.out; have k0 : w'.cell? ⟨g, 0, none⟩ = some (.slice A xs.length c) := (World.cell?_of_block hb1).trans c0; have k1 : w'.cell? ⟨g, 1, none⟩ = some (.int .i64 left) := (World.cell?_of_block hb1).trans c1; have e0 : w'.frozen? ⟨g, 0, none⟩ = false := (World.frozen?_of_block hb1).trans f0; have e1 : w'.frozen? ⟨g, 1, none⟩ = false := (World.frozen?_of_block hb1).trans f1; have HG := Lib.hid hgrow; clear hgrow; have HF := Lib.hid hfresh; clear hfresh; have HO2 := Lib.hid hown2; clear hown2; clear hb1)
  all_goals go_wp2
  all_goals go_ret2
  all_goals exact ⟨rfl, A', c', (snk_after HS.out HG.out HO2.out hlen.out (by omega)).1, (snk_after HS.out HG.out HO2.out hlen.out (by omega)).2, fun m => by cases A' <;> exact HF.out⟩

/-- Write, whatever is written, in whatever room. -/
theorem write_any (B g : Nat) (A : Option Addr) (c : Nat) (xs : List Int) (left : Nat) (D : Option Addr) (n cd : Nat) (bs : List Int) (w : World)
    (hS : Snk w B g A c xs left) (hB : B ≤ w.heap.size) (hb : Rd w .u8 D n bs) (hn : n ≤ cd) (hbd : xs.length + n ≤ 1000000) (hm : left ≤ 9223372036854775807) :
    Calls Try.prog 9 #[.pointer (some ⟨g, 0, none⟩), .slice D n cd] w fun e w' =>
      e = .returned (.tuple #[.int .i64 ((min n left : Nat) : Int), .int .u16 (if left < n then 20 else 0)]) ∧
        ∃ A' c', Snk w' B g A' c' (xs ++ bs.take left) (left - n) ∧ Only2 w w' g (Value.slice A xs.length c).ownBlock ∧ ∀ m, FreshOr w (Value.slice A xs.length c).ownBlock (Value.slice A' m c').ownBlock := by
  by_cases h : left < n
  · refine (write_full B g A c xs left D n cd bs w hS hB h hb hn hbd).mono fun e w' ⟨he, A', c', h1, h2, h3⟩ => ⟨?_, A', c', ?_, h2, h3⟩
    · rw [he, if_pos h, Nat.min_eq_right (by omega)]
    · rw [show left - n = left - left by omega]; exact h1
  · refine (write_fits B g A c xs left D n cd bs w hS hB (by omega) hb hn hbd hm).mono fun e w' ⟨he, A', c', h1, h2, h3⟩ => ⟨?_, A', c', ?_, h2, h3⟩
    · rw [he, if_neg h, Nat.min_eq_left (by omega)]
    · have := hb.1
      rw [List.take_of_length_le (by omega)] at h1 ⊢
      exact h1

theorem cells_of_rd {w : World} {D : Option Addr} {n : Nat} {bs : List Int} (hb : Rd w .u8 D n bs) :
    ∀ j u, (bs.map (Value.int .u8))[j]? = some u → ∃ ad, D = some ad ∧ w.cell? (ad.add j) = some u := by
  have h := take_cells hb (Nat.le_refl n)
  rwa [List.take_of_length_le (by have := hb.1; omega)] at h

theorem rd_of_own {w : World} {B : Nat} {A : Option Addr} {n c : Nat} {xs : List Int} (h : w.ownsRow B 5 1 (.slice A n c) n (xs.map (Value.int .u8))) : Rd w .u8 A n xs := by
  have hl : xs.length = n := by simpa using h.1
  refine ⟨hl, fun j hj => ?_⟩
  rcases h.2 with ⟨_, h0⟩ | ⟨g, cap, cur, hv, _⟩
  · omega
  · injection hv with hA _ _
    subst hA
    refine ⟨⟨g, 0, none⟩, rfl, h.cells (g := g) rfl j _ ?_⟩
    simp [show j < xs.length by omega]

theorem Rd.below {w w' : World} {k : IntKind} {A : Option Addr} {n : Nat} {xs : List Int} (h : Rd w k A n xs) (hb : Below w.heap.size w w') : Rd w' k A n xs :=
  ⟨h.1, fun j hj => by
    obtain ⟨ad, hA, hc⟩ := h.2 j hj
    exact ⟨ad, hA, (hb.cell (World.block_lt_of_cell? w _ hc)).trans hc⟩⟩

set_option maxHeartbeats 400000 in
/-- slices.Clone at bytes. -/
theorem clone_any {w : World} {A : Option Addr} {n c : Nat} {xs : List Int} (h : Rd w .u8 A n xs) (hn : n ≤ 1000000) :
    Calls Try.prog 13 #[.slice A n c] w fun e w' => ∃ A' c', e = .returned (.slice A' n c') ∧ Rd w' .u8 A' n xs ∧ Below w.heap.size w w' := by
  cases A with
  | none =>
    have h0 : n = 0 := by
      rcases Nat.eq_zero_or_pos n with h0 | h0
      · exact h0
      · obtain ⟨ad, hA, _⟩ := h.2 0 h0; cases hA
    subst h0
    have hrun := fun W : World => Lib.run_eql_slice_nil (P := Try.prog) W 22 5 none 0 c 0 0 Try.underlying22
    have HH := Lib.hid h; clear h
    go_enter Try.func13, Try.ntmps13
    go_wp2
    go_ret
    exact ⟨none, 0, rfl, HH.out, Below.refl _ _⟩
  | some ad =>
    obtain ⟨i0, hi, hz0, hz1, hz2⟩ := info_parts Try.info5
    have hrun := fun W : World => Lib.run_eql_slice_nil (P := Try.prog) W 22 5 (some ad) n c 0 0 Try.underlying22
    have HH := Lib.hid h; clear h
    go_enter Try.func13, Try.ntmps13
    go_wp2_with (at_builtin; refine wpList_append_own _ rfl _ _ 22 rfl w.heap.size 5 i0 (.int .u8 0) 1 1 Try.underlying22 hi hz0 hz1 hz2 rfl (by decide) _ 0 [] rfl (World.ownsRow_made w #[] 0 (Nat.le_refl _) (by simp [maxLen]) rfl) ad n c (xs.map (Value.int .u8)) rfl (by simpa using HH.out.1) (fun j u hu => by obtain ⟨ad', hA, hc⟩ := cells_of_rd HH.out j u hu; cases hA; exact (Below.cell ((Below.refl _ w).alloc (Nat.le_refl _) _) (World.block_lt_of_cell? w _ hc)).trans hc) (u8_oneCell xs) (by unfold maxLen; omega) (by omega) (by simp) ?_; intro v' w1 hown1 hgrow1 _; simp only [Nat.zero_add, List.nil_append] at hown1; obtain ⟨A', c', rfl⟩ := own_form hown1)
    go_ret
    exact ⟨A', c', rfl, rd_of_own hown1, ((Below.refl _ w).alloc (Nat.le_refl _) _).grown hgrow1 (by simp) (fun k e => Nat.le_of_eq (Option.some.inj e))⟩

theorem snk_rd {w : World} {B g : Nat} {A : Option Addr} {c : Nat} {xs : List Int} {left : Nat} (hS : Snk w B g A c xs left) : Rd w .u8 A xs.length xs := rd_of_own hS.2

set_option maxHeartbeats 400000 in
theorem bytes_any {w : World} {B g : Nat} {A : Option Addr} {c : Nat} {xs : List Int} {left : Nat} (hS : Snk w B g A c xs left) (hn : xs.length ≤ 1000000) :
    Calls Try.prog 10 #[.pointer (some ⟨g, 0, none⟩)] w fun e w' => ∃ A' c', e = .returned (.slice A' xs.length c') ∧ Rd w' .u8 A' xs.length xs ∧ Below w.heap.size w w' := by
  have HR := Lib.hid (snk_rd hS)
  obtain ⟨hc, hown⟩ := hS
  have c0 : w.cell? ⟨g, 0, none⟩ = some (.slice A xs.length c) := by simp [World.cell?, hc]
  clear hc hown
  go_enter Try.func10, Try.ntmps10
  go_wp2_with (go_at_call 13; refine (clone_any HR.out hn).mono ?_; rintro e w1 ⟨A', c', rfl, hr1, hb1⟩; have HR1 := Lib.hid hr1; clear hr1; have HB1 := Lib.hid hb1; clear hb1)
  go_ret
  exact ⟨A', c', rfl, HR1.out, HB1.out⟩

end Go.Proofs.Yteejjgnpjkldiaa
