/-
  The walk of the law SinkPieces.
-/
import Derived.Test.YteejjgnpjkldiaaL
import Derived.Test.YteejjgnpjkldiaaO
namespace Go.Proofs.Yteejjgnpjkldiaa
open Go.RowKit

theorem Rd.back {w : World} {k : IntKind} {D : Option Addr} {n i : Nat} {bs : List Int} (h : Rd w k D n bs) (hi : i ≤ n) {D' : Option Addr} (hD : i < n → ∀ ad, D = some ad → ∃ ad', D' = some ad' ∧ ∀ j, ad'.add j = ad.add (i + j)) : Rd w k D' (n - i) (bs.drop i) := by
  refine ⟨by have := h.1; simp; omega, fun j hj => ?_⟩
  obtain ⟨ad, hA, hc⟩ := h.2 (i + j) (by omega)
  obtain ⟨ad', hA', he⟩ := hD (by omega) ad hA
  refine ⟨ad', hA', ?_⟩
  rw [he, hc]
  simp

/-- Write, of which only what lies in memory behind it is asked. -/
theorem write_some (B g : Nat) (A : Option Addr) (c : Nat) (xs : List Int) (left : Nat) (D : Option Addr) (n cd : Nat) (bs : List Int) (w : World)
    (hS : Snk w B g A c xs left) (hB : B ≤ w.heap.size) (hb : Rd w .u8 D n bs) (hn : n ≤ cd) (hbd : xs.length + n ≤ 1000000) (hm : left ≤ 9223372036854775807) :
    Calls Try.prog 9 #[.pointer (some ⟨g, 0, none⟩), .slice D n cd] w fun e w' =>
      ∃ x y A' c', e = .returned (.tuple #[.int .i64 x, .int .u16 y]) ∧ Snk w' B g A' c' (xs ++ bs.take left) (left - n) ∧ Only2 w w' g (Value.slice A xs.length c).ownBlock :=
  (write_any B g A c xs left D n cd bs w hS hB hb hn hbd hm).mono fun _ _ ⟨he, A', c', h1, h2, _⟩ => ⟨_, _, A', c', he, h1, h2⟩

theorem pieces_eq (bs : List Int) (i r : Nat) (hi : i ≤ bs.length) : (bs.take i).take r ++ (bs.drop i).take (r - i) = bs.take r := by
  have h := List.take_append (l₁ := bs.take i) (l₂ := bs.drop i) (i := r)
  rw [List.take_append_drop] at h
  rw [h, List.length_take, Nat.min_eq_left hi]

set_option maxHeartbeats 4000000 in
theorem pieces_walk (r k : Nat) (D : Option Addr) (n cd : Nat) (bs : List Int) (w : World) (hb : Rd w .u8 D n bs) (hn : n ≤ cd) (hr : r ≤ 255) (hk : k ≤ 255) :
    Calls Try.prog 3 #[.slice D n cd, .int .u8 r, .int .u8 k] w fun e w' => e = .returned (.bool true) ∧ Below w.heap.size w w' := by
  by_cases hbig : 300 < n
  · have h1 : (300 : Int) < (n : Int) := by omega
    go_enter Try.func3, Try.ntmps3
    go_wp2_with (go_at_call 7; refine (known_any _).mono ?_; rintro e w1 ⟨rfl, hB1⟩)
    go_ret
    exact ⟨rfl, hB1⟩
  · have h1 : ¬ (300 : Int) < (n : Int) := by omega
    have hr' : (r : Int) ≤ 255 := by omega
    have hk' : (k : Int) ≤ 255 := by omega
    go_enter Try.func3, Try.ntmps3
    go_wp2_with fail
    refine (new_any _ _).mono ?_
    rintro e w1 ⟨rfl, hw1⟩
    have hS1 : Snk w1 w.heap.size w.heap.size none 0 [] r := by rw [hw1]; exact snk_new
    have hB1 : Below w.heap.size w w1 := by rw [hw1]; exact (Below.refl _ w).alloc (Nat.le_refl _) _
    have hz1 : w1.heap.size = w.heap.size + 1 := by rw [hw1]; simp
    clear hw1
    have HZ1 := Lib.hid hz1; clear hz1
    go_wp2_with fail
    refine (new_any _ _).mono ?_
    rintro e w2 ⟨rfl, hw2⟩
    have hT2 : Snk w2 w1.heap.size w1.heap.size none 0 [] r := by rw [hw2]; exact snk_new
    have hS2 : Snk w2 w.heap.size w.heap.size none 0 [] r := by rw [hw2]; exact snk_alloc hS1 _
    have hB2 : Below w.heap.size w w2 := by rw [hw2]; exact hB1.alloc hB1.size _
    clear hw2 hS1 hB1
    have h2 : (0 : Int) ≤ (k : Int) % ((n : Int) + 1) := Int.emod_nonneg _ (by omega)
    have h3 : (k : Int) % ((n : Int) + 1) ≤ (n : Int) := by have := Int.emod_lt_of_pos (k : Int) (show (0 : Int) < (n : Int) + 1 by omega); omega
    have h4 : (k : Int) % ((n : Int) + 1) ≤ (cd : Int) := by omega
    have h5 : k % (n + 1) ≤ n := Nat.le_of_lt_succ (Nat.mod_lt k (Nat.succ_pos n))
    go_wp2_with fail
    refine (write_some w.heap.size w.heap.size none 0 [] r D n cd bs w2 hS2 hB2.size (hb.below hB2) hn (by simp; omega) (by omega)).mono ?_
    rintro e w3 ⟨x3, y3, A3, c3, rfl, hS3, hO3⟩
    have hT3 := (hT2.other hO3 (by have := HZ1.out; omega) (by simp [Value.ownBlock]) (by intro k hk; cases hk)).rebase (R := w3.heap.size)
    have hB3 : Below w.heap.size w w3 := hB2.trans (hO3.below hB2.size (Nat.le_refl _) (by intro k hk; cases hk))
    have hz3 : w.heap.size + 1 < w3.heap.size := by have := hO3.size; have := (Array.getElem?_eq_some_iff.1 hT2.1).1; have := HZ1.out; omega
    clear hO3 hS2 hB2 hT2
    go_wp2_with fail
    refine (write_some w3.heap.size w1.heap.size none 0 [] r D (k % (n + 1)) cd _ w3 hT3 (Nat.le_refl _) ((hb.below hB3).front h5) (by omega) (by simp; omega) (by omega)).mono ?_
    rintro e w4 ⟨x4, y4, A4, c4, rfl, hT4, hO4⟩
    have hS4 := hS3.other hO4 (by have := HZ1.out; omega) (by simp [Value.ownBlock]) (fun j hj => ⟨fun e => own_ne hS3.2 hT3.1 (by decide) (by rw [hj, e]), by simp [Value.ownBlock]⟩)
    have hB4 : Below w.heap.size w w4 := hB3.trans (hO4.below hB3.size (by have := HZ1.out; omega) (by intro k hk; cases hk))
    have hz4 := hO4.size
    have hlt3 := hS3.2.lt
    clear hO4 hS3 hT3
    have HD : Hid (Rd w .u8 (if cd = k % (n + 1) then D else Option.map (fun x : Addr => x.add (k % (n + 1))) D) (n - k % (n + 1)) (bs.drop (k % (n + 1)))) := by
      refine hb.back h5 fun hlt ad he => ?_
      rw [if_neg (by omega), he]
      exact ⟨_, rfl, fun j => Addr.add_add _ _ _⟩
    have h6 := hT4.row
    by_cases hcut : cd = k % (n + 1)
    · rw [if_pos hcut] at HD
      go_wp2_with fail
      refine (write_some w3.heap.size w1.heap.size A4 c4 _ _ D (n - k % (n + 1)) _ _ w4 hT4 hz4 (HD.out.below hB4) (by omega) (by simp; omega) (by omega)).mono ?_
      rintro e w5 ⟨x5, y5, A5, c5, rfl, hT5, hO5⟩
      have hS5 := hS4.other hO5 (by have := HZ1.out; omega) (fun e => by have := h6 _ e.symm; omega) (fun j hj => ⟨fun e => own_ne hS4.2 hT4.1 (by decide) (by rw [hj, e]), fun e => by have := h6 _ e.symm; have := (hlt3 _ hj).2; omega⟩)
      have hB5 : Below w.heap.size w w5 := hB4.trans (hO5.below hB4.size (by have := HZ1.out; omega) (fun k hk => by have := hT4.row k hk; omega))
      have hT6 : Snk w5.drew w3.heap.size w1.heap.size A5 c5 (bs.take r) (r - n) := by
        rw [← pieces_eq bs (k % (n + 1)) r (by have := hb.1; omega), show r - n = r - k % (n + 1) - (n - k % (n + 1)) by omega]
        exact hT5
      have hS6 : Snk w5.drew w.heap.size w.heap.size A3 c3 (bs.take r) (r - n) := hS5
      have hxl : (bs.take r).length ≤ 1000000 := by have := hb.1; simp; omega
      have HXL := Lib.hid hxl
      have hB6 := hB5.drew
      clear hO5 hS4 hT4 hB4 HD hT5 hS5 h6 hlt3 hb hB5 HXL
      generalize List.take r bs = ys at hT6 hS6 hxl
      generalize r - n = lf at hT6 hS6
      have HXL := Lib.hid hxl
      clear hxl
      go_wp2_with fail
      refine wp_region_ord [0, 1, 2, 5, 3, 4, 6, 7, 8, 9, 10, 11, 13, 12, 14, 15, 16, 17] [0, 3, 6, 12, 14] (by kernel_rfl) (by kernel_rfl) (by kernel_rfl) panic_put (by kernel_rfl) ?_
      refine wpOrd_call rfl rfl rfl ?_
      go_simp
      refine (known_any _).mono ?_
      rintro e w6 ⟨rfl, hB6'⟩
      refine ⟨hB6', ?_⟩
      have hS7 := hS6.below hB6'; have hT7 := hT6.below hB6'; have hB7 := hB6.trans (hB6'.mono hB6.size); clear hS6 hT6 hB6 hB6'
      repeat (first | (refine wpOrd_take (v := ?_) rfl rfl rfl (fun W hW => ?_) ?_; rotate_left; (focus (go_simp; with_reducible rfl)); simp only [Act.put, List.setIfInBounds_toArray, List.set_cons_succ, List.set_cons_zero]) | (refine wpOrd_skip rfl rfl ?_; simp only [Act.put, List.setIfInBounds_toArray, List.set_cons_succ, List.set_cons_zero]))
      refine wpOrd_call rfl rfl rfl ?_
      go_simp
      refine (bytes_any hS7 HXL.out).mono ?_
      rintro e w7 ⟨A7, c7, rfl, hR7, hB8⟩
      refine ⟨hB8, ?_⟩
      have hS8 := hS7.below hB8; have hT8 := hT7.below hB8; have hB9 := hB7.trans (hB8.mono hB7.size)
      have hstr7 : ∀ W, Below w7.heap.size w7 W → (convert 22 9 (.slice A7 ys.length c7)).run Try.prog W = .ok (.string (strOfNums ys)) W := fun W h => run_str (hR7.below h)
      clear hS7 hT7 hB7 hB8 hR7
      repeat (first | (refine wpOrd_take (v := ?_) rfl rfl rfl (fun W hW => ?_) ?_; rotate_left; (focus (go_simp; with_reducible rfl)); simp only [Act.put, List.setIfInBounds_toArray, List.set_cons_succ, List.set_cons_zero]) | (refine wpOrd_skip rfl rfl ?_; simp only [Act.put, List.setIfInBounds_toArray, List.set_cons_succ, List.set_cons_zero]))
      refine wpOrd_call rfl rfl rfl ?_
      go_simp
      refine (bytes_any hT8 HXL.out).mono ?_
      rintro e w8 ⟨A8, c8, rfl, hR8, hB10⟩
      refine ⟨hB10, ?_⟩
      have hS9 := hS8.below hB10; have hT9 := hT8.below hB10; have hB11 := hB9.trans (hB10.mono hB9.size)
      have hstr8 : ∀ W, Below w8.heap.size w8 W → (convert 22 9 (.slice A8 ys.length c8)).run Try.prog W = .ok (.string (strOfNums ys)) W := fun W h => run_str (hR8.below h)
      clear hS8 hT8 hB9 hB10 hR8
      repeat (first | (refine wpOrd_take (v := ?_) rfl rfl rfl (fun W hW => ?_) ?_; rotate_left; (focus (go_simp; with_reducible rfl)); simp only [Act.put, List.setIfInBounds_toArray, List.set_cons_succ, List.set_cons_zero]) | (refine wpOrd_skip rfl rfl ?_; simp only [Act.put, List.setIfInBounds_toArray, List.set_cons_succ, List.set_cons_zero]))
      refine wpOrd_call rfl rfl rfl ?_
      go_simp
      refine (left_any hS9).mono ?_
      rintro e w9 ⟨rfl, rfl⟩
      refine ⟨Below.refl _ _, ?_⟩
      repeat (first | (refine wpOrd_take (v := ?_) rfl rfl rfl (fun W hW => ?_) ?_; rotate_left; (focus (go_simp; with_reducible rfl)); simp only [Act.put, List.setIfInBounds_toArray, List.set_cons_succ, List.set_cons_zero]) | (refine wpOrd_skip rfl rfl ?_; simp only [Act.put, List.setIfInBounds_toArray, List.set_cons_succ, List.set_cons_zero]))
      refine wpOrd_call rfl rfl rfl ?_
      go_simp
      refine (left_any hT9).mono ?_
      rintro e w9 ⟨rfl, rfl⟩
      refine ⟨Below.refl _ _, ?_⟩
      repeat (first | (refine wpOrd_take (v := ?_) rfl rfl rfl (fun W hW => ?_) ?_; rotate_left; (focus (go_simp; with_reducible rfl)); simp only [Act.put, List.setIfInBounds_toArray, List.set_cons_succ, List.set_cons_zero]) | (refine wpOrd_skip rfl rfl ?_; simp only [Act.put, List.setIfInBounds_toArray, List.set_cons_succ, List.set_cons_zero]))
      refine wpOrd_nil ?_
      go_wp2_with fail
      go_ret
      exact ⟨rfl, hB11⟩
    · rw [if_neg hcut] at HD
      go_wp2_with fail
      refine (write_some w3.heap.size w1.heap.size A4 c4 _ _ _ (n - k % (n + 1)) _ _ w4 hT4 hz4 (HD.out.below hB4) (by omega) (by simp; omega) (by omega)).mono ?_
      rintro e w5 ⟨x5, y5, A5, c5, rfl, hT5, hO5⟩
      have hS5 := hS4.other hO5 (by have := HZ1.out; omega) (fun e => by have := h6 _ e.symm; omega) (fun j hj => ⟨fun e => own_ne hS4.2 hT4.1 (by decide) (by rw [hj, e]), fun e => by have := h6 _ e.symm; have := (hlt3 _ hj).2; omega⟩)
      have hB5 : Below w.heap.size w w5 := hB4.trans (hO5.below hB4.size (by have := HZ1.out; omega) (fun k hk => by have := hT4.row k hk; omega))
      have hT6 : Snk w5.drew w3.heap.size w1.heap.size A5 c5 (bs.take r) (r - n) := by
        rw [← pieces_eq bs (k % (n + 1)) r (by have := hb.1; omega), show r - n = r - k % (n + 1) - (n - k % (n + 1)) by omega]
        exact hT5
      have hS6 : Snk w5.drew w.heap.size w.heap.size A3 c3 (bs.take r) (r - n) := hS5
      have hxl : (bs.take r).length ≤ 1000000 := by have := hb.1; simp; omega
      have HXL := Lib.hid hxl
      have hB6 := hB5.drew
      clear hO5 hS4 hT4 hB4 HD hT5 hS5 h6 hlt3 hb hB5 HXL
      generalize List.take r bs = ys at hT6 hS6 hxl
      generalize r - n = lf at hT6 hS6
      have HXL := Lib.hid hxl
      clear hxl
      go_wp2_with fail
      refine wp_region_ord [0, 1, 2, 5, 3, 4, 6, 7, 8, 9, 10, 11, 13, 12, 14, 15, 16, 17] [0, 3, 6, 12, 14] (by kernel_rfl) (by kernel_rfl) (by kernel_rfl) panic_put (by kernel_rfl) ?_
      refine wpOrd_call rfl rfl rfl ?_
      go_simp
      refine (known_any _).mono ?_
      rintro e w6 ⟨rfl, hB6'⟩
      refine ⟨hB6', ?_⟩
      have hS7 := hS6.below hB6'; have hT7 := hT6.below hB6'; have hB7 := hB6.trans (hB6'.mono hB6.size); clear hS6 hT6 hB6 hB6'
      repeat (first | (refine wpOrd_take (v := ?_) rfl rfl rfl (fun W hW => ?_) ?_; rotate_left; (focus (go_simp; with_reducible rfl)); simp only [Act.put, List.setIfInBounds_toArray, List.set_cons_succ, List.set_cons_zero]) | (refine wpOrd_skip rfl rfl ?_; simp only [Act.put, List.setIfInBounds_toArray, List.set_cons_succ, List.set_cons_zero]))
      refine wpOrd_call rfl rfl rfl ?_
      go_simp
      refine (bytes_any hS7 HXL.out).mono ?_
      rintro e w7 ⟨A7, c7, rfl, hR7, hB8⟩
      refine ⟨hB8, ?_⟩
      have hS8 := hS7.below hB8; have hT8 := hT7.below hB8; have hB9 := hB7.trans (hB8.mono hB7.size)
      have hstr7 : ∀ W, Below w7.heap.size w7 W → (convert 22 9 (.slice A7 ys.length c7)).run Try.prog W = .ok (.string (strOfNums ys)) W := fun W h => run_str (hR7.below h)
      clear hS7 hT7 hB7 hB8 hR7
      repeat (first | (refine wpOrd_take (v := ?_) rfl rfl rfl (fun W hW => ?_) ?_; rotate_left; (focus (go_simp; with_reducible rfl)); simp only [Act.put, List.setIfInBounds_toArray, List.set_cons_succ, List.set_cons_zero]) | (refine wpOrd_skip rfl rfl ?_; simp only [Act.put, List.setIfInBounds_toArray, List.set_cons_succ, List.set_cons_zero]))
      refine wpOrd_call rfl rfl rfl ?_
      go_simp
      refine (bytes_any hT8 HXL.out).mono ?_
      rintro e w8 ⟨A8, c8, rfl, hR8, hB10⟩
      refine ⟨hB10, ?_⟩
      have hS9 := hS8.below hB10; have hT9 := hT8.below hB10; have hB11 := hB9.trans (hB10.mono hB9.size)
      have hstr8 : ∀ W, Below w8.heap.size w8 W → (convert 22 9 (.slice A8 ys.length c8)).run Try.prog W = .ok (.string (strOfNums ys)) W := fun W h => run_str (hR8.below h)
      clear hS8 hT8 hB9 hB10 hR8
      repeat (first | (refine wpOrd_take (v := ?_) rfl rfl rfl (fun W hW => ?_) ?_; rotate_left; (focus (go_simp; with_reducible rfl)); simp only [Act.put, List.setIfInBounds_toArray, List.set_cons_succ, List.set_cons_zero]) | (refine wpOrd_skip rfl rfl ?_; simp only [Act.put, List.setIfInBounds_toArray, List.set_cons_succ, List.set_cons_zero]))
      refine wpOrd_call rfl rfl rfl ?_
      go_simp
      refine (left_any hS9).mono ?_
      rintro e w9 ⟨rfl, rfl⟩
      refine ⟨Below.refl _ _, ?_⟩
      repeat (first | (refine wpOrd_take (v := ?_) rfl rfl rfl (fun W hW => ?_) ?_; rotate_left; (focus (go_simp; with_reducible rfl)); simp only [Act.put, List.setIfInBounds_toArray, List.set_cons_succ, List.set_cons_zero]) | (refine wpOrd_skip rfl rfl ?_; simp only [Act.put, List.setIfInBounds_toArray, List.set_cons_succ, List.set_cons_zero]))
      refine wpOrd_call rfl rfl rfl ?_
      go_simp
      refine (left_any hT9).mono ?_
      rintro e w9 ⟨rfl, rfl⟩
      refine ⟨Below.refl _ _, ?_⟩
      repeat (first | (refine wpOrd_take (v := ?_) rfl rfl rfl (fun W hW => ?_) ?_; rotate_left; (focus (go_simp; with_reducible rfl)); simp only [Act.put, List.setIfInBounds_toArray, List.set_cons_succ, List.set_cons_zero]) | (refine wpOrd_skip rfl rfl ?_; simp only [Act.put, List.setIfInBounds_toArray, List.set_cons_succ, List.set_cons_zero]))
      refine wpOrd_nil ?_
      go_wp2_with fail
      go_ret
      exact ⟨rfl, hB11⟩

end Go.Proofs.Yteejjgnpjkldiaa
