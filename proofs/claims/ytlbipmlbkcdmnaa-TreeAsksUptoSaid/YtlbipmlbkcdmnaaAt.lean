/-
  The walk of the law TreeAsks.
-/
import Derived.Test.YtlbipmlbkcdmnaaAs
namespace Go.Proofs.Ytlbipmlbkcdmnaa
open Go.RowKit Go.Shelf

set_option maxRecDepth 100000 in
set_option maxHeartbeats 8000000 in
theorem treeAsks_walk {A : Option Addr} {n c : Nat} {ns : List Nd} {ss : List Sn} (s t : List UInt8) {Ac Ad : Option Addr} {nc cc nd cd : Nat} {bs ds : List Int} {k : Int} (w : World)
    (hN : Nodes w A ns) (hL : Like w ns ss) (hl : n = ns.length) (hnil : A = none → n = 0) (hn : n ≤ 1048576) (hss : ∀ t ∈ ss, t.path.length ≤ 1048576 ∧ t.data.length ≤ 1048576 ∧ t.link.length ≤ 1048576)
    (hs : s.length ≤ 1048576) (ht : t.length ≤ 1048576)
    (hc : Rd w .u8 Ac nc bs) (hr : ∀ x ∈ bs, 0 ≤ x ∧ x < 256) (hnc : nc ≤ 9223372036854775807)
    (hd : Rd w .u8 Ad nd ds) (hrd : ∀ x ∈ ds, 0 ≤ x ∧ x < 256) (hnd : nd ≤ 9223372036854775807) (hk0 : 0 ≤ k) (hk : k < 256) :
    Calls Try.prog 4 #[.slice A n c, .string ⟨s.toArray⟩, .string ⟨t.toArray⟩, .slice Ac nc cc, .slice Ad nd cd, .int .u8 k] w fun e w' => e = .returned (.bool true) ∧ Below w.heap.size w w' := by
  have hwt : ∀ (j : Nat) (z : Nd), ns[j]? = some z → z.path.length ≤ 1048576 ∧ z.len ≤ 1048576 ∧ z.link.length ≤ 1048576 := fun j z hz => by
    have hj := (List.getElem?_eq_some_iff.1 hz).1
    have ht : ss[j]? = some (ss[j]'(by rw [← hL.1]; exact hj)) := List.getElem?_eq_getElem _
    have h1 := hL.2 j z _ hz ht
    have h2 := hss _ (List.mem_of_getElem? ht)
    rw [h1.1, h1.2.2.1, ← h1.2.2.2.1.1]
    exact h2
  have hnss : n = ss.length := by rw [hl]; exact hL.1
  have HROW := Lib.hid (show RowOf w (.slice A n c) ss from ⟨A, c, ns, by rw [hnss], hN, hL, fun h => by rw [← hnss]; exact hnil h⟩)
  have HN := Lib.hid hN
  have HL := Lib.hid hl
  have HCA := Lib.hid hc
  have HDA := Lib.hid hd
  have hSs : ss.length ≤ 1000000000 ∧ ∀ t ∈ ss, t.path.length ≤ 1000000000 := ⟨by omega, fun t ht => by have := (hss t ht).1; omega⟩
  clear hN hL hl hnil hc hd hss hnss
  go_enter Try.func4, Try.ntmps4
  go_wp2_with fail
  go_loopw [13, 14, 25, 26, 27, 28, 29, 30, 31, 32, 33, 34, 35, 36, 37, 38, 39, 40, 41, 42, 43, 44, 45, 46, 47, 48, 49, 50, 51, 52] (fun v13 v14 _ _ _ _ _ _ _ _ _ _ _ _ _ _ _ _ _ _ _ _ _ _ _ _ _ _ _ _ wr => ∃ j mm : Nat, j ≤ n ∧ v14 = .int .i64 j ∧ v13 = .int .i64 mm ∧ mm ≤ 4194304 + j * 3145728 ∧ Below w.heap.size w wr) (fun _ v14 _ _ _ _ _ _ _ _ _ _ _ _ _ _ _ _ _ _ _ _ _ _ _ _ _ _ _ _ _ => n - (intOf v14).toNat)
  case atStart =>
    refine ⟨0, n + s.length + t.length, Nat.zero_le _, rfl, ?_, by omega, Below.refl _ _⟩
    first | rfl | (simp; done) | (congr 1; omega)
  case round =>
    obtain ⟨j, mm, hj, rfl, rfl, hmm, hbr⟩ := hrel
    by_cases hlt : j < n
    · have hjz : (j : Int) < (n : Int) := by omega
      obtain ⟨z, hz⟩ : ∃ z, ns[j]? = some z := ⟨_, List.getElem?_eq_getElem (by have := HL.out; omega)⟩
      obtain ⟨z1, z2, z3⟩ := hwt j z hz
      rcases HN.out with rfl | ⟨b, off, rfl, hbl2, hcell⟩
      · simp at hz
      have HNQ : ∀ W, Below w.heap.size w W → W.cell? ⟨b, off + j * 4, none⟩ = some (.string ⟨z.path.toArray⟩) ∧ W.cell? ⟨b, off + j * 4 + 2, none⟩ = some (.slice z.adr z.len z.cap) ∧ W.cell? ⟨b, off + j * 4 + 3, none⟩ = some (.string ⟨z.link.toArray⟩) := fun W hW => by
        obtain ⟨x0, x1, x2, x3⟩ := hcell j z hz
        exact ⟨(hW.cell (p := ⟨b, off + j * 4, none⟩) hbl2).trans x0, (hW.cell (p := ⟨b, off + j * 4 + 2, none⟩) hbl2).trans x2, (hW.cell (p := ⟨b, off + j * 4 + 3, none⟩) hbl2).trans x3⟩
      have hw1 : IntKind.i64.wrap ((z.path.length : Int) + (z.len : Int)) = (z.path.length : Int) + (z.len : Int) := by rw [IntKind.wrap_i64]; omega
      have hw2 : IntKind.i64.wrap ((z.path.length : Int) + (z.len : Int) + (z.link.length : Int)) = (z.path.length : Int) + (z.len : Int) + (z.link.length : Int) := by rw [IntKind.wrap_i64]; omega
      have hw3 : IntKind.i64.wrap ((mm : Int) + ((z.path.length : Int) + (z.len : Int) + (z.link.length : Int))) = (mm : Int) + ((z.path.length : Int) + (z.len : Int) + (z.link.length : Int)) := by rw [IntKind.wrap_i64]; omega
      clear hcell hz HN
      go_wp2_with fail
      refine wp_region_ordV [0, 1, 2, 3, 4, 5, 6, 7, 8, 9, 10, 11, 12, 13, 14, 15, 16, 17, 18, 19, 20, 21, 22] [] (by kernel_rfl) (by kernel_rfl) (by kernel_rfl) (fun d _ _ _ _ h => by cases d <;> exact h) (by kernel_rfl) ?_
      intro WG hWG hBG
      have HBG := Lib.hid (hbr.trans (hBG.mono hbr.size))
      have u0 := fun W (hW : Below WG.heap.size WG W) => (HNQ W (HBG.out.trans (hW.mono HBG.out.size))).1
      have u2 := fun W (hW : Below WG.heap.size WG W) => (HNQ W (HBG.out.trans (hW.mono HBG.out.size))).2.1
      have u3 := fun W (hW : Below WG.heap.size WG W) => (HNQ W (HBG.out.trans (hW.mono HBG.out.size))).2.2
      clear hWG hBG
      repeat (first | (refine wpOrd_take (v := ?_) rfl rfl rfl (fun W hW => ?_) ?_; rotate_left; (focus (go_simp; with_reducible rfl)); simp only [Act.put, List.setIfInBounds_toArray, List.set_cons_succ, List.set_cons_zero]) | (refine wpOrd_skip rfl rfl ?_; simp only [Act.put, List.setIfInBounds_toArray, List.set_cons_succ, List.set_cons_zero]))
      refine wpOrd_nil ?_
      clear u0 u2 u3
      go_wp2_with fail
      go_roundw
      case rel => exact ⟨j + 1, mm + (z.path.length + z.len + z.link.length), by omega, by go_num, congrArg (Value.int .i64) (by omega), by omega, HBG.out⟩
      case measure => simp [intOf]; omega
    · obtain rfl : j = n := by omega
      by_cases h500 : 500 < mm
      · have h5z : (500 : Int) < (mm : Int) := by omega
        go_wp2_with (go_at_call 17; refine (known_any _).mono ?_; rintro e w3 ⟨rfl, hb3⟩)
        go_ret
        exact ⟨rfl, hbr.trans (hb3.mono hbr.size)⟩
      · have h5z : ¬ (500 : Int) < (mm : Int) := by omega
        have hP := fun w => path_any k w hk0 hk
        have hps := path_short k
        have hSsT : (treeL bs).length ≤ 1000000000 ∧ ∀ t ∈ treeL bs, t.path.length ≤ 1000000000 := ⟨by have := tree_len bs; omega, fun t ht => by have := tree_short bs t ht; omega⟩
        generalize pathOf k = pk at hP hps
        clear hmm hwt HN
        go_wp2_with (go_at_call 17; refine (known_any _).mono ?_; rintro e w3 ⟨rfl, hb3⟩)
        have hb3' := hbr.trans (hb3.mono hbr.size)
        refine (path02_any (HDA.out.below hb3') hrd hnd).mono ?_
        rintro e w4 ⟨p, rfl, hpl, hb4⟩
        have hb4' := hb3'.trans (hb4.mono hb3'.size)
        have HB4 := Lib.hid hb4'
        clear hbr hb3 hb3' hb4 hb4'
        go_wp2_with (first
          | (go_at_call 19; refine (up_any _ (by omega) _).mono ?_; rintro e w5 ⟨rfl, rfl⟩)
          | (go_at_call 16; refine (join_any _ _ (by omega) (by omega) _).mono ?_; rintro e w5 ⟨rfl, rfl⟩)
          | (go_at_call 22; refine (refJoin_any _ _ (by omega) (by omega) _).mono ?_; rintro e w5 ⟨rfl, rfl⟩))
        refine (refUp_any s (by omega) _).mono ?_
        rintro e w6 ⟨rfl, hb6⟩
        have HB6 := Lib.hid (HB4.out.trans (hb6.mono HB4.out.size))
        clear hb6
        go_wp2_with (first
          | (go_at_call 19; refine (up_any _ (by omega) _).mono ?_; rintro e w5 ⟨rfl, rfl⟩)
          | (go_at_call 16; refine (join_any _ _ (by omega) (by omega) _).mono ?_; rintro e w5 ⟨rfl, rfl⟩)
          | (go_at_call 22; refine (refJoin_any _ _ (by omega) (by omega) _).mono ?_; rintro e w5 ⟨rfl, rfl⟩))
        refine (refUp_any p (by omega) _).mono ?_
        rintro e w7 ⟨rfl, hb7⟩
        have HB7 := Lib.hid (HB6.out.trans (hb7.mono HB6.out.size))
        clear hb7
        go_wp2_with (first
          | (go_at_call 19; refine (up_any _ (by omega) _).mono ?_; rintro e w5 ⟨rfl, rfl⟩)
          | (go_at_call 16; refine (join_any _ _ (by omega) (by omega) _).mono ?_; rintro e w5 ⟨rfl, rfl⟩)
          | (go_at_call 22; refine (refJoin_any _ _ (by omega) (by omega) _).mono ?_; rintro e w5 ⟨rfl, rfl⟩))
        refine (asks_any (HROW.out.below HB7.out) s (by omega) hSs).mono ?_
        rintro e w8 ⟨rfl, hb8⟩
        have HB8 := Lib.hid (HB7.out.trans (hb8.mono HB7.out.size))
        clear hb8
        go_wp2_with fail
        refine (tree_row (HCA.out.below HB8.out) hr hnc).mono ?_
        rintro e w9 ⟨v9, rfl, hr9, hb9⟩
        have HB9 := Lib.hid (HB8.out.trans (hb9.mono HB8.out.size))
        clear hb9
        go_wp2_with fail
        refine (hP _).mono ?_
        rintro e w10 ⟨rfl, hb10⟩
        have HB10 := Lib.hid (HB9.out.trans (hb10.mono HB9.out.size))
        have HR10 := Lib.hid (hr9.below hb10)
        clear hb10 hr9
        go_wp2_with fail
        refine (asks_any HR10.out pk (by omega) hSsT).mono ?_
        rintro e w11 ⟨rfl, hb11⟩
        have HB11 := Lib.hid (HB10.out.trans (hb11.mono HB10.out.size))
        clear hb11
        go_wp2_with fail
        refine (tree_row (HCA.out.below HB11.out) hr hnc).mono ?_
        rintro e w12 ⟨v12, rfl, hr12, hb12⟩
        have HB12 := Lib.hid (HB11.out.trans (hb12.mono HB11.out.size))
        clear hb12
        go_wp2_with fail
        refine (asks_any hr12 p (by omega) hSsT).mono ?_
        rintro e w13 ⟨rfl, hb13⟩
        go_wp2_with fail
        go_ret
        exact ⟨rfl, HB12.out.trans (hb13.mono HB12.out.size)⟩

end Go.Proofs.Ytlbipmlbkcdmnaa
