/-
  A tree that may be, without what is below a path; and with a directory more: plain laws.
-/
import Derived.Test.YtlbipmlbkcdmnaaMerI
namespace Go.Proofs.Ytlbipmlbkcdmnaa
open Go.RowKit Go.Shelf

theorem below_iff (q p : List UInt8) : belowL q p = true ↔ (p = [] ∨ (p ++ [47]) <+: q) := by
  unfold belowL Lib.hasPrefix
  simp only [Bool.or_eq_true, List.isEmpty_iff, List.isPrefixOf_iff_prefix]

theorem up_prefix {q : List UInt8} (h : upL q ≠ []) : (upL q ++ [47]) <+: q := by
  obtain ⟨r, hr⟩ := up_parts q h
  refine ⟨r, ?_⟩
  rw [List.append_assoc, List.singleton_append]
  exact hr.symm

theorem below_up {q p : List UInt8} (hu : upL q ≠ []) (h : upL q = p ∨ belowL (upL q) p = true) : belowL q p = true := by
  rw [below_iff]
  rcases h with rfl | h
  · exact .inr (up_prefix hu)
  · rcases (below_iff _ _).1 h with h | h
    · exact .inl h
    · exact .inr (h.trans ((List.prefix_append _ _).trans (up_prefix hu)))

theorem mem_gone {p : List UInt8} {ss : List Sn} {s : Sn} : s ∈ goneL p ss ↔ (s ∈ ss ∧ s.path ≠ p ∧ belowL s.path p = false) := by
  unfold goneL
  rw [List.mem_filter]
  simp

theorem OkTree.gone {t : List Sn} (h : OkTree t) (p : List UInt8) : OkTree (goneL p t) := by
  refine ⟨List.Pairwise.sublist List.filter_sublist h.1, fun s hs => ?_⟩
  obtain ⟨h1, h2, h3⟩ := mem_gone.1 hs
  obtain ⟨hg, hu⟩ := h.2 s h1
  refine ⟨hg, ?_⟩
  rcases hu with hu | ⟨m, hm, h4, h5⟩
  · exact .inl hu
  · by_cases hu : upL s.path = []
    · exact .inl hu
    · refine .inr ⟨m, mem_gone.2 ⟨hm, fun e => ?_, ?_⟩, h4, h5⟩
      · have := below_up hu (.inl (h4.symm.trans e))
        rw [h3] at this
        cases this
      · cases hb : belowL m.path p with
        | false => rfl
        | true =>
          rw [h4] at hb
          have := below_up hu (.inr hb)
          rw [h3] at this
          cases this

theorem gt_iff (a b : List UInt8) : gtL a b = true ↔ lt b a := by
  unfold gtL
  simp only [Bool.not_eq_true', Bool.or_eq_false_iff, beq_eq_false_iff_ne, ne_eq]
  constructor
  · rintro ⟨h1, h2⟩
    rcases lt_total b a with h | h | h
    · exact h
    · exact absurd h.symm h2
    · have h' : Op.bytesLess a b = true := h
      rw [h'] at h1; cases h1
  · intro h
    refine ⟨?_, fun e => ?_⟩
    · cases hb : Op.bytesLess a b with
      | false => rfl
      | true => exact absurd (lt_trans h hb) (lt_irrefl _)
    · rw [e] at h; exact lt_irrefl _ h

theorem mem_putG {x s : Sn} : ∀ {l : List Sn}, s ∈ putG Sn.path x l → s = x ∨ s ∈ l
  | [], h => by simp [putG] at h; exact .inl h
  | y :: r, h => by
    rw [putG] at h
    split at h
    · rcases mem_putG h with h | h
      · exact .inl h
      · exact .inr (List.mem_cons_of_mem _ h)
    · split at h
      · rcases List.mem_cons.1 h with h | h
        · exact .inl h
        · rcases List.mem_cons.1 h with h | h
          · exact .inr (by rw [h]; simp)
          · exact .inr (List.mem_cons_of_mem _ (List.mem_filter.1 h).1)
      · rcases List.mem_cons.1 h with h | h
        · exact .inr (by rw [h]; simp)
        · rcases mem_putG h with h | h
          · exact .inl h
          · exact .inr (List.mem_cons_of_mem _ h)

theorem putG_has {x m : Sn} : ∀ {l : List Sn}, m ∈ l → m.path ≠ x.path → m ∈ putG Sn.path x l
  | [], h, _ => by cases h
  | y :: r, h, hne => by
    rw [putG]
    split
    · rename_i he
      rcases List.mem_cons.1 h with h | h
      · exact absurd (by rw [h]; simpa using he) hne
      · exact putG_has h hne
    · split
      · rcases List.mem_cons.1 h with h | h
        · simp [h]
        · exact List.mem_cons_of_mem _ (List.mem_cons_of_mem _ (List.mem_filter.2 ⟨h, by simpa using hne⟩))
      · rcases List.mem_cons.1 h with h | h
        · simp [h]
        · exact List.mem_cons_of_mem _ (putG_has h hne)

theorem putG_sorted (x : Sn) : ∀ {l : List Sn}, l.Pairwise (fun a b => lt a.path b.path) → (putG Sn.path x l).Pairwise (fun a b => lt a.path b.path)
  | [], _ => by simp [putG]
  | y :: r, h => by
    obtain ⟨h1, h2⟩ := List.pairwise_cons.1 h
    have ih := putG_sorted x h2
    rw [putG]
    split
    · exact ih
    · rename_i hne
      have hyx : ¬ y.path = x.path := by simpa using hne
      split
      · rename_i hg
        have hxy := (gt_iff _ _).1 hg
        rw [List.pairwise_cons, List.pairwise_cons]
        refine ⟨fun z hz => ?_, fun z hz => h1 z (List.mem_filter.1 hz).1, List.Pairwise.sublist List.filter_sublist h2⟩
        rcases List.mem_cons.1 hz with hz | hz
        · rw [hz]; exact hxy
        · exact lt_trans hxy (h1 z (List.mem_filter.1 hz).1)
      · rename_i hg
        have hyx2 : lt y.path x.path := by
          rcases lt_total y.path x.path with h | h | h
          · exact h
          · exact absurd h hyx
          · exact absurd ((gt_iff _ _).2 h) hg
        rw [List.pairwise_cons]
        refine ⟨fun z hz => ?_, ih⟩
        rcases mem_putG hz with hz | hz
        · rw [hz]; exact hyx2
        · exact h1 z hz

theorem OkTree.dir {t : List Sn} (h : OkTree t) (p : List UInt8) (hg : goodS ⟨p, 53, [], []⟩ = true) (hu : upL p = [] ∨ ∃ m ∈ t, m.path = upL p ∧ m.kind = 53) : OkTree (putG Sn.path ⟨p, 53, [], []⟩ (goneL p t)) := by
  have hgo := h.gone p
  have hp : p ≠ [] := good_ne hg
  refine ⟨putG_sorted _ hgo.1, fun s hs => ?_⟩
  rcases mem_putG hs with rfl | hs
  · refine ⟨hg, ?_⟩
    by_cases hn : upL p = []
    · exact .inl hn
    · rcases hu with hu | ⟨m, hm, h1, h2⟩
      · exact absurd hu hn
      · have hlt := up_lt p hp
        have hmp : m.path ≠ p := fun e => by
          rw [← h1, e] at hlt
          exact lt_irrefl _ hlt
        refine .inr ⟨m, putG_has (mem_gone.2 ⟨hm, hmp, ?_⟩) hmp, h1, h2⟩
        cases hb : belowL m.path p with
        | false => rfl
        | true =>
          rw [h1] at hb
          have := below_up hn (.inr hb)
          rcases (below_iff _ _).1 this with h | h
          · exact absurd h hp
          · have := h.length_le
            simp at this
            omega
  · obtain ⟨h1, h2⟩ := hgo.2 s hs
    refine ⟨h1, ?_⟩
    rcases h2 with h2 | ⟨m, hm, h3, h4⟩
    · exact .inl h2
    · exact .inr ⟨m, putG_has hm (mem_gone.1 hm).2.1, h3, h4⟩

theorem paths_clean : (pathsL.all fun p => p.isEmpty || goodS ⟨p, 53, [], []⟩) = true := by kernel_rfl

/-- What the law asks, where a tree may be. -/
theorem right_gone {t : List Sn} (h : rightS t = true) (p : List UInt8) : rightS (goneL p t) = true := (rightS_ok _).2 (((rightS_ok _).1 h).gone p)
theorem right_dir {t : List Sn} (h : rightS t = true) (k : Int) (hp : pathOf k ≠ []) (h1 : (findL t (upL (pathOf k))).2 = true) (h2 : (findL t (upL (pathOf k))).1.kind = 53) :
    rightS (putG Sn.path ⟨pathOf k, 53, [], []⟩ (goneL (pathOf k) t)) = true ∧ (cleanV (pathOf k)).2 = true := by
  have hg : goodS ⟨pathOf k, 53, [], []⟩ = true := by
    have := List.all_eq_true.1 paths_clean _ (path_mem k)
    simpa [hp] using this
  have ho := (rightS_ok _).1 h
  refine ⟨(rightS_ok _).2 (ho.dir _ hg ((find_dir ho.1 _).1 ⟨h1, h2⟩)), ?_⟩
  unfold goodS at hg
  simp only [Bool.and_eq_true] at hg
  exact hg.1.1.1.1

set_option maxRecDepth 100000 in
set_option maxHeartbeats 8000000 in
theorem treeRight_walk {A : Option Addr} {n c : Nat} {bs : List Int} {k : Int} (w : World) (h : Rd w .u8 A n bs) (hr : ∀ x ∈ bs, 0 ≤ x ∧ x < 256) (hn : n ≤ 9223372036854775807) (hk0 : 0 ≤ k) (hk : k < 256) :
    Calls Try.prog 6 #[.slice A n c, .int .u8 k] w fun e w' => e = .returned (.bool true) ∧ Below w.heap.size w w' := by
  have HT := tree_row (c := c) h hr hn
  have HP := fun w => path_any k w hk0 hk
  have hps := path_short k
  have hShT := Short.tree bs
  have hSsT : (treeL bs).length ≤ 1000000000 ∧ ∀ t ∈ treeL bs, t.path.length ≤ 1000000000 := ⟨by have := tree_len bs; omega, fun t ht => by have := tree_short bs t ht; omega⟩
  have hlenT := tree_len bs
  have hshT := tree_short bs
  clear h hr
  generalize treeL bs = t at HT hShT hSsT hlenT hshT
  have hgone := fun h => @right_gone t h (pathOf k)
  have hdir := fun h => @right_dir t h k
  have HCL := fun w => refClean_any (pathOf k) (by omega) w
  generalize pathOf k = p at HP hps hgone hdir HCL
  have hShG := hShT.gone p
  have hShD : Short (putG Sn.path ⟨p, 53, [], []⟩ (goneL p t)) := Short.put ⟨by have := List.length_filter_le (fun s : Sn => !(s.path == p || belowL s.path p)) t; unfold goneL; omega, fun s hs => by have := hshT s (mem_gone.1 hs).1; omega⟩ (show p.length ≤ _ by omega)
  go_enter Try.func6, Try.ntmps6
  go_wp2_with fail
  refine HT.mono ?_
  rintro e w1 ⟨v, rfl, hrow, hb1⟩
  have HB1 := Lib.hid hb1
  have HROW := Lib.hid hrow
  clear HT hb1 hrow hlenT hshT
  have hRR := fun W (hW : Below w1.heap.size w1 W) => refRight_row (HROW.out.below hW) hSsT
  have hRT := fun W (hW : Below w1.heap.size w1 W) => right_row (HROW.out.below hW) hShT
  cases hR : rightS t with
  | false =>
    rw [hR] at hRR hRT
    clear hgone hdir hR
    go_wp2_with (first
      | (go_at_call 30; refine (hRR _ (Below.refl _ _)).mono ?_; rintro e w2 ⟨rfl, hb2⟩)
      | (go_at_call 17; refine (known_any _).mono ?_; rintro e w3 ⟨rfl, hb3⟩; have hb3' := hb2.trans (hb3.mono hb2.size))
      | (go_at_call 31; refine (hRT _ hb3').mono ?_; rintro e w4 ⟨rfl, hb4⟩))
    go_ret
    exact ⟨rfl, HB1.out.trans ((hb3'.trans (hb4.mono hb3'.size)).mono HB1.out.size)⟩
  | true =>
    rw [hR] at hRR hRT
    have hgone := hgone hR
    have hdir := hdir hR
    clear hR
    have HU := fun w => refUp_any p (by omega) w
    have hF := fun W (hW : Below w1.heap.size w1 W) => refFind_row (HROW.out.below hW) (upL p) hShT
    generalize findL t (upL p) = fd at hF hdir
    obtain ⟨fs, fb⟩ := fd
    dsimp only at hF hdir
    unfold Nd.cells at hF
    go_wp2_with (first
      | (go_at_call 30; refine (hRR _ (Below.refl _ _)).mono ?_; rintro e w2 ⟨rfl, hb2⟩)
      | (go_at_call 15; refine (HP _).mono ?_; rintro e w3 ⟨rfl, hb3⟩; have hb3' := hb2.trans (hb3.mono hb2.size))
      | (go_at_call 21; refine (HU _).mono ?_; rintro e w4 ⟨rfl, hb4⟩; have hb4' := hb3'.trans (hb4.mono hb3'.size)))
    refine (hF _ hb4').mono ?_
    rintro e w5 ⟨z, rfl, hz, hb5⟩
    obtain ⟨w6, hw6⟩ : ∃ W, W = w5.alloc (.cells #[.string ⟨z.path.toArray⟩, .int .u8 z.kind, .slice z.adr z.len z.cap, .string ⟨z.link.toArray⟩] 31) := ⟨_, rfl⟩
    have hb56 : Below w5.heap.size w5 w6 := by rw [hw6]; exact (Below.refl _ _).alloc (Nat.le_refl _) _
    have hk6 : w6.heap[w5.heap.size]? = some (.cells #[.string ⟨z.path.toArray⟩, .int .u8 z.kind, .slice z.adr z.len z.cap, .string ⟨z.link.toArray⟩] 31 (0, 0)) := by rw [hw6]; exact heap_alloc_new _ _
    have HB6 := Lib.hid (hb4'.trans ((hb5.trans (hb56.mono hb5.size)).mono hb4'.size))
    obtain ⟨d0, d1, d2, d3⟩ := node_cells hk6
    have hkz : z.kind = fs.kind := hz.2.1
    rw [hkz] at d1
    clear hb2 hb3 hb3' hb4 hb4' hb5 hb56 hk6 hz hF hRR HU HP hkz
    have hRM := fun W (hW : Below w1.heap.size w1 W) => remove_row (HROW.out.below hW) p (by omega) hShT
    go_upto_region 6 with fail
    rw [← hw6]
    clear hw6
    by_cases hcond : p = [] ∨ fb = false ∨ fs.kind ≠ 53
    · by_cases hp0 : p = []
      · subst hp0
        go_wp2_with (first
          | (go_at_call 17; refine (known_any _).mono ?_; rintro e w7 ⟨rfl, hb7⟩; have hb7' := HB6.out.trans (hb7.mono HB6.out.size)))
        refine (hRT _ hb7').mono ?_
        rintro e w8 ⟨rfl, hb8⟩
        have hb8' := hb7'.trans (hb8.mono hb7'.size)
        go_wp2_with fail
        refine (hRM _ hb8').mono ?_
        rintro e w9 ⟨v9, rfl, hr9, hb9⟩
        have hb9' := hb8'.trans (hb9.mono hb8'.size)
        have hRG := right_row hr9 hShG
        rw [hgone] at hRG
        go_wp2_with fail
        refine hRG.mono ?_
        rintro e w10 ⟨rfl, hb10⟩
        go_wp2_with fail
        go_ret
        exact ⟨rfl, HB1.out.trans ((hb9'.trans (hb10.mono hb9'.size)).mono HB1.out.size)⟩
      · have he := emp hp0
        have hpb : (p == []) = false := by simpa using hp0
        cases fb with
        | false =>
          go_wp2_with (first
            | (go_at_call 17; refine (known_any _).mono ?_; rintro e w7 ⟨rfl, hb7⟩; have hb7' := HB6.out.trans (hb7.mono HB6.out.size)))
          refine (hRT _ hb7').mono ?_
          rintro e w8 ⟨rfl, hb8⟩
          have hb8' := hb7'.trans (hb8.mono hb7'.size)
          go_wp2_with fail
          refine (hRM _ hb8').mono ?_
          rintro e w9 ⟨v9, rfl, hr9, hb9⟩
          have hb9' := hb8'.trans (hb9.mono hb8'.size)
          have hRG := right_row hr9 hShG
          rw [hgone] at hRG
          go_wp2_with fail
          refine hRG.mono ?_
          rintro e w10 ⟨rfl, hb10⟩
          go_wp2_with fail
          go_ret
          exact ⟨rfl, HB1.out.trans ((hb9'.trans (hb10.mono hb9'.size)).mono HB1.out.size)⟩
        | true =>
          have hkn : ¬ fs.kind = 53 := by simpa [hp0] using hcond
          have hkb : (fs.kind == 53) = false := by simpa using hkn
          have hkc : (fs.kind != 53) = true := by simpa using hkn
          go_wp2_with (first
            | (go_at_call 17; refine (known_any _).mono ?_; rintro e w7 ⟨rfl, hb7⟩; have hb7' := HB6.out.trans (hb7.mono HB6.out.size)))
          refine (hRT _ hb7').mono ?_
          rintro e w8 ⟨rfl, hb8⟩
          have hb8' := hb7'.trans (hb8.mono hb7'.size)
          go_wp2_with fail
          refine (hRM _ hb8').mono ?_
          rintro e w9 ⟨v9, rfl, hr9, hb9⟩
          have hb9' := hb8'.trans (hb9.mono hb8'.size)
          have hRG := right_row hr9 hShG
          rw [hgone] at hRG
          go_wp2_with fail
          refine hRG.mono ?_
          rintro e w10 ⟨rfl, hb10⟩
          go_wp2_with fail
          go_ret
          exact ⟨rfl, HB1.out.trans ((hb9'.trans (hb10.mono hb9'.size)).mono HB1.out.size)⟩
    · have hp0 : p ≠ [] := fun e => hcond (.inl e)
      have hfb : fb = true := by cases fb with | true => rfl | false => exact absurd (.inr (.inl rfl)) hcond
      have hk53 : fs.kind = 53 := by
        by_cases h : fs.kind = 53
        · exact h
        · exact absurd (.inr (.inr h)) hcond
      obtain ⟨hD, hC⟩ := hdir hp0 hfb hk53
      rw [hC] at HCL
      subst hfb
      rw [hk53] at d1
      have he := emp hp0
      have hpb : (p == []) = false := by simpa using hp0
      clear hdir hC hcond hk53
      go_wp2_with (first
        | (go_at_call 33; refine (HCL _).mono ?_; rintro e w7 ⟨rfl, hb7⟩; have hb7' := HB6.out.trans (hb7.mono HB6.out.size))
        | (go_at_call 17; refine (known_any _).mono ?_; rintro e w8 ⟨rfl, hb8⟩; have hb8' := hb7'.trans (hb8.mono hb7'.size)))
      refine (hRM _ hb8').mono ?_
      rintro e w9 ⟨v9, rfl, hr9, hb9⟩
      have hb9' := hb8'.trans (hb9.mono hb8'.size)
      have hRG := right_row hr9 hShG
      rw [hgone] at hRG
      go_wp2_with fail
      refine hRG.mono ?_
      rintro e w10 ⟨rfl, hb10⟩
      have hb10' := hb9'.trans (hb10.mono hb9'.size)
      go_wp2_with fail
      refine (hRM _ hb10').mono ?_
      rintro e w11 ⟨v11, rfl, hr11, hb11⟩
      have hb11' := hb10'.trans (hb11.mono hb10'.size)
      have hPT := put_row hr11 ⟨p, 53, none, 0, 0, []⟩ ⟨p, 53, [], []⟩ ⟨rfl, rfl, rfl, ⟨rfl, fun j hj => absurd hj (Nat.not_lt_zero _)⟩, Nat.le_refl _, show 0 ≤ 4000000000000 by decide⟩ hShG
      unfold Nd.cells at hPT
      dsimp only at hPT
      go_wp2_with fail
      refine hPT.mono ?_
      rintro e w12 ⟨v12, rfl, hr12, hb12⟩
      have hb12' := hb11'.trans (hb12.mono hb11'.size)
      have hRD := right_row hr12 hShD
      rw [hD] at hRD
      go_wp2_with fail
      refine hRD.mono ?_
      rintro e w13 ⟨rfl, hb13⟩
      go_wp2_with fail
      go_ret
      exact ⟨rfl, HB1.out.trans ((hb12'.trans (hb13.mono hb12'.size)).mono HB1.out.size)⟩

end Go.Proofs.Ytlbipmlbkcdmnaa
