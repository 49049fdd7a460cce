/-
  Whether a node may be, and a tree: the document's words.
-/
import Derived.Test.YtlbipmlbkcdmnaaMerH
import Derived.Deep.CutRange
namespace Go.Proofs.Ytlbipmlbkcdmnaa
open Go.RowKit Go.Shelf

def goodS (s : Sn) : Bool :=
  (cleanV s.path).2 && (cleanV s.path).1 == s.path && !s.path.isEmpty && ((s.kind == 50) == !s.link.isEmpty) && (s.kind == 48 || s.data.isEmpty && (s.kind == 53 || s.kind == 50))

/-- What the document asks first: the path. -/
def pathBad (s : Sn) (prev : Option (List UInt8)) : Bool :=
  !(cleanV s.path).2 || (cleanV s.path).1 != s.path || s.path.isEmpty || (match prev with | none => false | some q => !(Op.bytesLess q s.path))
/-- Then the rest. -/
def restBad (s : Sn) : Bool :=
  s.kind != 48 && s.kind != 53 && s.kind != 50 || s.kind != 48 && !s.data.isEmpty || ((s.kind == 50) != !s.link.isEmpty)

def prevOf (ss : List Sn) (k : Nat) : Option (List UInt8) := if k = 0 then none else (ss[k - 1]?).map Sn.path
def rightAt (ss : List Sn) (k : Nat) (s : Sn) : Bool :=
  !pathBad s (prevOf ss k) && !restBad s && (findL ss (upL s.path)).2 && (findL ss (upL s.path)).1.kind == 53

set_option maxRecDepth 100000 in
set_option maxHeartbeats 8000000 in
theorem refRightAt_any {w : World} {A : Option Addr} {n c k : Nat} {ns : List Nd} {ss : List Sn} (s : Sn) (hN : Nodes w A ns) (hL : Like w ns ss) (hl : n = ns.length) (hn : n ≤ 1000000000) (hp : ∀ t ∈ ss, t.path.length ≤ 1000000000) (hk : k < n) (hs : ss[k]? = some s) :
    Calls Try.prog 55 #[.slice A n c, .int .i64 k] w fun e w' => e = .returned (.bool (rightAt ss k s)) ∧ Below w.heap.size w w' := by
  obtain ⟨x, hx⟩ : ∃ x, ns[k]? = some x := ⟨_, List.getElem?_eq_getElem (by omega)⟩
  have hxs := hL.2 k x s hx hs
  have hpl := hp s (List.mem_of_getElem? hs)
  have hkz : (k : Int) < (n : Int) := by omega
  have HCL := fun w => refClean_any s.path (by omega) w
  have HU := fun w => refUp_any s.path (by omega) w
  have hF : ∀ W, Below w.heap.size w W → Calls Try.prog 32 #[.slice A n c, .string ⟨(upL s.path).toArray⟩] W fun e w' => ∃ z : Nd, e = .returned (.tuple #[.agg z.cells.toArray, .bool (findL ss (upL s.path)).2]) ∧ NdAt w' z (findL ss (upL s.path)).1 ∧ Below W.heap.size W w' := fun W hW =>
    refFind_any _ (hN.below hW) (hL.below hW) hl (by omega)
  have hA : ∃ b off, A = some ⟨b, off, none⟩ ∧ b < w.heap.size ∧ ∀ j x, ns[j]? = some x →
    w.cell? ⟨b, off + j * 4, none⟩ = some (.string ⟨x.path.toArray⟩) ∧ w.cell? ⟨b, off + j * 4 + 1, none⟩ = some (.int .u8 x.kind) ∧
    w.cell? ⟨b, off + j * 4 + 2, none⟩ = some (.slice x.adr x.len x.cap) ∧ w.cell? ⟨b, off + j * 4 + 3, none⟩ = some (.string ⟨x.link.toArray⟩) := by
    rcases hN with rfl | h
    · simp at hx
    · exact h
  obtain ⟨b, off, rfl, hbl, hc⟩ := hA
  obtain ⟨x0, x1, x2, x3⟩ := hc k x hx
  rw [hxs.1] at x0
  rw [hxs.2.1] at x1
  rw [hxs.2.2.1] at x3
  have hxl : x.len = s.data.length := hxs.2.2.2.1.1.symm
  rw [hxl] at x2
  -- the node before
  have hprev : ∀ q, prevOf ss k = some q → 0 < k ∧ ∀ W, Below w.heap.size w W → W.cell? ⟨b, off + (k - 1) * 4, none⟩ = some (.string ⟨q.toArray⟩) := fun q hq => by
    unfold prevOf at hq
    split at hq
    · cases hq
    · rename_i h0
      refine ⟨by omega, fun W hW => ?_⟩
      obtain ⟨y, hy⟩ : ∃ y, ns[k - 1]? = some y := ⟨_, List.getElem?_eq_getElem (by omega)⟩
      obtain ⟨t, ht⟩ : ∃ t, ss[k - 1]? = some t := ⟨_, List.getElem?_eq_getElem (by have := hL.1; omega)⟩
      rw [ht] at hq
      obtain rfl : t.path = q := by simpa using hq
      have h1 := (hc (k - 1) y hy).1
      rw [(hL.2 (k - 1) y t hy ht).1] at h1
      exact (hW.cell (p := ⟨b, off + (k - 1) * 4, none⟩) hbl).trans h1
  have hprevN : prevOf ss k = none → k = 0 := fun h => by
    unfold prevOf at h
    split at h
    · assumption
    · rename_i h0
      have ht : ss[k - 1]? = some (ss[k - 1]'(by have := hL.1; omega)) := List.getElem?_eq_getElem _
      rw [ht] at h
      cases h
  have hk1 := heap_alloc_new w (.cells #[.string ⟨s.path.toArray⟩, .int .u8 s.kind, .slice x.adr s.data.length x.cap, .string ⟨s.link.toArray⟩] 31)
  obtain ⟨w1, hw1⟩ : ∃ w1, w1 = w.alloc (.cells #[.string ⟨s.path.toArray⟩, .int .u8 s.kind, .slice x.adr s.data.length x.cap, .string ⟨s.link.toArray⟩] 31) := ⟨_, rfl⟩
  rw [← hw1] at hk1
  have hb1 : Below w.heap.size w w1 := by rw [hw1]; exact (Below.refl _ _).alloc (Nat.le_refl _) _
  have hg1 := (Array.getElem?_eq_some_iff.1 hk1).1
  have HC4 := Lib.hid (show ∀ W, Below w1.heap.size w1 W → W.cell? ⟨w.heap.size, 0, none⟩ = some (.string ⟨s.path.toArray⟩) ∧ W.cell? ⟨w.heap.size, 1, none⟩ = some (.int .u8 s.kind) ∧ W.cell? ⟨w.heap.size, 2, none⟩ = some (.slice x.adr s.data.length x.cap) ∧ W.cell? ⟨w.heap.size, 3, none⟩ = some (.string ⟨s.link.toArray⟩) from fun W hW => node_cells ((hW.block _ hg1).trans hk1))
  have HB1 := Lib.hid hb1
  have HF := Lib.hid hF
  have HRA := Lib.hid (show rightAt ss k s = (!pathBad s (prevOf ss k) && !restBad s && (findL ss (upL s.path)).2 && (findL ss (upL s.path)).1.kind == 53) from rfl)
  obtain ⟨⟨c1, ok⟩, hcl⟩ : ∃ cl, cleanV s.path = cl := ⟨_, rfl⟩
  rw [hcl] at HCL
  have HPB := Lib.hid (show pathBad s (prevOf ss k) = (!ok || c1 != s.path || s.path.isEmpty || (match prevOf ss k with | none => false | some q => !(Op.bytesLess q s.path))) from by unfold pathBad; rw [hcl])
  have HRB := Lib.hid (show restBad s = (s.kind != 48 && s.kind != 53 && s.kind != 50 || s.kind != 48 && !s.data.isEmpty || ((s.kind == 50) != !s.link.isEmpty)) from rfl)
  have HDL := Lib.hid (show s.data.isEmpty = decide (s.data.length = 0) from by cases s.data <;> simp)
  generalize hFD : findL ss (upL s.path) = fd at HF HRA
  obtain ⟨fs, fb⟩ := fd
  dsimp only at HF HRA HCL
  clear hN hL hl hp hs hx hc hxs hxl hF hg1 hb1 hk1 hcl hFD
  generalize rightAt ss k s = RA at HRA ⊢
  generalize prevOf ss k = pv at HRA hprev hprevN HPB
  generalize pathBad s pv = PB at HRA HPB
  generalize restBad s = RB at HRA HRB
  generalize s.path = p at *
  generalize s.kind = K at *
  generalize s.link = l at *
  generalize s.data.isEmpty = de at HRB HDL
  generalize s.data.length = D at *
  go_enter Try.func55, Try.ntmps55
  go_wp2_with fail
  rw [← hw1]
  clear hw1 x0 x1 x2 x3
  refine (HCL _).mono ?_
  rintro e w2 ⟨rfl, hb2⟩
  clear HCL
  have HXC := fun W hW => (HC4.out W hW).1
  go_upto_region 3 with fail
  go_cut [46] from 10 to 93 (fun t wx => t = .bool PB ∧ Below w1.heap.size w1 wx)
  case first =>
    cases ok with
    | false =>
      refine wp_region_ordV [0, 1, 2, 3, 4, 5, 6, 7, 8, 9, 10, 11, 12, 13, 14, 15, 16, 17, 18, 19, 20, 21, 22, 23, 24, 25, 26] [] (by kernel_rfl) (by kernel_rfl) (by kernel_rfl) (fun d _ _ _ _ h => by cases d <;> exact h) (by kernel_rfl) ?_
      intro WG hWG hBG
      have u0 := fun W (hW : Below WG.heap.size WG W) => HXC W (hb2.trans ((hBG.trans (hW.mono hBG.size)).mono hb2.size))
      have HBG := Lib.hid (hb2.trans (hBG.mono hb2.size))
      clear hWG hBG
      repeat (first | (refine wpOrd_take (v := ?_) rfl rfl rfl (fun W hW => ?_) ?_; rotate_left; (focus (go_simp; with_reducible rfl)); simp only [Act.put, List.setIfInBounds_toArray, List.set_cons_succ, List.set_cons_zero]) | (refine wpOrd_skip rfl rfl ?_; simp only [Act.put, List.setIfInBounds_toArray, List.set_cons_succ, List.set_cons_zero]))
      refine wpOrd_nil ?_
      go_wp2_with fail
      go_meet
      exact ⟨by rw [HPB.out]; simp, HBG.out⟩
    | true =>
      by_cases hc1 : c1 = p
      · subst hc1
        have hcb : (c1 == c1) = true := by simp
        have hcn : (c1 != c1) = false := by simp
        by_cases hp0 : c1 = []
        · subst hp0
          refine wp_region_ordV [0, 1, 2, 3, 4, 5, 6, 7, 8, 9, 10, 11, 12, 13, 14, 15, 16, 17, 18, 19, 20, 21, 22, 23, 24, 25, 26] [] (by kernel_rfl) (by kernel_rfl) (by kernel_rfl) (fun d _ _ _ _ h => by cases d <;> exact h) (by kernel_rfl) ?_
          intro WG hWG hBG
          have u0 := fun W (hW : Below WG.heap.size WG W) => HXC W (hb2.trans ((hBG.trans (hW.mono hBG.size)).mono hb2.size))
          have HBG := Lib.hid (hb2.trans (hBG.mono hb2.size))
          clear hWG hBG
          repeat (first | (refine wpOrd_take (v := ?_) rfl rfl rfl (fun W hW => ?_) ?_; rotate_left; (focus (go_simp; with_reducible rfl)); simp only [Act.put, List.setIfInBounds_toArray, List.set_cons_succ, List.set_cons_zero]) | (refine wpOrd_skip rfl rfl ?_; simp only [Act.put, List.setIfInBounds_toArray, List.set_cons_succ, List.set_cons_zero]))
          refine wpOrd_nil ?_
          go_wp2_with fail
          go_meet
          exact ⟨by rw [HPB.out]; simp, HBG.out⟩
        · have he0 := emp hp0
          have hp0b : (c1 == []) = false := by simpa using hp0
          cases pv with
          | none =>
            obtain rfl := hprevN rfl
            refine wp_region_ordV [0, 1, 2, 3, 4, 5, 6, 7, 8, 9, 10, 11, 12, 13, 14, 15, 16, 17, 18, 19, 20, 21, 22, 23, 24, 25, 26] [] (by kernel_rfl) (by kernel_rfl) (by kernel_rfl) (fun d _ _ _ _ h => by cases d <;> exact h) (by kernel_rfl) ?_
            intro WG hWG hBG
            have u0 := fun W (hW : Below WG.heap.size WG W) => HXC W (hb2.trans ((hBG.trans (hW.mono hBG.size)).mono hb2.size))
            have HBG := Lib.hid (hb2.trans (hBG.mono hb2.size))
            clear hWG hBG
            repeat (first | (refine wpOrd_take (v := ?_) rfl rfl rfl (fun W hW => ?_) ?_; rotate_left; (focus (go_simp; with_reducible rfl)); simp only [Act.put, List.setIfInBounds_toArray, List.set_cons_succ, List.set_cons_zero]) | (refine wpOrd_skip rfl rfl ?_; simp only [Act.put, List.setIfInBounds_toArray, List.set_cons_succ, List.set_cons_zero]))
            refine wpOrd_nil ?_
            go_wp2_with fail
            go_meet
            exact ⟨by rw [HPB.out]; simp [*], HBG.out⟩
          | some q =>
            obtain ⟨hk0, HYC⟩ := hprev q rfl
            have HYC := fun W (hW : Below w1.heap.size w1 W) => HYC W (HB1.out.trans (hW.mono HB1.out.size))
            have hk0z : (0 : Int) < (k : Int) := by omega
            have hkm : IntKind.i64.wrap ((k - 1 : Nat) : Int) = ((k - 1 : Nat) : Int) := by rw [IntKind.wrap_i64]; omega
            have hkn : (k : Int) - 1 = ((k - 1 : Nat) : Int) := by omega
            have hkl : ((k - 1 : Nat) : Int) < (n : Int) := by omega
            cases hbs : Op.bytesLess q c1 with
            | true =>
              refine wp_region_ordV [0, 1, 2, 3, 4, 5, 6, 7, 8, 9, 10, 11, 12, 13, 14, 15, 16, 17, 18, 19, 20, 21, 22, 23, 24, 25, 26] [] (by kernel_rfl) (by kernel_rfl) (by kernel_rfl) (fun d _ _ _ _ h => by cases d <;> exact h) (by kernel_rfl) ?_
              intro WG hWG hBG
              have u0 := fun W (hW : Below WG.heap.size WG W) => HXC W (hb2.trans ((hBG.trans (hW.mono hBG.size)).mono hb2.size))
              have u1 := fun W (hW : Below WG.heap.size WG W) => HYC W (hb2.trans ((hBG.trans (hW.mono hBG.size)).mono hb2.size))
              have HBG := Lib.hid (hb2.trans (hBG.mono hb2.size))
              clear hWG hBG
              repeat (first | (refine wpOrd_take (v := ?_) rfl rfl rfl (fun W hW => ?_) ?_; rotate_left; (focus (go_simp; with_reducible rfl)); simp only [Act.put, List.setIfInBounds_toArray, List.set_cons_succ, List.set_cons_zero]) | (refine wpOrd_skip rfl rfl ?_; simp only [Act.put, List.setIfInBounds_toArray, List.set_cons_succ, List.set_cons_zero]))
              refine wpOrd_nil ?_
              go_wp2_with fail
              go_meet
              exact ⟨by rw [HPB.out]; simp [*], HBG.out⟩
            | false =>
              refine wp_region_ordV [0, 1, 2, 3, 4, 5, 6, 7, 8, 9, 10, 11, 12, 13, 14, 15, 16, 17, 18, 19, 20, 21, 22, 23, 24, 25, 26] [] (by kernel_rfl) (by kernel_rfl) (by kernel_rfl) (fun d _ _ _ _ h => by cases d <;> exact h) (by kernel_rfl) ?_
              intro WG hWG hBG
              have u0 := fun W (hW : Below WG.heap.size WG W) => HXC W (hb2.trans ((hBG.trans (hW.mono hBG.size)).mono hb2.size))
              have u1 := fun W (hW : Below WG.heap.size WG W) => HYC W (hb2.trans ((hBG.trans (hW.mono hBG.size)).mono hb2.size))
              have HBG := Lib.hid (hb2.trans (hBG.mono hb2.size))
              clear hWG hBG
              repeat (first | (refine wpOrd_take (v := ?_) rfl rfl rfl (fun W hW => ?_) ?_; rotate_left; (focus (go_simp; with_reducible rfl)); simp only [Act.put, List.setIfInBounds_toArray, List.set_cons_succ, List.set_cons_zero]) | (refine wpOrd_skip rfl rfl ?_; simp only [Act.put, List.setIfInBounds_toArray, List.set_cons_succ, List.set_cons_zero]))
              refine wpOrd_nil ?_
              go_wp2_with fail
              go_meet
              exact ⟨by rw [HPB.out]; simp [*], HBG.out⟩
      · have hcb : (c1 == p) = false := by simpa using hc1
        have hcn : (c1 != p) = true := by simpa using hc1
        refine wp_region_ordV [0, 1, 2, 3, 4, 5, 6, 7, 8, 9, 10, 11, 12, 13, 14, 15, 16, 17, 18, 19, 20, 21, 22, 23, 24, 25, 26] [] (by kernel_rfl) (by kernel_rfl) (by kernel_rfl) (fun d _ _ _ _ h => by cases d <;> exact h) (by kernel_rfl) ?_
        intro WG hWG hBG
        have u0 := fun W (hW : Below WG.heap.size WG W) => HXC W (hb2.trans ((hBG.trans (hW.mono hBG.size)).mono hb2.size))
        have HBG := Lib.hid (hb2.trans (hBG.mono hb2.size))
        clear hWG hBG
        repeat (first | (refine wpOrd_take (v := ?_) rfl rfl rfl (fun W hW => ?_) ?_; rotate_left; (focus (go_simp; with_reducible rfl)); simp only [Act.put, List.setIfInBounds_toArray, List.set_cons_succ, List.set_cons_zero]) | (refine wpOrd_skip rfl rfl ?_; simp only [Act.put, List.setIfInBounds_toArray, List.set_cons_succ, List.set_cons_zero]))
        refine wpOrd_nil ?_
        go_wp2_with fail
        go_meet
        exact ⟨by rw [HPB.out]; simp [*], HBG.out⟩
  case rest =>
  obtain ⟨rfl, hbc⟩ := hcut
  obtain ⟨n0, n1, n2, n3⟩ := HC4.out wc hbc
  cases PB with
  | true =>
    go_wp2_with fail
    go_ret
    exact ⟨by rw [HRA.out]; rfl, HB1.out.trans (hbc.mono HB1.out.size)⟩
  | false =>
    go_upto_region 5 with fail
    go_cut [79] from 10 to 93 (fun t wx => t = .bool RB ∧ wx = wc)
    case first =>
      have hD0 : D = 0 ∨ 0 < D := by omega
      have hl0 : l = [] ∨ l ≠ [] := by by_cases h : l = [] <;> simp [h]
      by_cases h48 : K = 48
      · subst h48
        rcases hl0 with rfl | hl1
        · skip
          go_wp2_with fail
          go_meet
          exact ⟨by rw [HRB.out]; simp, rfl⟩
        · have hle := emp hl1
          have hlb : (l == []) = false := by simpa using hl1
          go_wp2_with fail
          go_meet
          exact ⟨by rw [HRB.out]; simp [*], rfl⟩
      · have h48b : (K == 48) = false := by simpa using h48
        have h48n : (K != 48) = true := by simpa using h48
        by_cases h53 : K = 53 ∨ K = 50
        · rcases hD0 with rfl | hD1
          · skip
            rcases h53 with rfl | rfl
            · rcases hl0 with rfl | hl1
              · skip
                go_wp2_with fail
                go_meet
                exact ⟨by rw [HRB.out, HDL.out]; simp, rfl⟩
              · have hle := emp hl1
                have hlb : (l == []) = false := by simpa using hl1
                go_wp2_with fail
                go_meet
                exact ⟨by rw [HRB.out, HDL.out]; simp [*], rfl⟩
            · rcases hl0 with rfl | hl1
              · skip
                go_wp2_with fail
                go_meet
                exact ⟨by rw [HRB.out, HDL.out]; simp, rfl⟩
              · have hle := emp hl1
                have hlb : (l == []) = false := by simpa using hl1
                go_wp2_with fail
                go_meet
                exact ⟨by rw [HRB.out, HDL.out]; simp [*], rfl⟩
          · have hDz : (0 : Int) < (D : Int) := by omega
            have hDn : ¬ D = 0 := by omega
            rcases h53 with rfl | rfl
            · rcases hl0 with rfl | hl1
              · skip
                go_wp2_with fail
                go_meet
                exact ⟨by rw [HRB.out, HDL.out]; simp [*], rfl⟩
              · have hle := emp hl1
                have hlb : (l == []) = false := by simpa using hl1
                go_wp2_with fail
                go_meet
                exact ⟨by rw [HRB.out, HDL.out]; simp [*], rfl⟩
            · rcases hl0 with rfl | hl1
              · skip
                go_wp2_with fail
                go_meet
                exact ⟨by rw [HRB.out, HDL.out]; simp [*], rfl⟩
              · have hle := emp hl1
                have hlb : (l == []) = false := by simpa using hl1
                go_wp2_with fail
                go_meet
                exact ⟨by rw [HRB.out, HDL.out]; simp [*], rfl⟩
        · have h53b : (K == 53) = false := by simpa using fun e => h53 (.inl e)
          have h53n : (K != 53) = true := by simpa using fun e => h53 (.inl e)
          have h50b : (K == 50) = false := by simpa using fun e => h53 (.inr e)
          have h50n : (K != 50) = true := by simpa using fun e => h53 (.inr e)
          go_wp2_with fail
          go_meet
          exact ⟨by rw [HRB.out, h48n, h53n, h50n]; rfl, rfl⟩
    case rest =>
    obtain ⟨rfl, rfl⟩ := hcut
    cases RB with
    | true =>
      go_wp2_with fail
      go_ret
      exact ⟨by rw [HRA.out]; rfl, HB1.out.trans (hbc.mono HB1.out.size)⟩
    | false =>
      clear hprev hprevN HXC n1 n2 n3
      have HFw := fun W (hW : Below wc.heap.size wc W) => HF.out W (HB1.out.trans ((hbc.trans (hW.mono hbc.size)).mono HB1.out.size))
      unfold Nd.cells at HFw
      have HBC := Lib.hid (HB1.out.trans (hbc.mono HB1.out.size))
      clear HF hbc
      cases fb with
      | false =>
        go_wp2_with (first | (go_at_call 21; refine (HU _).mono ?_; rintro e w5 ⟨rfl, hb5⟩) | (go_at_call 32; refine (HFw _ hb5).mono ?_; rintro e w6 ⟨z, rfl, hz, hb6⟩))
        go_ret
        exact ⟨by rw [HRA.out]; rfl, HBC.out.trans (((hb5.trans (hb6.mono hb5.size)).alloc (hb5.trans (hb6.mono hb5.size)).size _).mono HBC.out.size)⟩
      | true =>
        go_wp2_with (first | (go_at_call 21; refine (HU _).mono ?_; rintro e w5 ⟨rfl, hb5⟩) | (go_at_call 32; refine (HFw _ hb5).mono ?_; rintro e w6 ⟨z, rfl, hz, hb6⟩))
        go_ret
        exact ⟨by rw [HRA.out, ← hz.2.1]; simp, HBC.out.trans (((hb5.trans (hb6.mono hb5.size)).alloc (hb5.trans (hb6.mono hb5.size)).size _).mono HBC.out.size)⟩

end Go.Proofs.Ytlbipmlbkcdmnaa

/-
  Whether a tree may be: the document's Right.
-/
namespace Go.Proofs.Ytlbipmlbkcdmnaa
open Go.RowKit Go.Shelf

def rightIdx (ss : List Sn) (k : Nat) : Bool := match ss[k]? with | some s => rightAt ss k s | none => true
def rightS (ss : List Sn) : Bool := (List.range ss.length).all (rightIdx ss)

set_option maxRecDepth 100000 in
set_option maxHeartbeats 4000000 in
theorem refRight_any {w : World} {A : Option Addr} {n c : Nat} {ns : List Nd} {ss : List Sn} (hN : Nodes w A ns) (hL : Like w ns ss) (hl : n = ns.length) (hn : n ≤ 1000000000) (hp : ∀ t ∈ ss, t.path.length ≤ 1000000000) :
    Calls Try.prog 30 #[.slice A n c] w fun e w' => e = .returned (.bool (rightS ss)) ∧ Below w.heap.size w w' := by
  have hls : n = ss.length := by rw [hl]; exact hL.1
  have HR := Lib.hid (show ∀ W k s, Below w.heap.size w W → k < n → ss[k]? = some s → Calls Try.prog 55 #[.slice A n c, .int .i64 k] W fun e w' => e = .returned (.bool (rightAt ss k s)) ∧ Below W.heap.size W w' from
    fun W k s hW hk hs => refRightAt_any s (hN.below hW) (hL.below hW) hl hn hp hk hs)
  have HLS := Lib.hid hls
  clear hN hL hl hp hls
  go_enter Try.func30, Try.ntmps30
  go_wp2_with fail
  go_loopw [3, 4, 5, 6, 7, 8, 9, 10, 11, 12, 13] (fun v3 _ _ _ _ _ _ _ _ _ _ wr => ∃ k : Nat, k ≤ n ∧ v3 = .int .i64 k ∧ Below w.heap.size w wr ∧ ∀ j, j < k → rightIdx ss j = true) (fun v3 _ _ _ _ _ _ _ _ _ _ _ => n - (intOf v3).toNat)
  case atStart => exact ⟨0, Nat.zero_le _, rfl, Below.refl _ _, fun j hj => absurd hj (Nat.not_lt_zero _)⟩
  case round =>
    obtain ⟨k, hk, rfl, hb, hbef⟩ := hrel
    by_cases hlt : k < n
    · have hkz : (k : Int) < (n : Int) := by omega
      obtain ⟨s, hs⟩ : ∃ s, ss[k]? = some s := ⟨_, List.getElem?_eq_getElem (by have := HLS.out; omega)⟩
      have HC := HR.out wr k s hb hlt hs
      have hi : rightIdx ss k = rightAt ss k s := by unfold rightIdx; rw [hs]
      have HBF := Lib.hid hbef
      have HI := Lib.hid hi
      clear hs hbef hi
      cases hq : rightAt ss k s with
      | true =>
        rw [hq] at HC
        have HQ := Lib.hid hq; clear hq
        go_wp2_with (go_at_call 55; refine HC.mono ?_; rintro e w2 ⟨rfl, hb2⟩)
        go_roundw
        case rel =>
          refine ⟨k + 1, by omega, by go_num, hb.trans (hb2.mono hb.size), fun j hj => ?_⟩
          by_cases hjk : j = k
          · subst hjk; rw [HI.out]; exact HQ.out
          · exact HBF.out j (by omega)
        case measure => simp [intOf]; omega
      | false =>
        rw [hq] at HC
        have HQ := Lib.hid hq; clear hq
        go_wp2_with (go_at_call 55; refine HC.mono ?_; rintro e w2 ⟨rfl, hb2⟩)
        go_ret
        refine ⟨?_, hb.trans (hb2.mono hb.size)⟩
        have : rightS ss = false := by
          unfold rightS
          rw [List.all_eq_false]
          exact ⟨k, List.mem_range.2 (by have := HLS.out; omega), by rw [HI.out, HQ.out]; decide⟩
        rw [this]
        rfl
    · obtain rfl : k = n := by omega
      have hT : rightS ss = true := by
        unfold rightS
        rw [List.all_eq_true]
        intro j hj
        exact hbef j (by have := List.mem_range.1 hj; have := HLS.out; omega)
      have HT := Lib.hid hT
      clear hbef hT
      go_wp2_with fail
      go_ret
      exact ⟨by rw [HT.out]; rfl, hb⟩

end Go.Proofs.Ytlbipmlbkcdmnaa

/-
  The two ways to say that a tree may be are one; what stays so, and with what more: plain laws.
-/
namespace Go.Proofs.Ytlbipmlbkcdmnaa
open Go.RowKit Go.Shelf

abbrev lt (a b : List UInt8) : Prop := Op.bytesLess a b = true

theorem lt_irrefl : ∀ a : List UInt8, ¬ lt a a
  | [], h => by simp [lt, Op.bytesLess] at h
  | a :: r, h => by
    have ih := lt_irrefl r
    simp [lt, Op.bytesLess] at h ih
    rw [ih] at h
    cases h

theorem lt_trans : ∀ {a b c : List UInt8}, lt a b → lt b c → lt a c
  | _, _, [], _, h2 => by simp [lt, Op.bytesLess] at h2
  | _, [], _ :: _, h1, _ => by simp [lt, Op.bytesLess] at h1
  | [], _ :: _, _ :: _, _, _ => rfl
  | x :: a, y :: b, z :: c, h1, h2 => by
    simp only [lt, Op.bytesLess, Bool.or_eq_true, Bool.and_eq_true, decide_eq_true_eq, beq_iff_eq] at h1 h2 ⊢
    rcases h1 with h1 | ⟨rfl, h1⟩
    · rcases h2 with h2 | ⟨rfl, h2⟩
      · exact .inl (UInt8.lt_trans h1 h2)
      · exact .inl h1
    · rcases h2 with h2 | ⟨rfl, h2⟩
      · exact .inl h2
      · exact .inr ⟨rfl, lt_trans h1 h2⟩

theorem lt_total : ∀ a b : List UInt8, lt a b ∨ a = b ∨ lt b a
  | [], [] => .inr (.inl rfl)
  | [], _ :: _ => .inl rfl
  | _ :: _, [] => .inr (.inr rfl)
  | x :: a, y :: b => by
    simp only [lt, Op.bytesLess, Bool.or_eq_true, Bool.and_eq_true, decide_eq_true_eq, beq_iff_eq]
    have hx : x < y ∨ x = y ∨ y < x := by
      have h1 : x.toNat < y.toNat ∨ x.toNat = y.toNat ∨ y.toNat < x.toNat := by omega
      rcases h1 with h | h | h
      · exact .inl h
      · exact .inr (.inl (UInt8.toNat_inj.1 h))
      · exact .inr (.inr h)
    rcases hx with h | rfl | h
    · exact .inl (.inl h)
    · rcases lt_total a b with h | rfl | h
      · exact .inl (.inr ⟨rfl, h⟩)
      · exact .inr (.inl rfl)
      · exact .inr (.inr (.inr ⟨rfl, h⟩))
    · exact .inr (.inr (.inl h))

theorem lt_nil {a : List UInt8} (h : a ≠ []) : lt [] a := by
  cases a with
  | nil => exact absurd rfl h
  | cons x r => rfl

theorem lt_prefix : ∀ (a b : List UInt8), b ≠ [] → lt a (a ++ b)
  | [], b, h => lt_nil h
  | x :: a, b, h => by
    have := lt_prefix a b h
    simp only [lt, List.cons_append, Op.bytesLess, Bool.or_eq_true, Bool.and_eq_true, decide_eq_true_eq, beq_iff_eq]
    exact .inr ⟨trivial, this⟩

/-- Up is ahead: a path is Up of it, and more. -/
theorem up_parts (p : List UInt8) (h : upL p ≠ []) : ∃ r, p = upL p ++ 47 :: r := by
  unfold upL at h ⊢
  rcases Lib.lastIdx_spec ⟨p.toArray⟩ 47 p.length with ⟨h1, _⟩ | ⟨i, hi, h1, h2⟩
  · have : Lib.lastIndexByte ⟨p.toArray⟩ 47 = -1 := h1
    rw [this, show (max (-1 : Int) 0).toNat = 0 from rfl] at h
    exact absurd List.take_zero h
  · have e : Lib.lastIndexByte ⟨p.toArray⟩ 47 = i := h1
    rw [e]
    have hi' : i < p.length := hi
    have hx := h2.1
    rw [at_mk p i hi'] at hx
    have e2 : (ByteArray.mk p.toArray)[i]'hi' = p[i] := rfl
    rw [e2] at hx
    have hx2 : p[i] = 47 := UInt8.toNat_inj.1 (show p[i].toNat = 47 by omega)
    refine ⟨p.drop (i + 1), ?_⟩
    rw [show (max (i : Int) 0).toNat = i by omega, ← hx2, ← List.drop_eq_getElem_cons hi', List.take_append_drop]

theorem up_lt (p : List UInt8) (hp : p ≠ []) : lt (upL p) p := by
  by_cases h : upL p = []
  · rw [h]; exact lt_nil hp
  · obtain ⟨r, hr⟩ := up_parts p h
    have := lt_prefix (upL p) (47 :: r) (by simp)
    rwa [← hr] at this

def OkTree (ss : List Sn) : Prop := ss.Pairwise (fun a b => lt a.path b.path) ∧ ∀ s ∈ ss, goodS s = true ∧ (upL s.path = [] ∨ ∃ m ∈ ss, m.path = upL s.path ∧ m.kind = 53)

theorem good_ne {s : Sn} (h : goodS s = true) : s.path ≠ [] := by
  unfold goodS at h
  simp only [Bool.and_eq_true] at h
  intro e
  rw [e] at h
  simp at h

/-- tree.Right's list walk, on what is read. -/
def rightW (f : List UInt8 → Bool) (last : List UInt8) : List Sn → Bool
  | [] => true
  | s :: r => goodS s && !(Op.bytesLess s.path last || s.path == last) && f (upL s.path) && rightW (setD f s.path (s.kind == 53)) s.path r

theorem formed_good {w : World} {x : Nd} {s : Sn} (h : NdAt w x s) : formedL x = goodS s := by
  unfold formedL goodS
  have hl : x.len = s.data.length := h.2.2.2.1.1.symm
  rw [h.1, h.2.1, h.2.2.1, hl]
  cases s.data <;> simp

theorem rightL_W {w : World} : ∀ {ns : List Nd} {ss : List Sn} (f : List UInt8 → Bool) (last : List UInt8), Like w ns ss → rightL f last ns = rightW f last ss
  | [], ss, f, last, h => by rw [like_nil h]; rfl
  | x :: r, ss, f, last, h => by
    obtain ⟨s, t, rfl, h1, h2⟩ := like_cons h
    rw [rightL, rightW, formed_good h1, rightL_W _ _ h2, h1.1, h1.2.1]

theorem W_ok : ∀ (t p : List Sn) (f : List UInt8 → Bool) (last : List UInt8), p.Pairwise (fun a b => lt a.path b.path) → (∀ s ∈ p, s.path ≠ [] ∧ (lt s.path last ∨ s.path = last)) → (last = [] ∨ ∃ s ∈ p, s.path = last) →
    (∀ q, f q = true ↔ (q = [] ∨ ∃ m ∈ p, m.path = q ∧ m.kind = 53)) →
    (rightW f last t = true ↔ ((p ++ t).Pairwise (fun a b => lt a.path b.path) ∧ ∀ s ∈ t, goodS s = true ∧ (upL s.path = [] ∨ ∃ m ∈ p ++ t, m.path = upL s.path ∧ m.kind = 53)))
  | [], p, f, last, hp, _, _, _ => by simp [rightW, hp]
  | s :: r, p, f, last, hp, hlast, hlm, hf => by
    rw [rightW]
    simp only [Bool.and_eq_true, Bool.not_eq_true', Bool.or_eq_false_iff]
    have step : goodS s = true → (∀ m ∈ p, lt m.path s.path) → (rightW (setD f s.path (s.kind == 53)) s.path r = true ↔ ((p ++ [s] ++ r).Pairwise (fun a b => lt a.path b.path) ∧ ∀ u ∈ r, goodS u = true ∧ (upL u.path = [] ∨ ∃ m ∈ p ++ [s] ++ r, m.path = upL u.path ∧ m.kind = 53))) := fun hg hps => by
      refine W_ok r (p ++ [s]) _ _ ?_ ?_ (.inr ⟨s, by simp, rfl⟩) ?_
      · rw [List.pairwise_append]
        exact ⟨hp, by simp, fun a ha b hb => by obtain rfl : b = s := by simpa using hb
                                                exact hps a ha⟩
      · intro u hu
        rcases List.mem_append.1 hu with hu | hu
        · exact ⟨(hlast u hu).1, .inl (hps u hu)⟩
        · obtain rfl : u = s := by simpa using hu
          exact ⟨good_ne hg, .inr rfl⟩
      · intro q
        unfold setD
        by_cases hq : q = s.path
        · subst hq
          rw [if_pos rfl]
          constructor
          · intro h
            exact .inr ⟨s, by simp, rfl, by simpa using h⟩
          · rintro (h | ⟨m, hm, h1, h2⟩)
            · exact absurd h (good_ne hg)
            · rcases List.mem_append.1 hm with hm | hm
              · have := hps m hm
                rw [h1] at this
                exact absurd this (lt_irrefl _)
              · obtain rfl : m = s := by simpa using hm
                simpa using h2
        · rw [if_neg hq, hf]
          constructor
          · rintro (h | ⟨m, hm, h1, h2⟩)
            · exact .inl h
            · exact .inr ⟨m, by simp [hm], h1, h2⟩
          · rintro (h | ⟨m, hm, h1, h2⟩)
            · exact .inl h
            · rcases List.mem_append.1 hm with hm | hm
              · exact .inr ⟨m, hm, h1, h2⟩
              · obtain rfl : m = s := by simpa using hm
                exact absurd h1.symm hq
    have happ : p ++ [s] ++ r = p ++ s :: r := by simp
    constructor
    · rintro ⟨⟨⟨hg, h1, h2⟩, h3⟩, h4⟩
      have hlt : lt last s.path := by
        rcases lt_total last s.path with h | h | h
        · exact h
        · rw [h] at h2; simp at h2
        · have h' : Op.bytesLess s.path last = true := h
          rw [h'] at h1; cases h1
      have hps : ∀ m ∈ p, lt m.path s.path := fun m hm => by
        rcases (hlast m hm).2 with h | h
        · exact lt_trans h hlt
        · rw [h]; exact hlt
      have h5 := (step hg hps).1 h4
      rw [happ] at h5
      refine ⟨h5.1, fun u hu => ?_⟩
      rcases List.mem_cons.1 hu with rfl | hu
      · refine ⟨hg, ?_⟩
        rcases (hf _).1 h3 with h | ⟨m, hm, h6, h7⟩
        · exact .inl h
        · exact .inr ⟨m, by simp [hm], h6, h7⟩
      · exact h5.2 u hu
    · rintro ⟨h1, h2⟩
      obtain ⟨hg, hup⟩ := h2 s (by simp)
      have h1' := List.pairwise_append.1 h1
      have hps : ∀ m ∈ p, lt m.path s.path := fun m hm => h1'.2.2 m hm s (by simp)
      have hsr : ∀ m ∈ r, lt s.path m.path := (List.pairwise_cons.1 h1'.2.1).1
      have hlt : lt last s.path := by
        rcases hlm with h | ⟨m, hm, h⟩
        · rw [h]; exact lt_nil (good_ne hg)
        · rw [← h]; exact hps m hm
      refine ⟨⟨⟨hg, ?_, ?_⟩, ?_⟩, (step hg hps).2 (by rw [happ]; exact ⟨h1, fun u hu => h2 u (by simp [hu])⟩)⟩
      · cases hb : Op.bytesLess s.path last with
        | false => rfl
        | true => exact absurd (lt_trans hlt hb) (lt_irrefl _)
      · simp only [beq_eq_false_iff_ne, ne_eq]
        intro e
        rw [e] at hlt
        exact lt_irrefl _ hlt
      · rw [hf]
        rcases hup with h | ⟨m, hm, h3, h4⟩
        · exact .inl h
        · have hul := up_lt s.path (good_ne hg)
          rcases List.mem_append.1 hm with hm | hm
          · exact .inr ⟨m, hm, h3, h4⟩
          · rcases List.mem_cons.1 hm with rfl | hm
            · rw [← h3] at hul; exact absurd hul (lt_irrefl _)
            · have := hsr m hm
              rw [h3] at this
              exact absurd (lt_trans this hul) (lt_irrefl _)

theorem right_ok (ss : List Sn) : rightW (setD (fun _ => false) [] true) [] ss = true ↔ OkTree ss := by
  have := W_ok ss [] (setD (fun _ => false) [] true) [] (by simp) (by simp) (.inl rfl) (fun q => by unfold setD; split <;> simp_all)
  simpa [OkTree] using this

/-- The document's words. -/
theorem at_ok (ss : List Sn) (k : Nat) (s : Sn) : rightAt ss k s = true ↔ ((∀ q, prevOf ss k = some q → lt q s.path) ∧ goodS s = true ∧ (findL ss (upL s.path)).2 = true ∧ (findL ss (upL s.path)).1.kind = 53) := by
  have h1 : (!pathBad s (prevOf ss k)) = true ↔ ((cleanV s.path).2 = true ∧ (cleanV s.path).1 = s.path ∧ s.path ≠ [] ∧ ∀ q, prevOf ss k = some q → lt q s.path) := by
    unfold pathBad
    cases prevOf ss k with
    | none => simp [and_assoc]
    | some q => simp [and_assoc, lt]
  have h2 : (!restBad s) = true ↔ ((s.kind = 48 ∨ s.kind = 53 ∨ s.kind = 50) ∧ (s.kind = 48 ∨ s.data = []) ∧ (s.kind == 50) = !s.link.isEmpty) := by
    unfold restBad
    by_cases a : s.kind = 48
    · simp [a]
    · by_cases b : s.kind = 53
      · simp [b]
      · by_cases c : s.kind = 50
        · simp [c]
        · simp [a, b, c]
  have h3 : goodS s = true ↔ ((cleanV s.path).2 = true ∧ (cleanV s.path).1 = s.path ∧ s.path ≠ [] ∧ (s.kind == 50) = !s.link.isEmpty ∧ (s.kind = 48 ∨ s.data = [] ∧ (s.kind = 53 ∨ s.kind = 50))) := by
    unfold goodS
    simp only [Bool.and_eq_true, Bool.or_eq_true, beq_iff_eq, Bool.not_eq_true', List.isEmpty_iff, List.isEmpty_eq_false_iff]
    constructor
    · rintro ⟨⟨⟨⟨a, b⟩, c⟩, d⟩, e⟩
      exact ⟨a, b, c, d, e⟩
    · rintro ⟨a, b, c, d, e⟩
      exact ⟨⟨⟨⟨a, b⟩, c⟩, d⟩, e⟩
  unfold rightAt
  rw [Bool.and_eq_true, Bool.and_eq_true, Bool.and_eq_true, h1, h2, h3, beq_iff_eq]
  constructor
  · rintro ⟨⟨⟨⟨a, b, c, d⟩, e, f, g⟩, i⟩, j⟩
    refine ⟨d, ⟨a, b, c, g, ?_⟩, i, j⟩
    rcases e with e | e | e
    · exact .inl e
    · rcases f with f | f
      · exact .inl f
      · exact .inr ⟨f, .inl e⟩
    · rcases f with f | f
      · exact .inl f
      · exact .inr ⟨f, .inr e⟩
  · rintro ⟨d, ⟨a, b, c, g, e⟩, i, j⟩
    refine ⟨⟨⟨⟨a, b, c, d⟩, ?_, ?_, g⟩, i⟩, j⟩
    · rcases e with e | ⟨_, e | e⟩
      · exact .inl e
      · exact .inr (.inl e)
      · exact .inr (.inr e)
    · rcases e with e | ⟨e, _⟩
      · exact .inl e
      · exact .inr e

theorem pairwise_of_next {ss : List Sn} (h : ∀ k (h1 : k + 1 < ss.length), lt (ss[k]).path (ss[k + 1]).path) : ss.Pairwise (fun a b => lt a.path b.path) := by
  rw [List.pairwise_iff_getElem]
  intro i j hi hj hij
  obtain ⟨d, rfl⟩ : ∃ d, j = i + 1 + d := ⟨j - (i + 1), by omega⟩
  clear hij
  induction d with
  | zero => exact h i (by simpa using hj)
  | succ d ih => exact lt_trans (ih (by omega)) (h (i + 1 + d) (by omega))

theorem find_dir {ss : List Sn} (hs : ss.Pairwise (fun a b => lt a.path b.path)) (q : List UInt8) : ((findL ss q).2 = true ∧ (findL ss q).1.kind = 53) ↔ (q = [] ∨ ∃ m ∈ ss, m.path = q ∧ m.kind = 53) := by
  unfold findL
  by_cases hq : q = []
  · simp [hq]
  · rw [if_neg hq]
    cases hf : ss.find? (fun t => t.path == q) with
    | none =>
      rw [List.find?_eq_none] at hf
      simp only [Bool.false_eq_true, false_and, false_iff, not_or, not_exists, not_and]
      refine ⟨hq, fun m hm h1 => absurd (by simpa using h1) (hf m hm)⟩
    | some t =>
      have h1 : t.path = q := by simpa using List.find?_some hf
      have h2 := List.mem_of_find?_eq_some hf
      constructor
      · rintro ⟨_, h3⟩
        exact .inr ⟨t, h2, h1, h3⟩
      · rintro (h | ⟨m, hm, h3, h4⟩)
        · exact absurd h hq
        · refine ⟨rfl, ?_⟩
          have : t = m := by
            obtain ⟨i, hi, rfl⟩ := List.getElem_of_mem h2
            obtain ⟨j, hj, rfl⟩ := List.getElem_of_mem hm
            rcases Nat.lt_trichotomy i j with h | h | h
            · have := (List.pairwise_iff_getElem.1 hs) i j hi hj h
              rw [h1, h3] at this
              exact absurd this (lt_irrefl _)
            · simp [h]
            · have := (List.pairwise_iff_getElem.1 hs) j i hj hi h
              rw [h1, h3] at this
              exact absurd this (lt_irrefl _)
          rw [this]
          exact h4

theorem rightS_ok (ss : List Sn) : rightS ss = true ↔ OkTree ss := by
  have hall : rightS ss = true ↔ ∀ k (h : k < ss.length), rightAt ss k ss[k] = true := by
    unfold rightS rightIdx
    rw [List.all_eq_true]
    constructor
    · intro h k hk
      have := h k (List.mem_range.2 hk)
      rw [List.getElem?_eq_getElem hk] at this
      exact this
    · intro h k hk
      have hk' := List.mem_range.1 hk
      rw [List.getElem?_eq_getElem hk']
      exact h k hk'
  have hprev : ∀ k (h : k + 1 < ss.length), prevOf ss (k + 1) = some (ss[k]).path := fun k h => by
    unfold prevOf
    rw [if_neg (by omega), show k + 1 - 1 = k by omega, List.getElem?_eq_getElem (by omega)]
    rfl
  rw [hall]
  constructor
  · intro h
    have hs := pairwise_of_next fun k h1 => ((at_ok ss (k + 1) _).1 (h (k + 1) h1)).1 _ (hprev k h1)
    refine ⟨hs, fun s hsm => ?_⟩
    obtain ⟨k, hk, rfl⟩ := List.getElem_of_mem hsm
    obtain ⟨_, h2, h3⟩ := (at_ok ss k _).1 (h k hk)
    exact ⟨h2, (find_dir hs _).1 h3⟩
  · rintro ⟨hs, h⟩ k hk
    obtain ⟨h1, h2⟩ := h _ (List.getElem_mem hk)
    refine (at_ok ss k _).2 ⟨fun q hq => ?_, h1, (find_dir hs _).2 h2⟩
    cases k with
    | zero => simp [prevOf] at hq
    | succ k =>
      rw [hprev k hk] at hq
      cases hq
      exact (List.pairwise_iff_getElem.1 hs) k (k + 1) (by omega) hk (by omega)

/-- The two are one. -/
theorem rights_same (ss : List Sn) : rightW (setD (fun _ => false) [] true) [] ss = rightS ss := by
  rw [Bool.eq_iff_iff, right_ok, rightS_ok]

theorem right_row {w : World} {v : Value} {ss : List Sn} (h : RowOf w v ss) (hs : Short ss) :
    Calls Try.prog 31 #[v] w fun e w' => e = .returned (.bool (rightS ss)) ∧ Below w.heap.size w w' := by
  obtain ⟨A, c, ms, rfl, h1, h2, h3⟩ := h
  rw [← rights_same, ← rightL_W _ _ h2]
  exact right_any A _ c ms w h2.1.symm h1 (like_paths h2 hs.2) (by have := hs.1; omega)

theorem refRight_row {w : World} {v : Value} {ss : List Sn} (h : RowOf w v ss) (hs : ss.length ≤ 1000000000 ∧ ∀ t ∈ ss, t.path.length ≤ 1000000000) :
    Calls Try.prog 30 #[v] w fun e w' => e = .returned (.bool (rightS ss)) ∧ Below w.heap.size w w' := by
  obtain ⟨A, c, ms, rfl, h1, h2, h3⟩ := h
  exact refRight_any h1 h2 h2.1.symm hs.1 hs.2

end Go.Proofs.Ytlbipmlbkcdmnaa

/-
  What is asked of a tree, in both words; a path of choices.
-/
namespace Go.Proofs.Ytlbipmlbkcdmnaa
open Go.RowKit Go.Shelf

set_option maxRecDepth 100000 in
set_option maxHeartbeats 4000000 in
theorem path02_any {w : World} {A : Option Addr} {n c : Nat} {bs : List Int} (h : Rd w .u8 A n bs) (hr : ∀ x ∈ bs, 0 ≤ x ∧ x < 256) (hn : n ≤ 9223372036854775807) :
    Calls Try.prog 20 #[.slice A n c] w fun e w' => ∃ p : List UInt8, e = .returned (.string ⟨p.toArray⟩) ∧ p.length ≤ 100 ∧ Below w.heap.size w w' := by
  go_enter Try.func20, Try.ntmps20
  go_wp2_with fail
  go_loopw [3, 4, 5, 6, 7, 8, 9, 10, 11, 12, 13, 14, 15, 16, 17, 18, 19, 20, 21, 22, 23, 24] (fun v3 v4 _ _ _ _ _ _ _ _ _ _ _ _ _ _ _ _ _ _ _ _ wr => ∃ (k : Nat) (p : List UInt8), k ≤ n ∧ k ≤ 12 ∧ v4 = .int .i64 k ∧ v3 = .string ⟨p.toArray⟩ ∧ p.length ≤ 3 * k ∧ Below w.heap.size w wr) (fun _ v4 _ _ _ _ _ _ _ _ _ _ _ _ _ _ _ _ _ _ _ _ _ => n - (intOf v4).toNat)
  case atStart => exact ⟨0, [], Nat.zero_le _, by omega, rfl, rfl, by simp, Below.refl _ _⟩
  case round =>
    obtain ⟨k, p, hk, hk12, rfl, rfl, hpl, hb⟩ := hrel
    by_cases hlt : k < n
    · have hkz : (k : Int) < (n : Int) := by omega
      by_cases h12 : k < 12
      · have h12z : (k : Int) < 12 := by omega
        obtain ⟨ad, rfl, hck⟩ := h.2 k hlt
        obtain ⟨x, hx⟩ : ∃ x, bs[k]? = some x := ⟨_, List.getElem?_eq_getElem (by have := h.1; omega)⟩
        have hgd : bs.getD k 0 = x := by simp [hx]
        rw [hgd] at hck
        obtain ⟨hx0, hx1⟩ := hr x (List.mem_of_getElem? hx)
        have hc1 := (hb.cell (World.block_lt_of_cell? w _ hck)).trans hck
        have hc2 := (((Below.refl _ wr).alloc (Nat.le_refl _) (.cells #[.string ⟨#[97]⟩, .string ⟨#[98]⟩, .string ⟨#[47]⟩, .string ⟨#[47]⟩, .string ⟨#[46]⟩, .string ⟨#[46, 46]⟩, .string ⟨#[100, 105, 114]⟩, .string ⟨#[47, 120]⟩, .string ⟨#[195, 169]⟩, .string ⟨#[10]⟩] 9)).cell (World.block_lt_of_cell? wr _ hc1)).trans hc1
        have ht : x.tmod 10 = x % 10 := Int.tmod_eq_emod_of_nonneg hx0
        have h10 : x % 10 = 0 ∨ x % 10 = 1 ∨ x % 10 = 2 ∨ x % 10 = 3 ∨ x % 10 = 4 ∨ x % 10 = 5 ∨ x % 10 = 6 ∨ x % 10 = 7 ∨ x % 10 = 8 ∨ x % 10 = 9 := by omega
        have e1 := fun (y : List UInt8) => cat_mk p y
        clear h hr hck hx hgd hx1
        rcases h10 with hq | hq | hq | hq | hq | hq | hq | hq | hq | hq
        all_goals
          rw [hq] at ht
          go_wp2_with fail
          go_roundw
          case rel => exact ⟨k + 1, _, by omega, by omega, by go_num, congrArg Value.string (e1 _), by simp; omega, hb.alloc hb.size _⟩
          case measure => simp [intOf]; omega
      · obtain rfl : k = 12 := by omega
        clear h hr
        go_wp2_with fail
        go_ret
        first | exact ⟨_, rfl, by omega, hb⟩ | exact ⟨p, rfl, by omega, hb⟩
    · obtain rfl : k = n := by omega
      clear h hr
      go_wp2_with fail
      go_ret
      first | exact ⟨_, rfl, by omega, hb⟩ | exact ⟨p, rfl, by omega, hb⟩

set_option maxRecDepth 100000 in
set_option maxHeartbeats 4000000 in
theorem asks_any {w : World} {v : Value} {ss : List Sn} (h : RowOf w v ss) (p : List UInt8) (hp : p.length ≤ 4000000000000) (hs : ss.length ≤ 1000000000 ∧ ∀ t ∈ ss, t.path.length ≤ 1000000000) :
    Calls Try.prog 23 #[v, .string ⟨p.toArray⟩] w fun e w' => e = .returned (.bool true) ∧ Below w.heap.size w w' := by
  have hSh : Short ss := ⟨by have := hs.1; omega, fun t ht => by have := hs.2 t ht; omega⟩
  have HR := Lib.hid h
  obtain ⟨A, c, ms, hv, _⟩ := h
  subst hv
  generalize ss.length = n at HR ⊢
  have hF1 := fun W (hW : Below w.heap.size w W) => find_row (HR.out.below hW) p hSh
  have hF2 := fun W (hW : Below w.heap.size w W) => refFind_row (HR.out.below hW) p hSh
  unfold Nd.cells at hF1 hF2
  generalize findL ss p = fd at hF1 hF2
  go_enter Try.func23, Try.ntmps23
  go_wp2_with fail
  refine (hF1 _ (Below.refl _ _)).mono ?_
  rintro e w1 ⟨y, rfl, hy, hb1⟩
  obtain ⟨w2, hw2⟩ : ∃ W, W = w1.alloc (.cells #[.string ⟨y.path.toArray⟩, .int .u8 y.kind, .slice y.adr y.len y.cap, .string ⟨y.link.toArray⟩] 31) := ⟨_, rfl⟩
  have hb12 : Below w1.heap.size w1 w2 := by rw [hw2]; exact (Below.refl _ _).alloc (Nat.le_refl _) _
  have hk2 : w2.heap[w1.heap.size]? = some (.cells #[.string ⟨y.path.toArray⟩, .int .u8 y.kind, .slice y.adr y.len y.cap, .string ⟨y.link.toArray⟩] 31 (0, 0)) := by rw [hw2]; exact heap_alloc_new _ _
  have hb2 := hb1.trans (hb12.mono hb1.size)
  have hy2 := hy.below hb12
  clear hb12 hy hb1
  go_wp2_with fail
  rw [← hw2]
  clear hw2
  refine (hF2 _ hb2).mono ?_
  rintro e w3 ⟨z, rfl, hz, hb3⟩
  obtain ⟨w4, hw4⟩ : ∃ W, W = w3.alloc (.cells #[.string ⟨z.path.toArray⟩, .int .u8 z.kind, .slice z.adr z.len z.cap, .string ⟨z.link.toArray⟩] 31) := ⟨_, rfl⟩
  have hb34 : Below w3.heap.size w3 w4 := by rw [hw4]; exact (Below.refl _ _).alloc (Nat.le_refl _) _
  have hk4 : w4.heap[w3.heap.size]? = some (.cells #[.string ⟨z.path.toArray⟩, .int .u8 z.kind, .slice z.adr z.len z.cap, .string ⟨z.link.toArray⟩] 31 (0, 0)) := by rw [hw4]; exact heap_alloc_new _ _
  have hb24 := hb3.trans (hb34.mono hb3.size)
  have hk2' := (hb24.block _ (Array.getElem?_eq_some_iff.1 hk2).1).trans hk2
  obtain ⟨a0, a1, a2, a3⟩ := node_cells hk2'
  obtain ⟨c0, c1, c2, c3⟩ := node_cells hk4
  have HSM := same_any y z fd.1 w4 (hy2.below hb24) (hz.below hb34)
  unfold Nd.cells at HSM
  have HB4 := Lib.hid (hb2.trans (hb24.mono hb2.size))
  have HR4 := Lib.hid (HR.out.below HB4.out)
  have hBL := fun W (hW : Below w4.heap.size w4 W) => below_row (HR4.out.below hW) p hp hSh
  have hRB := fun W (hW : Below w4.heap.size w4 W) => refBelow_row (HR4.out.below hW) p hp hSh
  have hRT := fun W (hW : Below w4.heap.size w4 W) => right_row (HR4.out.below hW) hSh
  have hRR := fun W (hW : Below w4.heap.size w4 W) => refRight_row (HR4.out.below hW) hs
  have hlen : (belowS p ss).length ≤ 1000000000000 := by have := (hSh.belows p).1; omega
  clear hk2 hk2' hk4 hy2 hz hb2 hb3 hb34 hb24 hF1 hF2 HR
  generalize belowS p ss = bp at hBL hRB hlen
  generalize rightS ss = RT at hRT hRR
  go_upto_region 3 with fail
  rw [← hw4]
  clear hw4
  go_wp2_with (first
    | (go_at_call 36; refine HSM.mono ?_; rintro e w5 ⟨rfl, hb5⟩)
    | (go_at_call 34; refine (hBL _ hb5).mono ?_; rintro e w6 ⟨v6, rfl, hr6, hb6⟩; have hb6' := hb5.trans (hb6.mono hb5.size))
    | (go_at_call 45; refine (hRB _ hb6').mono ?_; rintro e w7 ⟨v7, rfl, hr7, hb7⟩; have hb7' := hb6'.trans (hb7.mono hb6'.size))
    | (go_at_call 25; refine (same_row (hr6.below hb7) hr7 hlen).mono ?_; rintro e w8 ⟨rfl, hb8⟩; have hb8' := hb7'.trans (hb8.mono hb7'.size))
    | (go_at_call 31; refine (hRT _ hb8').mono ?_; rintro e w9 ⟨rfl, hb9⟩; have hb9' := hb8'.trans (hb9.mono hb8'.size))
    | (go_at_call 30; refine (hRR _ hb9').mono ?_; rintro e w10 ⟨rfl, hb10⟩))
  go_ret
  exact ⟨by simp, HB4.out.trans ((hb9'.trans (hb10.mono hb9'.size)).mono HB4.out.size)⟩

end Go.Proofs.Ytlbipmlbkcdmnaa
