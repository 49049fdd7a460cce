/-
  Whether a node may be, and a tree: the document's words.
-/
import Derived.Test.YtlbipmlbkcdmnaaAo
import Derived.Deep.CutRange
namespace Go.Proofs.Ytlbipmlbkcdmnaa
open Go.RowKit Go.Shelf

def goodS (s : Sn) : Bool :=
  (cleanV s.path).2 && (cleanV s.path).1 == s.path && !s.path.isEmpty && ((s.kind == 50) == !s.link.isEmpty) && (s.kind == 48 || s.data.isEmpty && (s.kind == 53 || s.kind == 50))

/-- What the document asks first: the path. -/
def pathBad (s : Sn) (prev : Option (List UInt8)) : Bool :=
  !(cleanV s.path).2 || (cleanV s.path).1 != s.path || s.path.isEmpty || (match prev with | none => false | some q => !(Op.bytesLess q s.path))
/-- Then the rest. -/
def restBad (s : Sn) : Bool :=
  s.kind != 48 && s.kind != 53 && s.kind != 50 || s.kind != 48 && !s.data.isEmpty || ((s.kind == 50) != !s.link.isEmpty)

def prevOf (ss : List Sn) (k : Nat) : Option (List UInt8) := if k = 0 then none else (ss[k - 1]?).map Sn.path
def rightAt (ss : List Sn) (k : Nat) (s : Sn) : Bool :=
  !pathBad s (prevOf ss k) && !restBad s && (findL ss (upL s.path)).2 && (findL ss (upL s.path)).1.kind == 53

set_option maxRecDepth 100000 in
set_option maxHeartbeats 8000000 in
theorem refRightAt_any {w : World} {A : Option Addr} {n c k : Nat} {ns : List Nd} {ss : List Sn} (s : Sn) (hN : Nodes w A ns) (hL : Like w ns ss) (hl : n = ns.length) (hn : n ≤ 1000000000) (hp : ∀ t ∈ ss, t.path.length ≤ 1000000000) (hk : k < n) (hs : ss[k]? = some s) :
    Calls Try.prog 55 #[.slice A n c, .int .i64 k] w fun e w' => e = .returned (.bool (rightAt ss k s)) ∧ Below w.heap.size w w' := by
  obtain ⟨x, hx⟩ : ∃ x, ns[k]? = some x := ⟨_, List.getElem?_eq_getElem (by omega)⟩
  have hxs := hL.2 k x s hx hs
  have hpl := hp s (List.mem_of_getElem? hs)
  have hkz : (k : Int) < (n : Int) := by omega
  have HCL := fun w => refClean_any s.path (by omega) w
  have HU := fun w => refUp_any s.path (by omega) w
  have hF : ∀ W, Below w.heap.size w W → Calls Try.prog 32 #[.slice A n c, .string ⟨(upL s.path).toArray⟩] W fun e w' => ∃ z : Nd, e = .returned (.tuple #[.agg z.cells.toArray, .bool (findL ss (upL s.path)).2]) ∧ NdAt w' z (findL ss (upL s.path)).1 ∧ Below W.heap.size W w' := fun W hW =>
    refFind_any _ (hN.below hW) (hL.below hW) hl (by omega)
  have hA : ∃ b off, A = some ⟨b, off, none⟩ ∧ b < w.heap.size ∧ ∀ j x, ns[j]? = some x →
    w.cell? ⟨b, off + j * 4, none⟩ = some (.string ⟨x.path.toArray⟩) ∧ w.cell? ⟨b, off + j * 4 + 1, none⟩ = some (.int .u8 x.kind) ∧
    w.cell? ⟨b, off + j * 4 + 2, none⟩ = some (.slice x.adr x.len x.cap) ∧ w.cell? ⟨b, off + j * 4 + 3, none⟩ = some (.string ⟨x.link.toArray⟩) := by
    rcases hN with rfl | h
    · simp at hx
    · exact h
  obtain ⟨b, off, rfl, hbl, hc⟩ := hA
  obtain ⟨x0, x1, x2, x3⟩ := hc k x hx
  rw [hxs.1] at x0
  rw [hxs.2.1] at x1
  rw [hxs.2.2.1] at x3
  have hxl : x.len = s.data.length := hxs.2.2.2.1.1.symm
  rw [hxl] at x2
  -- the node before
  have hprev : ∀ q, prevOf ss k = some q → 0 < k ∧ ∀ W, Below w.heap.size w W → W.cell? ⟨b, off + (k - 1) * 4, none⟩ = some (.string ⟨q.toArray⟩) := fun q hq => by
    unfold prevOf at hq
    split at hq
    · cases hq
    · rename_i h0
      refine ⟨by omega, fun W hW => ?_⟩
      obtain ⟨y, hy⟩ : ∃ y, ns[k - 1]? = some y := ⟨_, List.getElem?_eq_getElem (by omega)⟩
      obtain ⟨t, ht⟩ : ∃ t, ss[k - 1]? = some t := ⟨_, List.getElem?_eq_getElem (by have := hL.1; omega)⟩
      rw [ht] at hq
      obtain rfl : t.path = q := by simpa using hq
      have h1 := (hc (k - 1) y hy).1
      rw [(hL.2 (k - 1) y t hy ht).1] at h1
      exact (hW.cell (p := ⟨b, off + (k - 1) * 4, none⟩) hbl).trans h1
  have hprevN : prevOf ss k = none → k = 0 := fun h => by
    unfold prevOf at h
    split at h
    · assumption
    · rename_i h0
      have ht : ss[k - 1]? = some (ss[k - 1]'(by have := hL.1; omega)) := List.getElem?_eq_getElem _
      rw [ht] at h
      cases h
  have hk1 := heap_alloc_new w (.cells #[.string ⟨s.path.toArray⟩, .int .u8 s.kind, .slice x.adr s.data.length x.cap, .string ⟨s.link.toArray⟩] 31)
  obtain ⟨w1, hw1⟩ : ∃ w1, w1 = w.alloc (.cells #[.string ⟨s.path.toArray⟩, .int .u8 s.kind, .slice x.adr s.data.length x.cap, .string ⟨s.link.toArray⟩] 31) := ⟨_, rfl⟩
  rw [← hw1] at hk1
  have hb1 : Below w.heap.size w w1 := by rw [hw1]; exact (Below.refl _ _).alloc (Nat.le_refl _) _
  have hg1 := (Array.getElem?_eq_some_iff.1 hk1).1
  have HC4 := Lib.hid (show ∀ W, Below w1.heap.size w1 W → W.cell? ⟨w.heap.size, 0, none⟩ = some (.string ⟨s.path.toArray⟩) ∧ W.cell? ⟨w.heap.size, 1, none⟩ = some (.int .u8 s.kind) ∧ W.cell? ⟨w.heap.size, 2, none⟩ = some (.slice x.adr s.data.length x.cap) ∧ W.cell? ⟨w.heap.size, 3, none⟩ = some (.string ⟨s.link.toArray⟩) from fun W hW => node_cells ((hW.block _ hg1).trans hk1))
  have HB1 := Lib.hid hb1
  have HF := Lib.hid hF
  have HRA := Lib.hid (show rightAt ss k s = (!pathBad s (prevOf ss k) && !restBad s && (findL ss (upL s.path)).2 && (findL ss (upL s.path)).1.kind == 53) from rfl)
  obtain ⟨⟨c1, ok⟩, hcl⟩ : ∃ cl, cleanV s.path = cl := ⟨_, rfl⟩
  rw [hcl] at HCL
  have HPB := Lib.hid (show pathBad s (prevOf ss k) = (!ok || c1 != s.path || s.path.isEmpty || (match prevOf ss k with | none => false | some q => !(Op.bytesLess q s.path))) from by unfold pathBad; rw [hcl])
  have HRB := Lib.hid (show restBad s = (s.kind != 48 && s.kind != 53 && s.kind != 50 || s.kind != 48 && !s.data.isEmpty || ((s.kind == 50) != !s.link.isEmpty)) from rfl)
  have HDL := Lib.hid (show s.data.isEmpty = decide (s.data.length = 0) from by cases s.data <;> simp)
  generalize hFD : findL ss (upL s.path) = fd at HF HRA
  obtain ⟨fs, fb⟩ := fd
  dsimp only at HF HRA HCL
  clear hN hL hl hp hs hx hc hxs hxl hF hg1 hb1 hk1 hcl hFD
  generalize rightAt ss k s = RA at HRA ⊢
  generalize prevOf ss k = pv at HRA hprev hprevN HPB
  generalize pathBad s pv = PB at HRA HPB
  generalize restBad s = RB at HRA HRB
  generalize s.path = p at *
  generalize s.kind = K at *
  generalize s.link = l at *
  generalize s.data.isEmpty = de at HRB HDL
  generalize s.data.length = D at *
  go_enter Try.func55, Try.ntmps55
  go_wp2_with fail
  rw [← hw1]
  clear hw1 x0 x1 x2 x3
  refine (HCL _).mono ?_
  rintro e w2 ⟨rfl, hb2⟩
  clear HCL
  have HXC := fun W hW => (HC4.out W hW).1
  go_upto_region 3 with fail
  go_cut [46] from 10 to 93 (fun t wx => t = .bool PB ∧ Below w1.heap.size w1 wx)
  case first =>
    cases ok with
    | false =>
      refine wp_region_ordV [0, 1, 2, 3, 4, 5, 6, 7, 8, 9, 10, 11, 12, 13, 14, 15, 16, 17, 18, 19, 20, 21, 22, 23, 24, 25, 26] [] (by kernel_rfl) (by kernel_rfl) (by kernel_rfl) (fun d _ _ _ _ h => by cases d <;> exact h) (by kernel_rfl) ?_
      intro WG hWG hBG
      have u0 := fun W (hW : Below WG.heap.size WG W) => HXC W (hb2.trans ((hBG.trans (hW.mono hBG.size)).mono hb2.size))
      have HBG := Lib.hid (hb2.trans (hBG.mono hb2.size))
      clear hWG hBG
      repeat (first | (refine wpOrd_take (v := ?_) rfl rfl rfl (fun W hW => ?_) ?_; rotate_left; (focus (go_simp; with_reducible rfl)); simp only [Act.put, List.setIfInBounds_toArray, List.set_cons_succ, List.set_cons_zero]) | (refine wpOrd_skip rfl rfl ?_; simp only [Act.put, List.setIfInBounds_toArray, List.set_cons_succ, List.set_cons_zero]))
      refine wpOrd_nil ?_
      go_wp2_with fail
      go_meet
      exact ⟨by rw [HPB.out]; simp, HBG.out⟩
    | true =>
      by_cases hc1 : c1 = p
      · subst hc1
        have hcb : (c1 == c1) = true := by simp
        have hcn : (c1 != c1) = false := by simp
        by_cases hp0 : c1 = []
        · subst hp0
          refine wp_region_ordV [0, 1, 2, 3, 4, 5, 6, 7, 8, 9, 10, 11, 12, 13, 14, 15, 16, 17, 18, 19, 20, 21, 22, 23, 24, 25, 26] [] (by kernel_rfl) (by kernel_rfl) (by kernel_rfl) (fun d _ _ _ _ h => by cases d <;> exact h) (by kernel_rfl) ?_
          intro WG hWG hBG
          have u0 := fun W (hW : Below WG.heap.size WG W) => HXC W (hb2.trans ((hBG.trans (hW.mono hBG.size)).mono hb2.size))
          have HBG := Lib.hid (hb2.trans (hBG.mono hb2.size))
          clear hWG hBG
          repeat (first | (refine wpOrd_take (v := ?_) rfl rfl rfl (fun W hW => ?_) ?_; rotate_left; (focus (go_simp; with_reducible rfl)); simp only [Act.put, List.setIfInBounds_toArray, List.set_cons_succ, List.set_cons_zero]) | (refine wpOrd_skip rfl rfl ?_; simp only [Act.put, List.setIfInBounds_toArray, List.set_cons_succ, List.set_cons_zero]))
          refine wpOrd_nil ?_
          go_wp2_with fail
          go_meet
          exact ⟨by rw [HPB.out]; simp, HBG.out⟩
        · have he0 := emp hp0
          have hp0b : (c1 == []) = false := by simpa using hp0
          cases pv with
          | none =>
            obtain rfl := hprevN rfl
            refine wp_region_ordV [0, 1, 2, 3, 4, 5, 6, 7, 8, 9, 10, 11, 12, 13, 14, 15, 16, 17, 18, 19, 20, 21, 22, 23, 24, 25, 26] [] (by kernel_rfl) (by kernel_rfl) (by kernel_rfl) (fun d _ _ _ _ h => by cases d <;> exact h) (by kernel_rfl) ?_
            intro WG hWG hBG
            have u0 := fun W (hW : Below WG.heap.size WG W) => HXC W (hb2.trans ((hBG.trans (hW.mono hBG.size)).mono hb2.size))
            have HBG := Lib.hid (hb2.trans (hBG.mono hb2.size))
            clear hWG hBG
            repeat (first | (refine wpOrd_take (v := ?_) rfl rfl rfl (fun W hW => ?_) ?_; rotate_left; (focus (go_simp; with_reducible rfl)); simp only [Act.put, List.setIfInBounds_toArray, List.set_cons_succ, List.set_cons_zero]) | (refine wpOrd_skip rfl rfl ?_; simp only [Act.put, List.setIfInBounds_toArray, List.set_cons_succ, List.set_cons_zero]))
            refine wpOrd_nil ?_
            go_wp2_with fail
            go_meet
            exact ⟨by rw [HPB.out]; simp [*], HBG.out⟩
          | some q =>
            obtain ⟨hk0, HYC⟩ := hprev q rfl
            have HYC := fun W (hW : Below w1.heap.size w1 W) => HYC W (HB1.out.trans (hW.mono HB1.out.size))
            have hk0z : (0 : Int) < (k : Int) := by omega
            have hkm : IntKind.i64.wrap ((k - 1 : Nat) : Int) = ((k - 1 : Nat) : Int) := by rw [IntKind.wrap_i64]; omega
            have hkn : (k : Int) - 1 = ((k - 1 : Nat) : Int) := by omega
            have hkl : ((k - 1 : Nat) : Int) < (n : Int) := by omega
            cases hbs : Op.bytesLess q c1 with
            | true =>
              refine wp_region_ordV [0, 1, 2, 3, 4, 5, 6, 7, 8, 9, 10, 11, 12, 13, 14, 15, 16, 17, 18, 19, 20, 21, 22, 23, 24, 25, 26] [] (by kernel_rfl) (by kernel_rfl) (by kernel_rfl) (fun d _ _ _ _ h => by cases d <;> exact h) (by kernel_rfl) ?_
              intro WG hWG hBG
              have u0 := fun W (hW : Below WG.heap.size WG W) => HXC W (hb2.trans ((hBG.trans (hW.mono hBG.size)).mono hb2.size))
              have u1 := fun W (hW : Below WG.heap.size WG W) => HYC W (hb2.trans ((hBG.trans (hW.mono hBG.size)).mono hb2.size))
              have HBG := Lib.hid (hb2.trans (hBG.mono hb2.size))
              clear hWG hBG
              repeat (first | (refine wpOrd_take (v := ?_) rfl rfl rfl (fun W hW => ?_) ?_; rotate_left; (focus (go_simp; with_reducible rfl)); simp only [Act.put, List.setIfInBounds_toArray, List.set_cons_succ, List.set_cons_zero]) | (refine wpOrd_skip rfl rfl ?_; simp only [Act.put, List.setIfInBounds_toArray, List.set_cons_succ, List.set_cons_zero]))
              refine wpOrd_nil ?_
              go_wp2_with fail
              go_meet
              exact ⟨by rw [HPB.out]; simp [*], HBG.out⟩
            | false =>
              refine wp_region_ordV [0, 1, 2, 3, 4, 5, 6, 7, 8, 9, 10, 11, 12, 13, 14, 15, 16, 17, 18, 19, 20, 21, 22, 23, 24, 25, 26] [] (by kernel_rfl) (by kernel_rfl) (by kernel_rfl) (fun d _ _ _ _ h => by cases d <;> exact h) (by kernel_rfl) ?_
              intro WG hWG hBG
              have u0 := fun W (hW : Below WG.heap.size WG W) => HXC W (hb2.trans ((hBG.trans (hW.mono hBG.size)).mono hb2.size))
              have u1 := fun W (hW : Below WG.heap.size WG W) => HYC W (hb2.trans ((hBG.trans (hW.mono hBG.size)).mono hb2.size))
              have HBG := Lib.hid (hb2.trans (hBG.mono hb2.size))
              clear hWG hBG
              repeat (first | (refine wpOrd_take (v := ?_) rfl rfl rfl (fun W hW => ?_) ?_; rotate_left; (focus (go_simp; with_reducible rfl)); simp only [Act.put, List.setIfInBounds_toArray, List.set_cons_succ, List.set_cons_zero]) | (refine wpOrd_skip rfl rfl ?_; simp only [Act.put, List.setIfInBounds_toArray, List.set_cons_succ, List.set_cons_zero]))
              refine wpOrd_nil ?_
              go_wp2_with fail
              go_meet
              exact ⟨by rw [HPB.out]; simp [*], HBG.out⟩
      · have hcb : (c1 == p) = false := by simpa using hc1
        have hcn : (c1 != p) = true := by simpa using hc1
        refine wp_region_ordV [0, 1, 2, 3, 4, 5, 6, 7, 8, 9, 10, 11, 12, 13, 14, 15, 16, 17, 18, 19, 20, 21, 22, 23, 24, 25, 26] [] (by kernel_rfl) (by kernel_rfl) (by kernel_rfl) (fun d _ _ _ _ h => by cases d <;> exact h) (by kernel_rfl) ?_
        intro WG hWG hBG
        have u0 := fun W (hW : Below WG.heap.size WG W) => HXC W (hb2.trans ((hBG.trans (hW.mono hBG.size)).mono hb2.size))
        have HBG := Lib.hid (hb2.trans (hBG.mono hb2.size))
        clear hWG hBG
        repeat (first | (refine wpOrd_take (v := ?_) rfl rfl rfl (fun W hW => ?_) ?_; rotate_left; (focus (go_simp; with_reducible rfl)); simp only [Act.put, List.setIfInBounds_toArray, List.set_cons_succ, List.set_cons_zero]) | (refine wpOrd_skip rfl rfl ?_; simp only [Act.put, List.setIfInBounds_toArray, List.set_cons_succ, List.set_cons_zero]))
        refine wpOrd_nil ?_
        go_wp2_with fail
        go_meet
        exact ⟨by rw [HPB.out]; simp [*], HBG.out⟩
  case rest =>
  obtain ⟨rfl, hbc⟩ := hcut
  obtain ⟨n0, n1, n2, n3⟩ := HC4.out wc hbc
  cases PB with
  | true =>
    go_wp2_with fail
    go_ret
    exact ⟨by rw [HRA.out]; rfl, HB1.out.trans (hbc.mono HB1.out.size)⟩
  | false =>
    go_upto_region 5 with fail
    go_cut [79] from 10 to 93 (fun t wx => t = .bool RB ∧ wx = wc)
    case first =>
      have hD0 : D = 0 ∨ 0 < D := by omega
      have hl0 : l = [] ∨ l ≠ [] := by by_cases h : l = [] <;> simp [h]
      by_cases h48 : K = 48
      · subst h48
        rcases hl0 with rfl | hl1
        · skip
          go_wp2_with fail
          go_meet
          exact ⟨by rw [HRB.out]; simp, rfl⟩
        · have hle := emp hl1
          have hlb : (l == []) = false := by simpa using hl1
          go_wp2_with fail
          go_meet
          exact ⟨by rw [HRB.out]; simp [*], rfl⟩
      · have h48b : (K == 48) = false := by simpa using h48
        have h48n : (K != 48) = true := by simpa using h48
        by_cases h53 : K = 53 ∨ K = 50
        · rcases hD0 with rfl | hD1
          · skip
            rcases h53 with rfl | rfl
            · rcases hl0 with rfl | hl1
              · skip
                go_wp2_with fail
                go_meet
                exact ⟨by rw [HRB.out, HDL.out]; simp, rfl⟩
              · have hle := emp hl1
                have hlb : (l == []) = false := by simpa using hl1
                go_wp2_with fail
                go_meet
                exact ⟨by rw [HRB.out, HDL.out]; simp [*], rfl⟩
            · rcases hl0 with rfl | hl1
              · skip
                go_wp2_with fail
                go_meet
                exact ⟨by rw [HRB.out, HDL.out]; simp, rfl⟩
              · have hle := emp hl1
                have hlb : (l == []) = false := by simpa using hl1
                go_wp2_with fail
                go_meet
                exact ⟨by rw [HRB.out, HDL.out]; simp [*], rfl⟩
          · have hDz : (0 : Int) < (D : Int) := by omega
            have hDn : ¬ D = 0 := by omega
            rcases h53 with rfl | rfl
            · rcases hl0 with rfl | hl1
              · skip
                go_wp2_with fail
                go_meet
                exact ⟨by rw [HRB.out, HDL.out]; simp [*], rfl⟩
              · have hle := emp hl1
                have hlb : (l == []) = false := by simpa using hl1
                go_wp2_with fail
                go_meet
                exact ⟨by rw [HRB.out, HDL.out]; simp [*], rfl⟩
            · rcases hl0 with rfl | hl1
              · skip
                go_wp2_with fail
                go_meet
                exact ⟨by rw [HRB.out, HDL.out]; simp [*], rfl⟩
              · have hle := emp hl1
                have hlb : (l == []) = false := by simpa using hl1
                go_wp2_with fail
                go_meet
                exact ⟨by rw [HRB.out, HDL.out]; simp [*], rfl⟩
        · have h53b : (K == 53) = false := by simpa using fun e => h53 (.inl e)
          have h53n : (K != 53) = true := by simpa using fun e => h53 (.inl e)
          have h50b : (K == 50) = false := by simpa using fun e => h53 (.inr e)
          have h50n : (K != 50) = true := by simpa using fun e => h53 (.inr e)
          go_wp2_with fail
          go_meet
          exact ⟨by rw [HRB.out, h48n, h53n, h50n]; rfl, rfl⟩
    case rest =>
    obtain ⟨rfl, rfl⟩ := hcut
    cases RB with
    | true =>
      go_wp2_with fail
      go_ret
      exact ⟨by rw [HRA.out]; rfl, HB1.out.trans (hbc.mono HB1.out.size)⟩
    | false =>
      clear hprev hprevN HXC n1 n2 n3
      have HFw := fun W (hW : Below wc.heap.size wc W) => HF.out W (HB1.out.trans ((hbc.trans (hW.mono hbc.size)).mono HB1.out.size))
      unfold Nd.cells at HFw
      have HBC := Lib.hid (HB1.out.trans (hbc.mono HB1.out.size))
      clear HF hbc
      cases fb with
      | false =>
        go_wp2_with (first | (go_at_call 21; refine (HU _).mono ?_; rintro e w5 ⟨rfl, hb5⟩) | (go_at_call 32; refine (HFw _ hb5).mono ?_; rintro e w6 ⟨z, rfl, hz, hb6⟩))
        go_ret
        exact ⟨by rw [HRA.out]; rfl, HBC.out.trans (((hb5.trans (hb6.mono hb5.size)).alloc (hb5.trans (hb6.mono hb5.size)).size _).mono HBC.out.size)⟩
      | true =>
        go_wp2_with (first | (go_at_call 21; refine (HU _).mono ?_; rintro e w5 ⟨rfl, hb5⟩) | (go_at_call 32; refine (HFw _ hb5).mono ?_; rintro e w6 ⟨z, rfl, hz, hb6⟩))
        go_ret
        exact ⟨by rw [HRA.out, ← hz.2.1]; simp, HBC.out.trans (((hb5.trans (hb6.mono hb5.size)).alloc (hb5.trans (hb6.mono hb5.size)).size _).mono HBC.out.size)⟩

end Go.Proofs.Ytlbipmlbkcdmnaa
