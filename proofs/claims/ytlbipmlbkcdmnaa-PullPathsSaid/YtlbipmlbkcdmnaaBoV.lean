/-
  The chapter's examples, for the puller.
-/
import Derived.Test.YtlbipmlbkcdmnaaMerP
import Derived.Great.BuildSlice
import Derived.Lib.SlBytesConst
namespace Go.Proofs.Ytlbipmlbkcdmnaa
open Go.RowKit Go.Shelf

def mK : Mem := ⟨[97, 47, 98], [], 48, 0, false, [120]⟩
def oK : Opt := ⟨[], false, false⟩

theorem build54K (w : World) : (Instr.build 54 #[(0, .string ⟨#[97, 47, 98]⟩), (2, .int .u8 48)]).run Try.prog w = .ok (.agg #[.string ⟨#[97, 47, 98]⟩, .string ⟨#[]⟩, .int .u8 48, .int .i64 0, .int .i64 0, .int .i64 0, .string ⟨#[]⟩, .string ⟨#[]⟩, .int .i64 0, .int .i64 0, .int .i64 0, .int .i64 0, .int .i64 0, .int .i64 0, .bool false, .slice none 0 0, .slice none 0 0]) w := run_build w 54 _ _ (by kernel_rfl)
theorem build56K (g : Nat) (w : World) : (Instr.build 56 #[(0, .agg #[.string ⟨#[97, 47, 98]⟩, .string ⟨#[]⟩, .int .u8 48, .int .i64 0, .int .i64 0, .int .i64 0, .string ⟨#[]⟩, .string ⟨#[]⟩, .int .i64 0, .int .i64 0, .int .i64 0, .int .i64 0, .int .i64 0, .int .i64 0, .bool false, .slice none 0 0, .slice none 0 0]), (1, .slice (some ⟨g, 0, none⟩) 1 1)]).run Try.prog w = .ok (.agg (memCells mK (.slice none 0 0) (.slice (some ⟨g, 0, none⟩) 1 1)).toArray) w := run_build w 56 _ _ (by kernel_rfl)
theorem build62K (w : World) : (Instr.build 62 #[]).run Try.prog w = .ok (.agg (optCells oK).toArray) w := run_build w 62 _ _ (by kernel_rfl)

theorem Try.info56 : (Try.prog.info? 56).map (fun i => (i.zero, i.size, i.bytes)) = some (some (.agg #[.string ⟨#[]⟩, .string ⟨#[]⟩, .int .u8 0, .int .i64 0, .int .i64 0, .int .i64 0, .string ⟨#[]⟩, .string ⟨#[]⟩, .int .i64 0, .int .i64 0, .int .i64 0, .int .i64 0, .int .i64 0, .int .i64 0, .bool false, .slice none 0 0, .slice none 0 0, .slice none 0 0]), 18, 224) := by kernel_rfl

theorem slice48K (g : Nat) (w : World) : (Instr.buildSlice 48 1 #[(0, .agg (memCells mK (.slice none 0 0) (.slice (some ⟨g, 0, none⟩) 1 1)).toArray)]).run Try.prog w =
    .ok (.slice (some ⟨w.heap.size, 0, none⟩) 1 1) (w.alloc (.cells (memCells mK (.slice none 0 0) (.slice (some ⟨g, 0, none⟩) 1 1)).toArray 56)) := by
  obtain ⟨i0, hi, hz0, hz1, hz2⟩ := info_parts Try.info56
  refine run_buildSlice w 48 56 1 _ _ i0 _ Try.underlying48 hi hz0 (by rw [hz1]; decide) (by rw [hz1]; decide) ?_
  rw [hz1]
  kernel_rfl

theorem whereK : whereV [114] [97, 47, 46, 46, 47, 98] = ([], false) := by kernel_rfl
theorem targetK : targetV [114] [114, 47, 97] [46, 46, 47, 120] = ([], false) := by kernel_rfl
theorem extractK : extractV oK [] [mK] = ([⟨[97], 53, [], []⟩, ⟨[97, 47, 98], 48, [120], []⟩], []) := by kernel_rfl

theorem row_nil (w : World) : RowOf w (.slice none 0 0) [] := ⟨none, 0, [], rfl, .inl rfl, ⟨rfl, fun j x s hx _ => by simp at hx⟩, fun _ => rfl⟩

set_option maxRecDepth 100000 in
set_option maxHeartbeats 2000000 in
theorem pullKnown (w : World) : Calls Try.prog 40 #[] w fun e w' => e = .returned (.bool true) ∧ Below w.heap.size w w' := by
  have HW := fun w => where_any [114] [97, 47, 46, 46, 47, 98] (by decide) (by decide) w
  have HT := fun w => target_any [114] [114, 47, 97] [46, 46, 47, 120] (by decide) (by decide) (by decide) w
  rw [whereK] at HW
  rw [targetK] at HT
  have b54 := build54K
  have b56 := build56K
  have b62 := build62K
  have s48 := slice48K
  have hcv := fun w => Lib.run_convert_bytes_const (P := Try.prog) w 29 5 #[.int .u8 120] 1 1 Try.underlying29 Try.underlying5
  simp only [List.size_toArray, List.length_cons, List.length_nil, Nat.zero_add, Nat.reduceAdd] at hcv
  go_enter Try.func40, Try.ntmps40
  go_wp2_with fail
  refine (HW _).mono ?_
  rintro e w1 ⟨rfl, hb1⟩
  clear HW
  go_wp2_with fail
  refine (HT _).mono ?_
  rintro e w2 ⟨rfl, hb2⟩
  have HB2 := Lib.hid (hb1.trans (hb2.mono hb1.size))
  clear HT hb1 hb2
  go_wp2_with fail
  have hN0 := heap_alloc_new (w2.alloc (.cells #[.int .u8 120] 5 (1, 2))) (.cells #[.string ⟨#[97, 47, 98]⟩, .string ⟨#[]⟩, .int .u8 48, .int .i64 0, .int .i64 0, .int .i64 0, .string ⟨#[]⟩, .string ⟨#[]⟩, .int .i64 0, .int .i64 0, .int .i64 0, .int .i64 0, .int .i64 0, .int .i64 0, .bool false, .slice none 0 0, .slice none 0 0, .slice (some ⟨w2.heap.size, 0, none⟩) 1 1] 56)
  have hb3 : Below w2.heap.size w2 ((w2.alloc (.cells #[.int .u8 120] 5 (1, 2))).alloc (.cells #[.string ⟨#[97, 47, 98]⟩, .string ⟨#[]⟩, .int .u8 48, .int .i64 0, .int .i64 0, .int .i64 0, .string ⟨#[]⟩, .string ⟨#[]⟩, .int .i64 0, .int .i64 0, .int .i64 0, .int .i64 0, .int .i64 0, .int .i64 0, .bool false, .slice none 0 0, .slice none 0 0, .slice (some ⟨w2.heap.size, 0, none⟩) 1 1] 56)) := ((Below.refl _ _).alloc (Nat.le_refl _) _).alloc (by simp) _
  have hD : ((w2.alloc (.cells #[.int .u8 120] 5 (1, 2))).alloc (.cells #[.string ⟨#[97, 47, 98]⟩, .string ⟨#[]⟩, .int .u8 48, .int .i64 0, .int .i64 0, .int .i64 0, .string ⟨#[]⟩, .string ⟨#[]⟩, .int .i64 0, .int .i64 0, .int .i64 0, .int .i64 0, .int .i64 0, .int .i64 0, .bool false, .slice none 0 0, .slice none 0 0, .slice (some ⟨w2.heap.size, 0, none⟩) 1 1] 56)).heap[w2.heap.size]? = some (.cells #[.int .u8 120] 5 (1, 2)) := by
    unfold World.alloc
    simp [Array.getElem?_push]
  rw [show (w2.alloc (.cells #[.int .u8 120] 5 (1, 2))).heap.size = w2.heap.size + 1 from by simp] at hN0
  generalize (w2.alloc (.cells #[.int .u8 120] 5 (1, 2))).alloc (.cells #[.string ⟨#[97, 47, 98]⟩, .string ⟨#[]⟩, .int .u8 48, .int .i64 0, .int .i64 0, .int .i64 0, .string ⟨#[]⟩, .string ⟨#[]⟩, .int .i64 0, .int .i64 0, .int .i64 0, .int .i64 0, .int .i64 0, .int .i64 0, .bool false, .slice none 0 0, .slice none 0 0, .slice (some ⟨w2.heap.size, 0, none⟩) 1 1] 56) = w3 at hN0 hb3 hD ⊢
  have hN : w3.heap[w2.heap.size + 1]? = some (.cells (memCells mK (.slice none 0 0) (.slice (some ⟨w2.heap.size, 0, none⟩) 1 1)).toArray 56 (0, 0)) := hN0
  have hms : MemsRow w3 (.slice (some ⟨w2.heap.size + 1, 0, none⟩) 1 1) [mK] := by
    refine ⟨_, 1, rfl, fun j m hm => ?_⟩
    match j, hm with
    | 0, hm =>
      cases hm
      refine ⟨_, 0, _, _, rfl, ⟨⟨_, 1, rfl, ⟨rfl, fun j hj => ⟨_, rfl, ?_⟩⟩, by decide, by decide⟩, ⟨_, _, _, rfl⟩, fun h => by cases h⟩, fun i x hx => by have := row_cells hN i x hx; rw [Addr.add_lit, Nat.zero_add] at this; simpa using this⟩
      obtain rfl : j = 0 := by have : j < 1 := hj; omega
      have hc : w3.cell? ⟨w2.heap.size, 0, none⟩ = some (.int .u8 120) := by
        unfold World.cell?
        dsimp only
        rw [hD]
        rfl
      exact hc
  have HE := extract_any (o := oK) (row_nil w3) hms (fun m hm => by rw [List.mem_singleton.1 hm]; exact ⟨by decide, by decide, by decide⟩) ⟨by decide, by simp⟩ (by decide)
  rw [extractK] at HE
  rw [show optCells oK = [.string ⟨#[]⟩, .bool false, .bool false] from rfl] at HE
  dsimp only at HE
  have HB3 := Lib.hid (HB2.out.trans (hb3.mono HB2.out.size))
  clear hN hN0 hb3 hD hms b54 b56 b62 s48 hcv
  refine HE.mono ?_
  rintro e w4 ⟨v4, r4, rfl, hR, hO, hb4⟩
  have HB4 := Lib.hid (HB3.out.trans (hb4.mono HB3.out.size))
  obtain ⟨A, c, ns, rfl, hNs, hL, _⟩ := hR
  obtain ⟨A', c', rfl⟩ := own_form hO
  have hl2 : ns.length = 2 := hL.1
  obtain ⟨x0, x1, rfl⟩ : ∃ x0 x1, ns = [x0, x1] := by
    match ns, hl2 with
    | [a, b], _ => exact ⟨a, b, rfl⟩
  have k0 := (hL.2 0 x0 _ rfl rfl).2.1
  have p1 := (hL.2 1 x1 _ rfl rfl).1
  dsimp only at k0 p1
  rcases hNs with h | ⟨b, off, rfl, _, hc⟩
  · cases h
  · have q0 := (hc 0 x0 rfl).2.1
    have q1 := (hc 1 x1 rfl).1
    rw [k0, Nat.zero_mul, Nat.add_zero] at q0
    rw [p1, Nat.one_mul] at q1
    clear HE hc hL hl2 k0 p1 hO hb4 HB3 HB2
    go_wp2_with fail
    go_ret
    exact ⟨rfl, HB4.out⟩

end Go.Proofs.Ytlbipmlbkcdmnaa
