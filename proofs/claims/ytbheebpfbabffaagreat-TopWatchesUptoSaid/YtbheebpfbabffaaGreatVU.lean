/- Joined: a part of the proof of TopWatches. -/
import Derived.Test.YtbheebpfbabffaaGreatVN
set_option linter.unusedSimpArgs false
set_option linter.unusedVariables false
namespace Go.Proofs.YtbheebpfbabffaaGreat.Wat
open Go.RowKit Go Go.Lib Mach Go.MapKept
attribute [local irreducible] wpStill

set_option maxHeartbeats 16000000 in
set_option maxRecDepth 100000 in
theorem checkOp_A (k en vl : ByteArray) (le li : Int) (w : World) : Calls Tryz.prog 148 #[.agg #[.int .i64 0, .string k, .string en, .string vl, .int .i64 le, .int .i64 li]] w fun x w' => (∃ v : Int, x = .returned (.int .i64 v)) ∧ Below w.heap.size w w' := by
  have hN := alloc_new w #[.int .i64 0, .string k, .string en, .string vl, .int .i64 le, .int .i64 li] 72
  have hz : w.heap.size < (w.alloc (.cells #[.int .i64 0, .string k, .string en, .string vl, .int .i64 le, .int .i64 li] 72)).heap.size := by simp
  have hb := bmore (Below.refl w.heap.size w) (.cells #[.int .i64 0, .string k, .string en, .string vl, .int .i64 le, .int .i64 li] 72)
  have hgtr := binOp_string_gtr_w
  have hk := fun w => key_b k w
  generalize kbv k = kb at hk
  cases kb with
  | false =>
    cases he : (en.toList == ([] : List UInt8)) with
    | true =>
      go_enter Tryz.func148, Tryz.ntmps148
      go_upto_region 1 with fail
      generalize w.alloc (.cells #[.int .i64 0, .string k, .string en, .string vl, .int .i64 le, .int .i64 li] 72) = wa at *
      go_still_tail 25, (by kernel_rfl)
      still_call (still_of (must_b _ _ _))
      repeat still_step
      still_call (still_of (hk _))
      have HN : Aside _ := hN
      have HZ : Aside _ := hz
      have HB : Aside _ := hb
      clear hN hz hb hk hgtr
      repeat still_step
      still_call (still_of (must_b _ _ _))
      repeat still_step
      refine wpStill_nil ?_
      change wpList _ _ _ _ _ wa.drew
      have hN := HN.out
      have hz := HZ.out
      have hb := HB.out
      clear HN HZ HB
      go_wp2_with fail
      go_at_call 146
      refine (first_any _ 2 _ (by omega) ?_).mono ?_
      · intro o ho
        first | rw [alloc_new] | rw [cell_drew, alloc_new]
        obtain rfl | rfl : o = 0 ∨ o = 1 := by omega
        · exact ⟨_, rfl⟩
        · exact ⟨_, rfl⟩
      rintro e w' ⟨⟨v, rfl⟩, rfl⟩
      obtain ⟨wc, hwc⟩ : ∃ wc, wc = (wa.alloc (.cells #[.int .i64 (mustv true 3), .int .i64 (mustv false 1)] 43)).drew := ⟨_, rfl⟩
      have hb2 : Below w.heap.size w wc := by rw [hwc]; exact (bmore hb _).drew
      have hN2 : ∀ o, wc.cell? ⟨w.heap.size, o, none⟩ = (#[.int .i64 0, .string k, .string en, .string vl, .int .i64 le, .int .i64 li] : Array Value)[o]? := fun o => by rw [hwc, cell_drew]; exact (alloc_old wa _ hz o).trans (hN o)
      have hz2 : w.heap.size < wc.heap.size := Nat.lt_of_lt_of_le hz (by rw [hwc]; show wa.heap.size ≤ (wa.alloc _).heap.size; simp)
      first | rw [← hwc] | rw [show (wa.drew.alloc (.cells #[.int .i64 (mustv true 3), .int .i64 (mustv false 1)] 43)) = wc from hwc.symm]
      clear hwc hN hz hb
      go_wp2_with fail
      go_still_tail 15, (by kernel_rfl)
      still_call (still_of (must_b _ _ _))
      repeat still_step
      still_call (still_of (must_b _ _ _))
      repeat still_step
      refine wpStill_nil ?_
      change wpList _ _ _ _ _ wc.drew
      go_wp2_with fail
      go_at_call 146
      refine (first_any _ 3 _ (by omega) ?_).mono ?_
      · intro o ho
        first | rw [alloc_new] | rw [cell_drew, alloc_new]
        obtain rfl | rfl | rfl : o = 0 ∨ o = 1 ∨ o = 2 := by omega
        · exact ⟨_, rfl⟩
        · exact ⟨_, rfl⟩
        · exact ⟨_, rfl⟩
      rintro e w' ⟨⟨v2, rfl⟩, rfl⟩
      go_wp2
      go_ret
      exact ⟨⟨_, rfl⟩, by first | exact bmore hb2.drew _ | exact (bmore hb2 _).drew⟩
    | false =>
      go_enter Tryz.func148, Tryz.ntmps148
      go_upto_region 1 with fail
      generalize w.alloc (.cells #[.int .i64 0, .string k, .string en, .string vl, .int .i64 le, .int .i64 li] 72) = wa at *
      go_still_tail 25, (by kernel_rfl)
      still_call (still_of (must_b _ _ _))
      repeat still_step
      still_call (still_of (hk _))
      have HN : Aside _ := hN
      have HZ : Aside _ := hz
      have HB : Aside _ := hb
      clear hN hz hb hk hgtr
      repeat still_step
      still_call (still_of (must_b _ _ _))
      repeat still_step
      refine wpStill_nil ?_
      change wpList _ _ _ _ _ wa.drew
      have hN := HN.out
      have hz := HZ.out
      have hb := HB.out
      clear HN HZ HB
      go_wp2_with fail
      go_at_call 146
      refine (first_any _ 2 _ (by omega) ?_).mono ?_
      · intro o ho
        first | rw [alloc_new] | rw [cell_drew, alloc_new]
        obtain rfl | rfl : o = 0 ∨ o = 1 := by omega
        · exact ⟨_, rfl⟩
        · exact ⟨_, rfl⟩
      rintro e w' ⟨⟨v, rfl⟩, rfl⟩
      obtain ⟨wc, hwc⟩ : ∃ wc, wc = (wa.alloc (.cells #[.int .i64 (mustv true 3), .int .i64 (mustv false 1)] 43)).drew := ⟨_, rfl⟩
      have hb2 : Below w.heap.size w wc := by rw [hwc]; exact (bmore hb _).drew
      have hN2 : ∀ o, wc.cell? ⟨w.heap.size, o, none⟩ = (#[.int .i64 0, .string k, .string en, .string vl, .int .i64 le, .int .i64 li] : Array Value)[o]? := fun o => by rw [hwc, cell_drew]; exact (alloc_old wa _ hz o).trans (hN o)
      have hz2 : w.heap.size < wc.heap.size := Nat.lt_of_lt_of_le hz (by rw [hwc]; show wa.heap.size ≤ (wa.alloc _).heap.size; simp)
      first | rw [← hwc] | rw [show (wa.drew.alloc (.cells #[.int .i64 (mustv true 3), .int .i64 (mustv false 1)] 43)) = wc from hwc.symm]
      clear hwc hN hz hb
      go_wp2_with fail
      go_still_tail 15, (by kernel_rfl)
      still_call (still_of (must_b _ _ _))
      repeat still_step
      still_call (still_of (must_b _ _ _))
      repeat still_step
      refine wpStill_nil ?_
      change wpList _ _ _ _ _ wc.drew
      go_wp2_with fail
      go_at_call 146
      refine (first_any _ 3 _ (by omega) ?_).mono ?_
      · intro o ho
        first | rw [alloc_new] | rw [cell_drew, alloc_new]
        obtain rfl | rfl | rfl : o = 0 ∨ o = 1 ∨ o = 2 := by omega
        · exact ⟨_, rfl⟩
        · exact ⟨_, rfl⟩
        · exact ⟨_, rfl⟩
      rintro e w' ⟨⟨v2, rfl⟩, rfl⟩
      go_wp2
      go_ret
      exact ⟨⟨_, rfl⟩, by first | exact bmore hb2.drew _ | exact (bmore hb2 _).drew⟩
  | true =>
    cases he : (en.toList == ([] : List UInt8)) with
    | true =>
      go_enter Tryz.func148, Tryz.ntmps148
      go_upto_region 1 with fail
      generalize w.alloc (.cells #[.int .i64 0, .string k, .string en, .string vl, .int .i64 le, .int .i64 li] 72) = wa at *
      go_still_tail 25, (by kernel_rfl)
      still_call (still_of (must_b _ _ _))
      repeat still_step
      still_call (still_of (hk _))
      repeat still_step
      still_call (still_of (must_b _ _ _))
      repeat still_step
      refine wpStill_nil ?_
      change wpList _ _ _ _ _ wa.drew
      go_wp2_with fail
      go_at_call 146
      refine (first_any _ 2 _ (by omega) ?_).mono ?_
      · intro o ho
        first | rw [alloc_new] | rw [cell_drew, alloc_new]
        obtain rfl | rfl : o = 0 ∨ o = 1 := by omega
        · exact ⟨_, rfl⟩
        · exact ⟨_, rfl⟩
      rintro e w' ⟨⟨v, rfl⟩, rfl⟩
      obtain ⟨wc, hwc⟩ : ∃ wc, wc = (wa.alloc (.cells #[.int .i64 (mustv true 3), .int .i64 (mustv true 1)] 43)).drew := ⟨_, rfl⟩
      have hb2 : Below w.heap.size w wc := by rw [hwc]; exact (bmore hb _).drew
      have hN2 : ∀ o, wc.cell? ⟨w.heap.size, o, none⟩ = (#[.int .i64 0, .string k, .string en, .string vl, .int .i64 le, .int .i64 li] : Array Value)[o]? := fun o => by rw [hwc, cell_drew]; exact (alloc_old wa _ hz o).trans (hN o)
      have hz2 : w.heap.size < wc.heap.size := Nat.lt_of_lt_of_le hz (by rw [hwc]; show wa.heap.size ≤ (wa.alloc _).heap.size; simp)
      first | rw [← hwc] | rw [show (wa.drew.alloc (.cells #[.int .i64 (mustv true 3), .int .i64 (mustv true 1)] 43)) = wc from hwc.symm]
      clear hwc hN hz hb
      go_wp2_with fail
      go_still_tail 15, (by kernel_rfl)
      still_call (still_of (must_b _ _ _))
      repeat still_step
      still_call (still_of (must_b _ _ _))
      repeat still_step
      refine wpStill_nil ?_
      change wpList _ _ _ _ _ wc.drew
      go_wp2_with fail
      go_at_call 146
      refine (first_any _ 3 _ (by omega) ?_).mono ?_
      · intro o ho
        first | rw [alloc_new] | rw [cell_drew, alloc_new]
        obtain rfl | rfl | rfl : o = 0 ∨ o = 1 ∨ o = 2 := by omega
        · exact ⟨_, rfl⟩
        · exact ⟨_, rfl⟩
        · exact ⟨_, rfl⟩
      rintro e w' ⟨⟨v2, rfl⟩, rfl⟩
      go_wp2
      go_ret
      exact ⟨⟨_, rfl⟩, by first | exact bmore hb2.drew _ | exact (bmore hb2 _).drew⟩
    | false =>
      go_enter Tryz.func148, Tryz.ntmps148
      go_upto_region 1 with fail
      generalize w.alloc (.cells #[.int .i64 0, .string k, .string en, .string vl, .int .i64 le, .int .i64 li] 72) = wa at *
      go_still_tail 25, (by kernel_rfl)
      still_call (still_of (must_b _ _ _))
      repeat still_step
      still_call (still_of (hk _))
      repeat still_step
      still_call (still_of (must_b _ _ _))
      repeat still_step
      refine wpStill_nil ?_
      change wpList _ _ _ _ _ wa.drew
      go_wp2_with fail
      go_at_call 146
      refine (first_any _ 2 _ (by omega) ?_).mono ?_
      · intro o ho
        first | rw [alloc_new] | rw [cell_drew, alloc_new]
        obtain rfl | rfl : o = 0 ∨ o = 1 := by omega
        · exact ⟨_, rfl⟩
        · exact ⟨_, rfl⟩
      rintro e w' ⟨⟨v, rfl⟩, rfl⟩
      obtain ⟨wc, hwc⟩ : ∃ wc, wc = (wa.alloc (.cells #[.int .i64 (mustv true 3), .int .i64 (mustv (!Op.bytesLess en.toList k.toList && !en.toList == k.toList) 1)] 43)).drew := ⟨_, rfl⟩
      have hb2 : Below w.heap.size w wc := by rw [hwc]; exact (bmore hb _).drew
      have hN2 : ∀ o, wc.cell? ⟨w.heap.size, o, none⟩ = (#[.int .i64 0, .string k, .string en, .string vl, .int .i64 le, .int .i64 li] : Array Value)[o]? := fun o => by rw [hwc, cell_drew]; exact (alloc_old wa _ hz o).trans (hN o)
      have hz2 : w.heap.size < wc.heap.size := Nat.lt_of_lt_of_le hz (by rw [hwc]; show wa.heap.size ≤ (wa.alloc _).heap.size; simp)
      first | rw [← hwc] | rw [show (wa.drew.alloc (.cells #[.int .i64 (mustv true 3), .int .i64 (mustv (!Op.bytesLess en.toList k.toList && !en.toList == k.toList) 1)] 43)) = wc from hwc.symm]
      clear hwc hN hz hb
      go_wp2_with fail
      go_still_tail 15, (by kernel_rfl)
      still_call (still_of (must_b _ _ _))
      repeat still_step
      still_call (still_of (must_b _ _ _))
      repeat still_step
      refine wpStill_nil ?_
      change wpList _ _ _ _ _ wc.drew
      go_wp2_with fail
      go_at_call 146
      refine (first_any _ 3 _ (by omega) ?_).mono ?_
      · intro o ho
        first | rw [alloc_new] | rw [cell_drew, alloc_new]
        obtain rfl | rfl | rfl : o = 0 ∨ o = 1 ∨ o = 2 := by omega
        · exact ⟨_, rfl⟩
        · exact ⟨_, rfl⟩
        · exact ⟨_, rfl⟩
      rintro e w' ⟨⟨v2, rfl⟩, rfl⟩
      go_wp2
      go_ret
      exact ⟨⟨_, rfl⟩, by first | exact bmore hb2.drew _ | exact (bmore hb2 _).drew⟩
end Go.Proofs.YtbheebpfbabffaaGreat.Wat

namespace Go.Proofs.YtbheebpfbabffaaGreat.Wat
open Go.RowKit Go Go.Lib Mach Go.MapKept
attribute [local irreducible] wpStill

set_option maxHeartbeats 16000000 in
set_option maxRecDepth 100000 in
theorem checkOp_B (kd : Int) (h1 : 0 ≤ kd) (h0 : ¬ kd = 0) (k en vl : ByteArray) (le li : Int) (w : World) : Calls Tryz.prog 148 #[.agg #[.int .i64 kd, .string k, .string en, .string vl, .int .i64 le, .int .i64 li]] w fun x w' => (∃ v : Int, x = .returned (.int .i64 v)) ∧ Below w.heap.size w w' := by
  have hN := alloc_new w #[.int .i64 kd, .string k, .string en, .string vl, .int .i64 le, .int .i64 li] 72
  have hz : w.heap.size < (w.alloc (.cells #[.int .i64 kd, .string k, .string en, .string vl, .int .i64 le, .int .i64 li] 72)).heap.size := by simp
  have hb := bmore (Below.refl w.heap.size w) (.cells #[.int .i64 kd, .string k, .string en, .string vl, .int .i64 le, .int .i64 li] 72)
  have hgtr := binOp_string_gtr_w
  have hk := fun w => key_b k w
  generalize kbv k = kb at hk
  cases kb with
  | false =>
    go_enter Tryz.func148, Tryz.ntmps148
    go_upto_region 1 with fail
    generalize w.alloc (.cells #[.int .i64 kd, .string k, .string en, .string vl, .int .i64 le, .int .i64 li] 72) = wa at *
    go_still_tail 25, (by kernel_rfl)
    still_call (still_of (must_b _ _ _))
    repeat still_step
    still_call (still_of (hk _))
    have HN : Aside _ := hN
    have HZ : Aside _ := hz
    have HB : Aside _ := hb
    clear hN hz hb hk hgtr
    repeat still_step
    still_call (still_of (must_b _ _ _))
    repeat still_step
    refine wpStill_nil ?_
    change wpList _ _ _ _ _ wa.drew
    have hN := HN.out
    have hz := HZ.out
    have hb := HB.out
    clear HN HZ HB
    go_wp2_with fail
    go_at_call 146
    refine (first_any _ 2 _ (by omega) ?_).mono ?_
    · intro o ho
      first | rw [alloc_new] | rw [cell_drew, alloc_new]
      obtain rfl | rfl : o = 0 ∨ o = 1 := by omega
      · exact ⟨_, rfl⟩
      · exact ⟨_, rfl⟩
    rintro e w' ⟨⟨v, rfl⟩, rfl⟩
    go_wp2
    go_ret
    exact ⟨⟨_, rfl⟩, by first | exact bmore hb.drew _ | exact (bmore hb _).drew⟩
  | true =>
    cases he : (en.toList == ([] : List UInt8)) with
    | true =>
      go_enter Tryz.func148, Tryz.ntmps148
      go_upto_region 1 with fail
      generalize w.alloc (.cells #[.int .i64 kd, .string k, .string en, .string vl, .int .i64 le, .int .i64 li] 72) = wa at *
      go_still_tail 25, (by kernel_rfl)
      still_call (still_of (must_b _ _ _))
      repeat still_step
      still_call (still_of (hk _))
      repeat still_step
      still_call (still_of (must_b _ _ _))
      repeat still_step
      refine wpStill_nil ?_
      change wpList _ _ _ _ _ wa.drew
      go_wp2_with fail
      go_at_call 146
      refine (first_any _ 2 _ (by omega) ?_).mono ?_
      · intro o ho
        first | rw [alloc_new] | rw [cell_drew, alloc_new]
        obtain rfl | rfl : o = 0 ∨ o = 1 := by omega
        · exact ⟨_, rfl⟩
        · exact ⟨_, rfl⟩
      rintro e w' ⟨⟨v, rfl⟩, rfl⟩
      go_wp2
      go_ret
      exact ⟨⟨_, rfl⟩, by first | exact bmore hb.drew _ | exact (bmore hb _).drew⟩
    | false =>
      go_enter Tryz.func148, Tryz.ntmps148
      go_upto_region 1 with fail
      generalize w.alloc (.cells #[.int .i64 kd, .string k, .string en, .string vl, .int .i64 le, .int .i64 li] 72) = wa at *
      go_still_tail 25, (by kernel_rfl)
      still_call (still_of (must_b _ _ _))
      repeat still_step
      still_call (still_of (hk _))
      repeat still_step
      still_call (still_of (must_b _ _ _))
      repeat still_step
      refine wpStill_nil ?_
      change wpList _ _ _ _ _ wa.drew
      go_wp2_with fail
      go_at_call 146
      refine (first_any _ 2 _ (by omega) ?_).mono ?_
      · intro o ho
        first | rw [alloc_new] | rw [cell_drew, alloc_new]
        obtain rfl | rfl : o = 0 ∨ o = 1 := by omega
        · exact ⟨_, rfl⟩
        · exact ⟨_, rfl⟩
      rintro e w' ⟨⟨v, rfl⟩, rfl⟩
      go_wp2
      go_ret
      exact ⟨⟨_, rfl⟩, by first | exact bmore hb.drew _ | exact (bmore hb _).drew⟩
end Go.Proofs.YtbheebpfbabffaaGreat.Wat

namespace Go.Proofs.YtbheebpfbabffaaGreat.Wat
open Go.RowKit Go Go.Lib Mach Go.MapKept
attribute [local irreducible] wpStill

set_option maxHeartbeats 16000000 in
set_option maxRecDepth 100000 in
theorem checkOp_D (kd : Int) (h1 : ¬ 0 ≤ kd) (k en vl : ByteArray) (le li : Int) (w : World) : Calls Tryz.prog 148 #[.agg #[.int .i64 kd, .string k, .string en, .string vl, .int .i64 le, .int .i64 li]] w fun x w' => (∃ v : Int, x = .returned (.int .i64 v)) ∧ Below w.heap.size w w' := by
  have hN := alloc_new w #[.int .i64 kd, .string k, .string en, .string vl, .int .i64 le, .int .i64 li] 72
  have hz : w.heap.size < (w.alloc (.cells #[.int .i64 kd, .string k, .string en, .string vl, .int .i64 le, .int .i64 li] 72)).heap.size := by simp
  have hb := bmore (Below.refl w.heap.size w) (.cells #[.int .i64 kd, .string k, .string en, .string vl, .int .i64 le, .int .i64 li] 72)
  have hgtr := binOp_string_gtr_w
  have hk := fun w => key_b k w
  generalize kbv k = kb at hk
  cases kb with
  | false =>
    go_enter Tryz.func148, Tryz.ntmps148
    go_upto_region 1 with fail
    generalize w.alloc (.cells #[.int .i64 kd, .string k, .string en, .string vl, .int .i64 le, .int .i64 li] 72) = wa at *
    go_still_tail 25, (by kernel_rfl)
    still_call (still_of (must_b _ _ _))
    repeat still_step
    still_call (still_of (hk _))
    have HN : Aside _ := hN
    have HZ : Aside _ := hz
    have HB : Aside _ := hb
    clear hN hz hb hk hgtr
    repeat still_step
    still_call (still_of (must_b _ _ _))
    repeat still_step
    refine wpStill_nil ?_
    change wpList _ _ _ _ _ wa.drew
    have hN := HN.out
    have hz := HZ.out
    have hb := HB.out
    clear HN HZ HB
    go_wp2_with fail
    go_at_call 146
    refine (first_any _ 2 _ (by omega) ?_).mono ?_
    · intro o ho
      first | rw [alloc_new] | rw [cell_drew, alloc_new]
      obtain rfl | rfl : o = 0 ∨ o = 1 := by omega
      · exact ⟨_, rfl⟩
      · exact ⟨_, rfl⟩
    rintro e w' ⟨⟨v, rfl⟩, rfl⟩
    go_wp2
    go_ret
    exact ⟨⟨_, rfl⟩, by first | exact bmore hb.drew _ | exact (bmore hb _).drew⟩
  | true =>
    cases he : (en.toList == ([] : List UInt8)) with
    | true =>
      go_enter Tryz.func148, Tryz.ntmps148
      go_upto_region 1 with fail
      generalize w.alloc (.cells #[.int .i64 kd, .string k, .string en, .string vl, .int .i64 le, .int .i64 li] 72) = wa at *
      go_still_tail 25, (by kernel_rfl)
      still_call (still_of (must_b _ _ _))
      repeat still_step
      still_call (still_of (hk _))
      repeat still_step
      still_call (still_of (must_b _ _ _))
      repeat still_step
      refine wpStill_nil ?_
      change wpList _ _ _ _ _ wa.drew
      go_wp2_with fail
      go_at_call 146
      refine (first_any _ 2 _ (by omega) ?_).mono ?_
      · intro o ho
        first | rw [alloc_new] | rw [cell_drew, alloc_new]
        obtain rfl | rfl : o = 0 ∨ o = 1 := by omega
        · exact ⟨_, rfl⟩
        · exact ⟨_, rfl⟩
      rintro e w' ⟨⟨v, rfl⟩, rfl⟩
      go_wp2
      go_ret
      exact ⟨⟨_, rfl⟩, by first | exact bmore hb.drew _ | exact (bmore hb _).drew⟩
    | false =>
      go_enter Tryz.func148, Tryz.ntmps148
      go_upto_region 1 with fail
      generalize w.alloc (.cells #[.int .i64 kd, .string k, .string en, .string vl, .int .i64 le, .int .i64 li] 72) = wa at *
      go_still_tail 25, (by kernel_rfl)
      still_call (still_of (must_b _ _ _))
      repeat still_step
      still_call (still_of (hk _))
      repeat still_step
      still_call (still_of (must_b _ _ _))
      repeat still_step
      refine wpStill_nil ?_
      change wpList _ _ _ _ _ wa.drew
      go_wp2_with fail
      go_at_call 146
      refine (first_any _ 2 _ (by omega) ?_).mono ?_
      · intro o ho
        first | rw [alloc_new] | rw [cell_drew, alloc_new]
        obtain rfl | rfl : o = 0 ∨ o = 1 := by omega
        · exact ⟨_, rfl⟩
        · exact ⟨_, rfl⟩
      rintro e w' ⟨⟨v, rfl⟩, rfl⟩
      go_wp2
      go_ret
      exact ⟨⟨_, rfl⟩, by first | exact bmore hb.drew _ | exact (bmore hb _).drew⟩
end Go.Proofs.YtbheebpfbabffaaGreat.Wat

namespace Go.Proofs.YtbheebpfbabffaaGreat.Wat
open Go.RowKit Go Go.Lib Mach Go.MapKept
theorem checkOp_f (x : Opr) (w : World) : Calls Tryz.prog 148 #[.agg x.cells.toArray] w fun e w' => (∃ v : Int, e = .returned (.int .i64 v)) ∧ Below w.heap.size w w' := by
  obtain ⟨kd, k, en, vl, le, li⟩ := x
  by_cases h1 : 0 ≤ kd
  · by_cases h0 : kd = 0
    · subst h0
      exact checkOp_A k en vl le li w
    · exact checkOp_B kd h1 h0 k en vl le li w
  · exact checkOp_D kd h1 k en vl le li w
end Go.Proofs.YtbheebpfbabffaaGreat.Wat

