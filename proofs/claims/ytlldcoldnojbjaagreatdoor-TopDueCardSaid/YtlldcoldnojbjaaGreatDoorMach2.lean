/- txn's small functions, at what the example needs. -/
import Derived.Test.YtlldcoldnojbjaaGreatDoorMach1
import Derived.RegionTactic
import Derived.Deep.RegionWith
import Derived.StillTailTactics
import Derived.LoopTactic
import Derived.Deep.DeepCutAuto
import Derived.Deep.RegionHeld3
namespace Go.Proofs.YtlldcoldnojbjaaGreatDoor.Mach
open Go.RowKit Go

theorem key_a (w : World) : Calls Tryz.prog 117 #[.string ⟨#[97]⟩] w fun e w' => e = .returned (.bool true) ∧ w = w' := by
  go_enter Tryz.func117, Tryz.ntmps117
  go_wp2
  go_ret
  exact ⟨rfl, rfl⟩
theorem must_t (e : Int) (w : World) : Calls Tryz.prog 93 #[.bool true, .int .i64 e] w fun x w' => x = .returned (.int .i64 0) ∧ w = w' := by
  go_enter Tryz.func93, Tryz.ntmps93
  go_wp2
  go_ret
  exact ⟨rfl, rfl⟩

set_option maxRecDepth 100000 in
theorem first_0 (b k : Nat) (w : World) (hk : k ≤ 1000) (hc : ∀ o, o < k → w.cell? ⟨b, o, none⟩ = some (.int .i64 0)) :
    Calls Tryz.prog 90 #[.slice (some ⟨b, 0, none⟩) k k] w fun x w' => x = .returned (.int .i64 0) ∧ w = w' := by
  go_enter Tryz.func90, Tryz.ntmps90
  go_wp2
  go_loop [7] (fun i => ∃ j : Nat, j ≤ k ∧ i = .int .i64 j) (fun i => k - (intOf i).toNat)
  case atStart => exact ⟨0, Nat.zero_le _, rfl⟩
  case round =>
    obtain ⟨j, hj, rfl⟩ := hrel
    by_cases hlt : j < k
    · have g := hc j hlt
      go_wp2
      go_round
      case rel => exact ⟨j + 1, by omega, by go_num⟩
      case measure => simp [intOf]; omega
    · go_wp2
      go_ret
      exact ⟨rfl, rfl⟩

theorem still_of {P : Program} {f : FuncId} {args : Array Value} {w : World} {v : Value} (h : Calls P f args w fun e w' => e = .returned v ∧ w = w') :
    Calls P f args w fun e w' => e = .returned v ∧ w' = w := h.mono fun _ _ ⟨he, hm⟩ => ⟨he, hm.symm⟩

/-- The operation of the example. -/
def opC : Array Value := #[.int .i64 0, .string ⟨#[97]⟩, .string ⟨#[]⟩, .string ⟨#[120]⟩, .int .i64 0, .int .i64 0]

set_option maxRecDepth 100000 in
set_option maxHeartbeats 4000000 in
theorem checkOp_a (w : World) : Calls Tryz.prog 92 #[.agg opC] w fun x w' => x = .returned (.int .i64 0) ∧ Below w.heap.size w w' := by
  unfold opC
  go_enter Tryz.func92, Tryz.ntmps92
  go_upto_region 1 with fail
  have hN := alloc_new w #[.int .i64 0, .string ⟨#[97]⟩, .string ⟨#[]⟩, .string ⟨#[120]⟩, .int .i64 0, .int .i64 0] 41
  have hz : w.heap.size < (w.alloc (.cells #[.int .i64 0, .string ⟨#[97]⟩, .string ⟨#[]⟩, .string ⟨#[120]⟩, .int .i64 0, .int .i64 0] 41)).heap.size := by simp
  have hb := bmore (Below.refl w.heap.size w) (.cells #[.int .i64 0, .string ⟨#[97]⟩, .string ⟨#[]⟩, .string ⟨#[120]⟩, .int .i64 0, .int .i64 0] 41)
  generalize w.alloc (.cells #[.int .i64 0, .string ⟨#[97]⟩, .string ⟨#[]⟩, .string ⟨#[120]⟩, .int .i64 0, .int .i64 0] 41) = wa at *
  go_still_tail 25, (by kernel_rfl)
  still_call (still_of (must_t _ _))
  repeat still_step
  still_call (still_of (key_a _))
  repeat still_step
  still_call (still_of (must_t _ _))
  repeat still_step
  refine wpStill_nil ?_
  change wpList _ _ _ _ _ wa.drew
  have hN1 : ∀ o, wa.drew.cell? ⟨w.heap.size, o, none⟩ = (#[.int .i64 0, .string ⟨#[97]⟩, .string ⟨#[]⟩, .string ⟨#[120]⟩, .int .i64 0, .int .i64 0] : Array Value)[o]? := hN
  have hb1 := hb.drew
  have hz1 : w.heap.size < wa.drew.heap.size := hz
  clear hN hb hz
  generalize wa.drew = wb at *
  go_wp2_with fail
  go_at_call 90
  refine (first_0 _ 2 _ (by omega) ?_).mono ?_
  · intro o ho
    rw [alloc_new]
    obtain rfl | rfl : o = 0 ∨ o = 1 := by omega
    · rfl
    · rfl
  rintro e w' ⟨rfl, rfl⟩
  have hN2 := fun o => (alloc_old wb (.cells #[.int .i64 0, .int .i64 0] 26) hz1 o).trans (hN1 o)
  have hb2 := bmore hb1 (.cells #[.int .i64 0, .int .i64 0] 26)
  have hz2 : w.heap.size < (wb.alloc (.cells #[.int .i64 0, .int .i64 0] 26)).heap.size := by simp; omega
  generalize wb.alloc (.cells #[.int .i64 0, .int .i64 0] 26) = wc at *
  clear hN1 hb1 hz1
  go_wp2_with fail
  go_still_tail 15, (by kernel_rfl)
  still_call (still_of (must_t _ _))
  repeat still_step
  still_call (still_of (must_t _ _))
  repeat still_step
  refine wpStill_nil ?_
  change wpList _ _ _ _ _ wc.drew
  have hb3 := hb2.drew
  clear hN2 hb2 hz2
  generalize wc.drew = wd at *
  go_wp2_with fail
  go_at_call 90
  refine (first_0 _ 3 _ (by omega) ?_).mono ?_
  · intro o ho
    rw [alloc_new]
    obtain rfl | rfl | rfl : o = 0 ∨ o = 1 ∨ o = 2 := by omega
    · rfl
    · rfl
    · rfl
  rintro e w' ⟨rfl, rfl⟩
  go_wp2
  go_ret
  exact ⟨rfl, bmore hb3 _⟩

end Go.Proofs.YtlldcoldnojbjaaGreatDoor.Mach
