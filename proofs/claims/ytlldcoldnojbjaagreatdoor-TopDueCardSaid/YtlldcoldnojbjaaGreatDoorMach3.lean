/- txn's Check at the example, its Holds at no comparison. -/
import Derived.Test.YtlldcoldnojbjaaGreatDoorMach2
import Derived.LoopN
namespace Go.Proofs.YtlldcoldnojbjaaGreatDoor.Mach
open Go.RowKit Go

set_option maxHeartbeats 2000000 in
set_option maxRecDepth 100000 in
theorem twice_a (cb : Nat) (w : World) (h : Blk w cb opC) : Calls Tryz.prog 94 #[.slice (some ⟨cb, 0, none⟩) 1 1] w fun x w' => x = .returned (.bool false) ∧ Below w.heap.size w w' := by
  have hc := h.cell
  have hl := h.lt
  unfold opC at hc
  clear h
  go_enter Tryz.func94, Tryz.ntmps94
  go_wp2
  refine wp_loop_rounds 2 ?_
  rw [rounds_succ]
  go_wp2
  refine wp_loop_rounds 2 ?_
  rw [rounds_succ]
  go_wp2
  rw [rounds_succ]
  go_wp2
  rw [rounds_succ]
  go_wp2
  go_ret
  exact ⟨rfl, bmore (bmore (Below.refl _ _) _) _⟩

set_option maxHeartbeats 2000000 in
set_option maxRecDepth 100000 in
theorem twice_n (w : World) : Calls Tryz.prog 94 #[.slice none 0 0] w fun x w' => x = .returned (.bool false) ∧ Below w.heap.size w w' := by
  go_enter Tryz.func94, Tryz.ntmps94
  go_wp2
  refine wp_loop_rounds 1 ?_
  rw [rounds_succ]
  go_wp2
  go_ret
  exact ⟨rfl, Below.refl _ _⟩
set_option maxHeartbeats 2000000 in
set_option maxRecDepth 100000 in
theorem holds_n (w : World) (v : Value) : Calls Tryz.prog 68 #[v, .slice none 0 0] w fun x w' => x = .returned (.bool true) ∧ w = w' := by
  go_enter Tryz.func68, Tryz.ntmps68
  go_wp2
  refine wp_loop_rounds 1 ?_
  rw [rounds_succ]
  go_wp2
  go_ret
  exact ⟨rfl, rfl⟩

/-- The transaction of the example. -/
def txnC (cb : Nat) : Array Value := #[.slice none 0 0, .slice (some ⟨cb, 0, none⟩) 1 1, .slice none 0 0]

set_option maxHeartbeats 4000000 in
set_option maxRecDepth 100000 in
theorem check_a (cb : Nat) (w : World) (h : Blk w cb opC) : Calls Tryz.prog 67 #[.agg (txnC cb)] w fun x w' => x = .returned (.int .i64 0) ∧ Below w.heap.size w w' := by
  have hl := h.lt
  unfold txnC
  go_enter Tryz.func67, Tryz.ntmps67
  go_wp2
  refine wp_loop_rounds 1 ?_
  rw [rounds_succ]
  go_wp2
  refine wp_loop_rounds 3 ?_
  rw [rounds_succ]
  go_wp2
  refine wp_loop_rounds 2 ?_
  rw [rounds_succ]
  have hc := h.cell
  unfold opC at hc
  go_wp2_with fail
  go_at_call 92
  refine (checkOp_a _).mono ?_
  rintro e w2 ⟨rfl, hb⟩
  have k := (((h.alloc _).alloc _).alloc _).keep hb
  have k0 : Blk w2 w.heap.size _ := (((Blk.newAt rfl).alloc _).alloc _).keep hb
  have k1 : Blk w2 (w.heap.size + 1) _ := ((Blk.newAt (by simp)).alloc _).keep hb
  have hz : w.heap.size + 3 ≤ w2.heap.size := by have := hb.size; simp at this; omega
  have hbel := bthen (bmore (bmore (bmore (Below.refl _ _) _) _) _) hb
  have hc0 := k0.cell
  have hc1 := k1.cell
  clear hc hb
  go_wp2_with fail
  go_at_call 90
  refine (first_0 _ 2 _ (by omega) ?_).mono ?_
  · intro o ho
    rw [alloc_new]
    obtain rfl | rfl : o = 0 ∨ o = 1 := by omega
    · rfl
    · rfl
  rintro e w' ⟨rfl, rfl⟩
  have k2 := k.alloc (.cells #[.int .i64 0, .int .i64 0] 26)
  have k3 := k0.alloc (.cells #[.int .i64 0, .int .i64 0] 26)
  have k4 := k1.alloc (.cells #[.int .i64 0, .int .i64 0] 26)
  have hb4 := bmore hbel (.cells #[.int .i64 0, .int .i64 0] 26)
  generalize w2.alloc (.cells #[.int .i64 0, .int .i64 0] 26) = w3 at *
  have hc3 := k3.cell
  have hc4 := k4.cell
  clear hc0 hc1 hbel
  go_wp2
  rw [rounds_succ]
  go_wp2
  rw [rounds_succ]
  go_wp2
  refine wp_loop_rounds 1 ?_
  rw [rounds_succ]
  go_wp2
  rw [rounds_succ]
  go_wp2_with fail
  go_at_call 94
  refine (twice_a cb _ k2).mono ?_
  rintro e w4 ⟨rfl, hb⟩
  have k5 := k3.keep hb
  have hz5 := k5.lt
  have hb5 := bthen hb4 hb
  have hc5 := k5.cell
  clear hc3 hc4 hb4 hb
  go_wp2_with fail
  go_at_call 94
  refine (twice_n _).mono ?_
  rintro e w5 ⟨rfl, hb⟩
  have hb6 := bthen hb5 hb
  clear hc5 hb5 hb
  go_wp2_with fail
  go_at_call 93
  refine (must_t _ _).mono ?_
  rintro e w6 ⟨rfl, rfl⟩
  go_wp2_with fail
  go_at_call 90
  refine (first_0 _ 2 _ (by omega) ?_).mono ?_
  · intro o ho
    rw [alloc_new]
    obtain rfl | rfl : o = 0 ∨ o = 1 := by omega
    · rfl
    · rfl
  rintro e w' ⟨rfl, rfl⟩
  go_wp2
  go_ret
  exact ⟨rfl, bmore hb6 _⟩
end Go.Proofs.YtlldcoldnojbjaaGreatDoor.Mach
