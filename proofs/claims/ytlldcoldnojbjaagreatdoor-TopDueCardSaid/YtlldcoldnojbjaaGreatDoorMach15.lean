/- SameReply at two replies of the example. -/
import Derived.Test.YtlldcoldnojbjaaGreatDoorMach13
namespace Go.Proofs.YtlldcoldnojbjaaGreatDoor.Mach
open Go.RowKit Go

set_option maxRecDepth 100000 in
theorem equal_n (w : World) : Calls Tryz.prog 28 #[.slice none 0 0, .slice none 0 0] w fun e w' => e = .returned (.bool true) ∧ w = w' := by
  go_enter Tryz.func28, Tryz.ntmps28
  go_wp2
  refine wp_loop_rounds 1 ?_
  rw [rounds_succ]
  go_wp2
  go_ret
  exact ⟨rfl, rfl⟩
set_option maxRecDepth 100000 in
theorem same1_a (w : World) : Calls Tryz.prog 27 #[.agg #[.int .i64 0, .slice none 0 0], .agg #[.int .i64 0, .slice none 0 0]] w fun e w' => e = .returned (.bool true) ∧ Below w.heap.size w w' := by
  go_enter Tryz.func27, Tryz.ntmps27
  go_wp2_with fail
  go_at_call 28
  refine (equal_n _).mono ?_
  rintro e w' ⟨rfl, rfl⟩
  go_wp2
  go_ret
  exact ⟨rfl, bmore (bmore (Below.refl _ _) _) _⟩
set_option maxHeartbeats 2000000 in
set_option maxRecDepth 100000 in
theorem eqfunc_a (r1 c1 r2 c2 : Nat) (w : World) (h10 : w.cell? ⟨r1, 0, none⟩ = some (.int .i64 0)) (h11 : w.cell? ⟨r1, 1, none⟩ = some (.slice none 0 0)) (h20 : w.cell? ⟨r2, 0, none⟩ = some (.int .i64 0)) (h21 : w.cell? ⟨r2, 1, none⟩ = some (.slice none 0 0)) (hl : r2 < w.heap.size) :
    Calls Tryz.prog 26 #[.slice (some ⟨r1, 0, none⟩) 1 c1, .slice (some ⟨r2, 0, none⟩) 1 c2, .func (.func 27) #[] #[]] w fun e w' => e = .returned (.bool true) ∧ Below w.heap.size w w' := by
  go_enter Tryz.func26, Tryz.ntmps26
  go_wp2
  refine wp_loop_rounds 2 ?_
  rw [rounds_succ]
  go_wp2_with fail
  go_at_call 27
  refine (same1_a _).mono ?_
  rintro e w2 ⟨rfl, hb⟩
  have hbel := bthen (bmore (bmore (Below.refl _ _) _) _) hb
  clear hb h10 h11 h20 h21
  go_wp2
  rw [rounds_succ]
  go_wp2
  go_ret
  exact ⟨rfl, hbel⟩
set_option maxHeartbeats 2000000 in
set_option maxRecDepth 100000 in
theorem samereply_a (r1 c1 r2 c2 : Nat) (w : World) (h10 : w.cell? ⟨r1, 0, none⟩ = some (.int .i64 0)) (h11 : w.cell? ⟨r1, 1, none⟩ = some (.slice none 0 0)) (h20 : w.cell? ⟨r2, 0, none⟩ = some (.int .i64 0)) (h21 : w.cell? ⟨r2, 1, none⟩ = some (.slice none 0 0)) (hl1 : r1 < w.heap.size) (hl : r2 < w.heap.size) :
    Calls Tryz.prog 11 #[.agg #[.int .i64 0, .int .i64 1, .bool true, .slice (some ⟨r1, 0, none⟩) 1 c1, .int .i64 0], .agg #[.int .i64 0, .int .i64 1, .bool true, .slice (some ⟨r2, 0, none⟩) 1 c2, .int .i64 0]] w fun e w' => e = .returned (.bool true) ∧ Below w.heap.size w w' := by
  go_enter Tryz.func11, Tryz.ntmps11
  go_wp2_with fail
  go_at_call 26
  refine (eqfunc_a r1 c1 r2 c2 _ ?_ ?_ ?_ ?_ ?_).mono ?_
  · exact (alloc_old _ _ (by simp; omega) 0).trans ((alloc_old _ _ hl1 0).trans h10)
  · exact (alloc_old _ _ (by simp; omega) 1).trans ((alloc_old _ _ hl1 1).trans h11)
  · exact (alloc_old _ _ (by simp; omega) 0).trans ((alloc_old _ _ hl 0).trans h20)
  · exact (alloc_old _ _ (by simp; omega) 1).trans ((alloc_old _ _ hl 1).trans h21)
  · simp; omega
  rintro e w2 ⟨rfl, hb⟩
  have hbel := bthen (bmore (bmore (Below.refl _ _) _) _) hb
  clear hb h10 h11 h20 h21
  go_wp2
  go_ret
  exact ⟨rfl, hbel⟩
end Go.Proofs.YtlldcoldnojbjaaGreatDoor.Mach
