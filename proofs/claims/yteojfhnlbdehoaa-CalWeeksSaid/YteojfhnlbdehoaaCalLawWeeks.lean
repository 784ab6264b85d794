/- CalWeeks, walked. -/
import Derived.Test.YteojfhnlbdehoaaCalKnown
namespace Go.Proofs.Yteojfhnlbdehoaa.Cal
open Go.RowKit Go

set_option maxRecDepth 100000 in
theorem weeks_walk (a0 : Int) (w0 : (Lit.int .i64 a0).wf = true) (a1 : Int) (w1 : (Lit.int .i64 a1).wf = true) (w : World) :
    Calls Try.prog 3 #[.int .i64 a0, .int .i64 a1] w fun e w' => e = .returned (.bool true) ∧ Below w.heap.size w w' := by
  have hM : 0 ≤ a0 % 5200000000 ∧ a0 % 5200000000 < 5200000000 := by omega
  have hD : 0 ≤ a1 % 4000 ∧ a1 % 4000 < 4000 := by omega
  go_enter Try.func3, Try.ntmps3
  go_wp2_with fail
  go_at_call 8
  refine (known5 _).mono ?_
  rintro e wk ⟨rfl, hbk⟩
  go_wp2_with fail
  go_at_call 9
  refine (within5_any _ _ _ (by omega) (by omega)).mono ?_
  rintro e w' ⟨rfl, rfl⟩
  go_wp2_with fail
  go_at_call 9
  refine (within5_any _ _ _ (by omega) (by omega)).mono ?_
  rintro e w' ⟨rfl, rfl⟩
  go_wp2_with fail
  refine (of_at _ _ (by omega) (by omega)).mono ?_
  rintro e w1 ⟨⟨y1, m1, d1, rfl, hd1⟩, hb1⟩
  go_wp2_with fail
  go_at_call 10
  refine (of_at _ _ (by omega) (by omega)).mono ?_
  rintro e w2 ⟨⟨y2, m2, d2, rfl, hd2⟩, hb2⟩
  obtain ⟨hc, hf⟩ := bcell hb2
  have hz : w1.heap.size < w2.heap.size := by have := hb2.size; simp at this; omega
  clear hd1 hd2
  go_wp2
  go_ret
  exact ⟨ret_bool (by rw [beq_iff_eq]; omega), bmore (bthen (bmore (bthen hbk hb1) _) hb2) _⟩

end Go.Proofs.Yteojfhnlbdehoaa.Cal
