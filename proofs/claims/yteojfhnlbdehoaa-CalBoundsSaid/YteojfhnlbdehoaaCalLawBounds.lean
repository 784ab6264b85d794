/- CalBounds, walked. -/
import Derived.Test.YteojfhnlbdehoaaCalKnown
namespace Go.Proofs.Yteojfhnlbdehoaa.Cal
open Go.RowKit Go
set_option linter.unusedVariables false

theorem dayLast : IsDay 3652058 9999 12 31 := ⟨by decide, by decide, by decide, by decide, by decide, by decide⟩
theorem dayFirst : IsDay 0 1 1 1 := ⟨by decide, by decide, by decide, by decide, by decide, by decide⟩

theorem minute_first (w : World) :
    Calls Try.prog 12 #[.agg #[.int .i64 1, .int .i64 1, .int .i64 1, .int .i64 0, .int .i64 0, .int .i64 0]] w fun e w' =>
      e = .returned (.tuple #[.int .i64 (-1035593280), .int .i64 0]) ∧ Below w.heap.size w w' :=
  minute_in 1 1 1 0 0 0 w ⟨by decide, by decide, by decide, by decide, by decide, by decide, by decide, by decide⟩
theorem minute_last (w : World) :
    Calls Try.prog 12 #[.agg #[.int .i64 9999, .int .i64 12, .int .i64 31, .int .i64 23, .int .i64 59, .int .i64 0]] w fun e w' =>
      e = .returned (.tuple #[.int .i64 4223371679, .int .i64 0]) ∧ Below w.heap.size w w' :=
  minute_in 9999 12 31 23 59 0 w ⟨by decide, by decide, by decide, by decide, by decide, by decide, by decide, by decide⟩

set_option maxRecDepth 100000 in
theorem bounds_ok (a0 a1 a2 a3 : Int) (w : World) (y : Int) (HY : Hid (1 + a1 % 9999 = y)) (h1 : 1 ≤ a3 % 34) (h2 : a3 % 34 ≤ dm y (a2 % 15)) :
    Calls Try.prog 7 #[.int .i64 a0, .int .i64 a1, .int .i64 a2, .int .i64 a3] w fun e w' => e = .returned (.bool true) ∧ Below w.heap.size w w' := by
  have hv : okd y (a2 % 15) (a3 % 34) 0 0 := ⟨by have := HY.out; omega, by have := HY.out; omega, h1, h2, by omega, by omega, by omega, by omega⟩
  go_enter Try.func7, Try.ntmps7
  go_wp2_with fail
  go_at_call 8
  refine (known5 _).mono ?_
  rintro e wk ⟨rfl, hbk⟩
  go_wp2_with fail
  go_at_call 12
  refine (minute_first _).mono ?_
  rintro e w1 ⟨rfl, hb1⟩
  go_wp2_with fail
  go_at_call 12
  refine (minute_last _).mono ?_
  rintro e w2 ⟨rfl, hb2⟩
  go_wp2_with fail
  go_at_call 9
  refine (within5_any _ _ _ (by omega) (by omega)).mono ?_
  rintro e w' ⟨rfl, rfl⟩
  go_wp2_with fail
  go_at_call 10
  refine (of_out _ _ (by omega)).mono ?_
  rintro e w3 ⟨rfl, hb3⟩
  go_wp2_with fail
  go_at_call 10
  refine (of_out _ _ (by omega)).mono ?_
  rintro e w4 ⟨rfl, hb4⟩
  go_wp2_with fail
  go_at_call 10
  refine (of_lit _ 0 0 0 1 1 1 _ (by omega) (by omega) (by omega) (by omega) (by omega) dayFirst).mono ?_
  rintro e w5 ⟨rfl, hb5⟩
  go_wp2_with fail
  go_at_call 10
  refine (of_lit _ 3652058 1439 59 9999 12 31 _ (by omega) (by omega) (by omega) (by omega) (by omega) dayLast).mono ?_
  rintro e w6 ⟨rfl, hb6⟩
  go_wp2_with fail
  go_at_call 9
  refine (within5_any _ _ _ (by omega) (by omega)).mono ?_
  rintro e w' ⟨rfl, rfl⟩
  go_wp2_with fail
  go_at_call 9
  refine (within5_any _ _ _ (by omega) (by omega)).mono ?_
  rintro e w' ⟨rfl, rfl⟩
  go_wp2_with fail
  go_at_call 9
  refine (within5_any _ _ _ (by omega) (by omega)).mono ?_
  rintro e w' ⟨rfl, rfl⟩
  go_wp2_with fail
  rw [HY.out]
  go_at_call 12
  refine (minute_in y (a2 % 15) (a3 % 34) 0 0 0 _ hv).mono ?_
  rintro e w7 ⟨rfl, hb7⟩
  have hbel := bthen (bmore (bthen (bmore (bthen (bmore (bthen (bmore (bthen (bthen (bthen hbk hb1) hb2) hb3) _) hb4) _) hb5) _) hb6) _) hb7
  clear hbk hb1 hb2 hb3 hb4 hb5 hb6 hb7
  go_wp2_with (go_at_call 16; refine (days_any _ _ _).mono ?_; rintro e w' ⟨rfl, rfl⟩)
  go_ret
  exact ⟨by first | rfl | exact ret_bool (by simp; omega), hbel⟩

set_option maxRecDepth 100000 in
theorem bounds_low (a0 a1 a2 a3 : Int) (w : World) (y : Int) (HY : Hid (1 + a1 % 9999 = y)) (h1 : a3 % 34 < 1) :
    Calls Try.prog 7 #[.int .i64 a0, .int .i64 a1, .int .i64 a2, .int .i64 a3] w fun e w' => e = .returned (.bool true) ∧ Below w.heap.size w w' := by
  have hv : ¬ okd y (a2 % 15) (a3 % 34) 0 0 := fun h => by have := h.2.2.1; omega
  go_enter Try.func7, Try.ntmps7
  go_wp2_with fail
  go_at_call 8
  refine (known5 _).mono ?_
  rintro e wk ⟨rfl, hbk⟩
  go_wp2_with fail
  go_at_call 12
  refine (minute_first _).mono ?_
  rintro e w1 ⟨rfl, hb1⟩
  go_wp2_with fail
  go_at_call 12
  refine (minute_last _).mono ?_
  rintro e w2 ⟨rfl, hb2⟩
  go_wp2_with fail
  go_at_call 9
  refine (within5_any _ _ _ (by omega) (by omega)).mono ?_
  rintro e w' ⟨rfl, rfl⟩
  go_wp2_with fail
  go_at_call 10
  refine (of_out _ _ (by omega)).mono ?_
  rintro e w3 ⟨rfl, hb3⟩
  go_wp2_with fail
  go_at_call 10
  refine (of_out _ _ (by omega)).mono ?_
  rintro e w4 ⟨rfl, hb4⟩
  go_wp2_with fail
  go_at_call 10
  refine (of_lit _ 0 0 0 1 1 1 _ (by omega) (by omega) (by omega) (by omega) (by omega) dayFirst).mono ?_
  rintro e w5 ⟨rfl, hb5⟩
  go_wp2_with fail
  go_at_call 10
  refine (of_lit _ 3652058 1439 59 9999 12 31 _ (by omega) (by omega) (by omega) (by omega) (by omega) dayLast).mono ?_
  rintro e w6 ⟨rfl, hb6⟩
  go_wp2_with fail
  go_at_call 9
  refine (within5_any _ _ _ (by omega) (by omega)).mono ?_
  rintro e w' ⟨rfl, rfl⟩
  go_wp2_with fail
  go_at_call 9
  refine (within5_any _ _ _ (by omega) (by omega)).mono ?_
  rintro e w' ⟨rfl, rfl⟩
  go_wp2_with fail
  go_at_call 9
  refine (within5_any _ _ _ (by omega) (by omega)).mono ?_
  rintro e w' ⟨rfl, rfl⟩
  go_wp2_with fail
  rw [HY.out]
  go_at_call 12
  refine (minute_out y (a2 % 15) (a3 % 34) 0 0 0 _ hv).mono ?_
  rintro e w7 ⟨rfl, hb7⟩
  have hbel := bthen (bmore (bthen (bmore (bthen (bmore (bthen (bmore (bthen (bthen (bthen hbk hb1) hb2) hb3) _) hb4) _) hb5) _) hb6) _) hb7
  clear hbk hb1 hb2 hb3 hb4 hb5 hb6 hb7
  go_wp2_with (go_at_call 16; refine (days_any _ _ _).mono ?_; rintro e w' ⟨rfl, rfl⟩)
  go_ret
  exact ⟨by first | rfl | exact ret_bool (by simp; omega), hbel⟩

set_option maxRecDepth 100000 in
theorem bounds_high (a0 a1 a2 a3 : Int) (w : World) (y : Int) (HY : Hid (1 + a1 % 9999 = y)) (h1 : 1 ≤ a3 % 34) (h2 : dm y (a2 % 15) < a3 % 34) :
    Calls Try.prog 7 #[.int .i64 a0, .int .i64 a1, .int .i64 a2, .int .i64 a3] w fun e w' => e = .returned (.bool true) ∧ Below w.heap.size w w' := by
  have hv : ¬ okd y (a2 % 15) (a3 % 34) 0 0 := fun h => by have := h.2.2.2.1; omega
  go_enter Try.func7, Try.ntmps7
  go_wp2_with fail
  go_at_call 8
  refine (known5 _).mono ?_
  rintro e wk ⟨rfl, hbk⟩
  go_wp2_with fail
  go_at_call 12
  refine (minute_first _).mono ?_
  rintro e w1 ⟨rfl, hb1⟩
  go_wp2_with fail
  go_at_call 12
  refine (minute_last _).mono ?_
  rintro e w2 ⟨rfl, hb2⟩
  go_wp2_with fail
  go_at_call 9
  refine (within5_any _ _ _ (by omega) (by omega)).mono ?_
  rintro e w' ⟨rfl, rfl⟩
  go_wp2_with fail
  go_at_call 10
  refine (of_out _ _ (by omega)).mono ?_
  rintro e w3 ⟨rfl, hb3⟩
  go_wp2_with fail
  go_at_call 10
  refine (of_out _ _ (by omega)).mono ?_
  rintro e w4 ⟨rfl, hb4⟩
  go_wp2_with fail
  go_at_call 10
  refine (of_lit _ 0 0 0 1 1 1 _ (by omega) (by omega) (by omega) (by omega) (by omega) dayFirst).mono ?_
  rintro e w5 ⟨rfl, hb5⟩
  go_wp2_with fail
  go_at_call 10
  refine (of_lit _ 3652058 1439 59 9999 12 31 _ (by omega) (by omega) (by omega) (by omega) (by omega) dayLast).mono ?_
  rintro e w6 ⟨rfl, hb6⟩
  go_wp2_with fail
  go_at_call 9
  refine (within5_any _ _ _ (by omega) (by omega)).mono ?_
  rintro e w' ⟨rfl, rfl⟩
  go_wp2_with fail
  go_at_call 9
  refine (within5_any _ _ _ (by omega) (by omega)).mono ?_
  rintro e w' ⟨rfl, rfl⟩
  go_wp2_with fail
  go_at_call 9
  refine (within5_any _ _ _ (by omega) (by omega)).mono ?_
  rintro e w' ⟨rfl, rfl⟩
  go_wp2_with fail
  rw [HY.out]
  go_at_call 12
  refine (minute_out y (a2 % 15) (a3 % 34) 0 0 0 _ hv).mono ?_
  rintro e w7 ⟨rfl, hb7⟩
  have hbel := bthen (bmore (bthen (bmore (bthen (bmore (bthen (bmore (bthen (bthen (bthen hbk hb1) hb2) hb3) _) hb4) _) hb5) _) hb6) _) hb7
  clear hbk hb1 hb2 hb3 hb4 hb5 hb6 hb7
  go_wp2_with (go_at_call 16; refine (days_any _ _ _).mono ?_; rintro e w' ⟨rfl, rfl⟩)
  go_ret
  exact ⟨by first | rfl | exact ret_bool (by simp; omega), hbel⟩

theorem bounds_walk (a0 : Int) (w0 : (Lit.int .i64 a0).wf = true) (a1 : Int) (w1 : (Lit.int .i64 a1).wf = true) (a2 : Int) (w2 : (Lit.int .i64 a2).wf = true) (a3 : Int) (w3 : (Lit.int .i64 a3).wf = true) (w : World) :
    Calls Try.prog 7 #[.int .i64 a0, .int .i64 a1, .int .i64 a2, .int .i64 a3] w fun e w' => e = .returned (.bool true) ∧ Below w.heap.size w w' := by
  by_cases h1 : a3 % 34 < 1
  · exact bounds_low a0 a1 a2 a3 w _ rfl h1
  · by_cases h2 : dm (1 + a1 % 9999) (a2 % 15) < a3 % 34
    · exact bounds_high a0 a1 a2 a3 w _ rfl (by omega) h2
    · exact bounds_ok a0 a1 a2 a3 w _ rfl (by omega) (by omega)

end Go.Proofs.Yteojfhnlbdehoaa.Cal
