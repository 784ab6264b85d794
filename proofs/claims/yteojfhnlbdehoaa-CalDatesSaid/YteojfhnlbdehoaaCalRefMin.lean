/- The contract of the reference's Minute: no date. -/
import Derived.Test.YteojfhnlbdehoaaCalRef
namespace Go.Proofs.Yteojfhnlbdehoaa.Cal
open Go.RowKit Go

set_option maxRecDepth 100000 in
theorem rminute_out1 (y m d h mi wd : Int) (w : World) (g1 : decide (y < 1) = true) :
    Calls Try.prog 13 #[.agg #[.int .i64 y, .int .i64 m, .int .i64 d, .int .i64 h, .int .i64 mi, .int .i64 wd]] w fun e w' =>
      e = .returned (.tuple #[.int .i64 0, .int .i64 1]) ∧ Below w.heap.size w w' := by
  go_enter Try.func13, Try.ntmps13
  go_wp2
  go_quiet ((go_at_call 17; exact quiet_same (rdays_any _ _ _)))
  go_wp2
  go_ret2
  exact ⟨rfl, below_alloc1 _ _ _⟩

set_option maxRecDepth 100000 in
theorem rminute_out2 (y m d h mi wd : Int) (w : World) (g1 : decide (y < 1) = false) (g2 : decide (9999 < y) = true) :
    Calls Try.prog 13 #[.agg #[.int .i64 y, .int .i64 m, .int .i64 d, .int .i64 h, .int .i64 mi, .int .i64 wd]] w fun e w' =>
      e = .returned (.tuple #[.int .i64 0, .int .i64 1]) ∧ Below w.heap.size w w' := by
  go_enter Try.func13, Try.ntmps13
  go_wp2
  go_quiet ((go_at_call 17; exact quiet_same (rdays_any _ _ _)))
  go_wp2
  go_ret2
  exact ⟨rfl, below_alloc1 _ _ _⟩

set_option maxRecDepth 100000 in
theorem rminute_out3 (y m d h mi wd : Int) (w : World) (g1 : decide (y < 1) = false) (g2 : decide (9999 < y) = false) (m1 : decide (m < 1) = true) :
    Calls Try.prog 13 #[.agg #[.int .i64 y, .int .i64 m, .int .i64 d, .int .i64 h, .int .i64 mi, .int .i64 wd]] w fun e w' =>
      e = .returned (.tuple #[.int .i64 0, .int .i64 1]) ∧ Below w.heap.size w w' := by
  go_enter Try.func13, Try.ntmps13
  go_wp2
  go_quiet ((go_at_call 17; exact quiet_same (rdays_any _ _ _)))
  go_wp2
  go_ret2
  exact ⟨rfl, below_alloc1 _ _ _⟩

set_option maxRecDepth 100000 in
theorem rminute_out4 (y m d h mi wd : Int) (w : World) (g1 : decide (y < 1) = false) (g2 : decide (9999 < y) = false) (m1 : decide (m < 1) = false) (m2 : decide (12 < m) = true) :
    Calls Try.prog 13 #[.agg #[.int .i64 y, .int .i64 m, .int .i64 d, .int .i64 h, .int .i64 mi, .int .i64 wd]] w fun e w' =>
      e = .returned (.tuple #[.int .i64 0, .int .i64 1]) ∧ Below w.heap.size w w' := by
  go_enter Try.func13, Try.ntmps13
  go_wp2
  go_quiet ((go_at_call 17; exact quiet_same (rdays_any _ _ _)))
  go_wp2
  go_ret2
  exact ⟨rfl, below_alloc1 _ _ _⟩

set_option maxRecDepth 100000 in
theorem rminute_out5 (y m d h mi wd : Int) (w : World) (g1 : decide (y < 1) = false) (g2 : decide (9999 < y) = false) (m1 : decide (m < 1) = false) (m2 : decide (12 < m) = false) (g3 : decide (d < 1) = true) :
    Calls Try.prog 13 #[.agg #[.int .i64 y, .int .i64 m, .int .i64 d, .int .i64 h, .int .i64 mi, .int .i64 wd]] w fun e w' =>
      e = .returned (.tuple #[.int .i64 0, .int .i64 1]) ∧ Below w.heap.size w w' := by
  go_enter Try.func13, Try.ntmps13
  go_wp2
  go_quiet ((go_at_call 17; exact quiet_same (rdays_any _ _ _)))
  go_wp2
  go_ret2
  exact ⟨rfl, below_alloc1 _ _ _⟩

set_option maxRecDepth 100000 in
theorem rminute_out6 (y m d h mi wd : Int) (w : World) (g1 : decide (y < 1) = false) (g2 : decide (9999 < y) = false) (m1 : decide (m < 1) = false) (m2 : decide (12 < m) = false) (g3 : decide (d < 1) = false) (g4 : decide (dm y m < d) = true) :
    Calls Try.prog 13 #[.agg #[.int .i64 y, .int .i64 m, .int .i64 d, .int .i64 h, .int .i64 mi, .int .i64 wd]] w fun e w' =>
      e = .returned (.tuple #[.int .i64 0, .int .i64 1]) ∧ Below w.heap.size w w' := by
  go_enter Try.func13, Try.ntmps13
  go_wp2
  go_quiet ((go_at_call 17; exact quiet_same (rdays_any _ _ _)))
  go_wp2
  go_ret2
  exact ⟨rfl, below_alloc1 _ _ _⟩

set_option maxRecDepth 100000 in
theorem rminute_out7 (y m d h mi wd : Int) (w : World) (g1 : decide (y < 1) = false) (g2 : decide (9999 < y) = false) (m1 : decide (m < 1) = false) (m2 : decide (12 < m) = false) (g3 : decide (d < 1) = false) (g4 : decide (dm y m < d) = false) (g5 : decide (h < 0) = true) :
    Calls Try.prog 13 #[.agg #[.int .i64 y, .int .i64 m, .int .i64 d, .int .i64 h, .int .i64 mi, .int .i64 wd]] w fun e w' =>
      e = .returned (.tuple #[.int .i64 0, .int .i64 1]) ∧ Below w.heap.size w w' := by
  go_enter Try.func13, Try.ntmps13
  go_wp2
  go_quiet ((go_at_call 17; exact quiet_same (rdays_any _ _ _)))
  go_wp2
  go_ret2
  exact ⟨rfl, below_alloc1 _ _ _⟩

set_option maxRecDepth 100000 in
theorem rminute_out8 (y m d h mi wd : Int) (w : World) (g1 : decide (y < 1) = false) (g2 : decide (9999 < y) = false) (m1 : decide (m < 1) = false) (m2 : decide (12 < m) = false) (g3 : decide (d < 1) = false) (g4 : decide (dm y m < d) = false) (g5 : decide (h < 0) = false) (g6 : decide (23 < h) = true) :
    Calls Try.prog 13 #[.agg #[.int .i64 y, .int .i64 m, .int .i64 d, .int .i64 h, .int .i64 mi, .int .i64 wd]] w fun e w' =>
      e = .returned (.tuple #[.int .i64 0, .int .i64 1]) ∧ Below w.heap.size w w' := by
  go_enter Try.func13, Try.ntmps13
  go_wp2
  go_quiet ((go_at_call 17; exact quiet_same (rdays_any _ _ _)))
  go_wp2
  go_ret2
  exact ⟨rfl, below_alloc1 _ _ _⟩

set_option maxRecDepth 100000 in
theorem rminute_out9 (y m d h mi wd : Int) (w : World) (g1 : decide (y < 1) = false) (g2 : decide (9999 < y) = false) (m1 : decide (m < 1) = false) (m2 : decide (12 < m) = false) (g3 : decide (d < 1) = false) (g4 : decide (dm y m < d) = false) (g5 : decide (h < 0) = false) (g6 : decide (23 < h) = false) (g7 : decide (mi < 0) = true) :
    Calls Try.prog 13 #[.agg #[.int .i64 y, .int .i64 m, .int .i64 d, .int .i64 h, .int .i64 mi, .int .i64 wd]] w fun e w' =>
      e = .returned (.tuple #[.int .i64 0, .int .i64 1]) ∧ Below w.heap.size w w' := by
  go_enter Try.func13, Try.ntmps13
  go_wp2
  go_quiet ((go_at_call 17; exact quiet_same (rdays_any _ _ _)))
  go_wp2
  go_ret2
  exact ⟨rfl, below_alloc1 _ _ _⟩

set_option maxRecDepth 100000 in
theorem rminute_out10 (y m d h mi wd : Int) (w : World) (g1 : decide (y < 1) = false) (g2 : decide (9999 < y) = false) (m1 : decide (m < 1) = false) (m2 : decide (12 < m) = false) (g3 : decide (d < 1) = false) (g4 : decide (dm y m < d) = false) (g5 : decide (h < 0) = false) (g6 : decide (23 < h) = false) (g7 : decide (mi < 0) = false) (g8 : decide (59 < mi) = true) :
    Calls Try.prog 13 #[.agg #[.int .i64 y, .int .i64 m, .int .i64 d, .int .i64 h, .int .i64 mi, .int .i64 wd]] w fun e w' =>
      e = .returned (.tuple #[.int .i64 0, .int .i64 1]) ∧ Below w.heap.size w w' := by
  go_enter Try.func13, Try.ntmps13
  go_wp2
  go_quiet ((go_at_call 17; exact quiet_same (rdays_any _ _ _)))
  go_wp2
  go_ret2
  exact ⟨rfl, below_alloc1 _ _ _⟩

theorem rminute_out (y m d h mi wd : Int) (w : World) (hv : ¬ (1 ≤ y ∧ y ≤ 9999 ∧ 1 ≤ m ∧ m ≤ 12 ∧ 1 ≤ d ∧ d ≤ dm y m ∧ 0 ≤ h ∧ h ≤ 23 ∧ 0 ≤ mi ∧ mi ≤ 59)) :
    Calls Try.prog 13 #[.agg #[.int .i64 y, .int .i64 m, .int .i64 d, .int .i64 h, .int .i64 mi, .int .i64 wd]] w fun e w' =>
      e = .returned (.tuple #[.int .i64 0, .int .i64 1]) ∧ Below w.heap.size w w' := by
  by_cases c1 : y < 1
  · exact rminute_out1 y m d h mi wd w (by simpa using c1)
  by_cases c2 : 9999 < y
  · exact rminute_out2 y m d h mi wd w (by simpa using c1) (by simpa using c2)
  by_cases c3 : m < 1
  · exact rminute_out3 y m d h mi wd w (by simpa using c1) (by simpa using c2) (by simpa using c3)
  by_cases c4 : 12 < m
  · exact rminute_out4 y m d h mi wd w (by simpa using c1) (by simpa using c2) (by simpa using c3) (by simpa using c4)
  by_cases c5 : d < 1
  · exact rminute_out5 y m d h mi wd w (by simpa using c1) (by simpa using c2) (by simpa using c3) (by simpa using c4) (by simpa using c5)
  by_cases c6 : dm y m < d
  · exact rminute_out6 y m d h mi wd w (by simpa using c1) (by simpa using c2) (by simpa using c3) (by simpa using c4) (by simpa using c5) (by simpa using c6)
  by_cases c7 : h < 0
  · exact rminute_out7 y m d h mi wd w (by simpa using c1) (by simpa using c2) (by simpa using c3) (by simpa using c4) (by simpa using c5) (by simpa using c6) (by simpa using c7)
  by_cases c8 : 23 < h
  · exact rminute_out8 y m d h mi wd w (by simpa using c1) (by simpa using c2) (by simpa using c3) (by simpa using c4) (by simpa using c5) (by simpa using c6) (by simpa using c7) (by simpa using c8)
  by_cases c9 : mi < 0
  · exact rminute_out9 y m d h mi wd w (by simpa using c1) (by simpa using c2) (by simpa using c3) (by simpa using c4) (by simpa using c5) (by simpa using c6) (by simpa using c7) (by simpa using c8) (by simpa using c9)
  by_cases c10 : 59 < mi
  · exact rminute_out10 y m d h mi wd w (by simpa using c1) (by simpa using c2) (by simpa using c3) (by simpa using c4) (by simpa using c5) (by simpa using c6) (by simpa using c7) (by simpa using c8) (by simpa using c9) (by simpa using c10)
  exact absurd ⟨by omega, by omega, by omega, by omega, by omega, by omega, by omega, by omega, by omega, by omega⟩ hv

end Go.Proofs.Yteojfhnlbdehoaa.Cal
