/- The contract of cal.Minute. -/
import Derived.Test.YtdpaiaeaamokeaaDoorProg
import Derived.Test.YtdpaiaeaamokeaaDoorCalWalks
namespace Go.Proofs.YtdpaiaeaamokeaaDoor.Cal
open Go.RowKit Go

/-- May a date be? -/
def okd (y m d h mi : Int) : Prop := 1 ≤ y ∧ y ≤ 9999 ∧ 1 ≤ d ∧ d ≤ dm y m ∧ 0 ≤ h ∧ h ≤ 23 ∧ 0 ≤ mi ∧ mi ≤ 59

set_option maxRecDepth 100000 in
theorem minute_out1 (y m d h mi wd : Int) (w : World) (g1 : decide (y < 1) = true) :
    Calls Tryd.prog 54 #[.agg #[.int .i64 y, .int .i64 m, .int .i64 d, .int .i64 h, .int .i64 mi, .int .i64 wd]] w fun e w' =>
      e = .returned (.tuple #[.int .i64 0, .int .i64 1]) ∧ Below w.heap.size w w' := by
  go_enter Tryd.func54, Tryd.ntmps54
  go_wp2
  go_quiet ((go_at_call 67; exact quiet_same (days_any _ _ _)))
  go_wp2
  go_ret2
  exact ⟨rfl, below_alloc1 _ _ _⟩

set_option maxRecDepth 100000 in
theorem minute_out2 (y m d h mi wd : Int) (w : World) (g1 : decide (y < 1) = false) (g2 : decide (9999 < y) = true) :
    Calls Tryd.prog 54 #[.agg #[.int .i64 y, .int .i64 m, .int .i64 d, .int .i64 h, .int .i64 mi, .int .i64 wd]] w fun e w' =>
      e = .returned (.tuple #[.int .i64 0, .int .i64 1]) ∧ Below w.heap.size w w' := by
  go_enter Tryd.func54, Tryd.ntmps54
  go_wp2
  go_quiet ((go_at_call 67; exact quiet_same (days_any _ _ _)))
  go_wp2
  go_ret2
  exact ⟨rfl, below_alloc1 _ _ _⟩

set_option maxRecDepth 100000 in
theorem minute_out3 (y m d h mi wd : Int) (w : World) (g1 : decide (y < 1) = false) (g2 : decide (9999 < y) = false) (g3 : decide (d < 1) = true) :
    Calls Tryd.prog 54 #[.agg #[.int .i64 y, .int .i64 m, .int .i64 d, .int .i64 h, .int .i64 mi, .int .i64 wd]] w fun e w' =>
      e = .returned (.tuple #[.int .i64 0, .int .i64 1]) ∧ Below w.heap.size w w' := by
  go_enter Tryd.func54, Tryd.ntmps54
  go_wp2
  go_quiet ((go_at_call 67; exact quiet_same (days_any _ _ _)))
  go_wp2
  go_ret2
  exact ⟨rfl, below_alloc1 _ _ _⟩

set_option maxRecDepth 100000 in
theorem minute_out4 (y m d h mi wd : Int) (w : World) (g1 : decide (y < 1) = false) (g2 : decide (9999 < y) = false) (g3 : decide (d < 1) = false) (g4 : decide (dm y m < d) = true) :
    Calls Tryd.prog 54 #[.agg #[.int .i64 y, .int .i64 m, .int .i64 d, .int .i64 h, .int .i64 mi, .int .i64 wd]] w fun e w' =>
      e = .returned (.tuple #[.int .i64 0, .int .i64 1]) ∧ Below w.heap.size w w' := by
  go_enter Tryd.func54, Tryd.ntmps54
  go_wp2
  go_quiet ((go_at_call 67; exact quiet_same (days_any _ _ _)))
  go_wp2
  go_ret2
  exact ⟨rfl, below_alloc1 _ _ _⟩

set_option maxRecDepth 100000 in
theorem minute_out5 (y m d h mi wd : Int) (w : World) (g1 : decide (y < 1) = false) (g2 : decide (9999 < y) = false) (g3 : decide (d < 1) = false) (g4 : decide (dm y m < d) = false) (g5 : decide (h < 0) = true) :
    Calls Tryd.prog 54 #[.agg #[.int .i64 y, .int .i64 m, .int .i64 d, .int .i64 h, .int .i64 mi, .int .i64 wd]] w fun e w' =>
      e = .returned (.tuple #[.int .i64 0, .int .i64 1]) ∧ Below w.heap.size w w' := by
  go_enter Tryd.func54, Tryd.ntmps54
  go_wp2
  go_quiet ((go_at_call 67; exact quiet_same (days_any _ _ _)))
  go_wp2
  go_ret2
  exact ⟨rfl, below_alloc1 _ _ _⟩

set_option maxRecDepth 100000 in
theorem minute_out6 (y m d h mi wd : Int) (w : World) (g1 : decide (y < 1) = false) (g2 : decide (9999 < y) = false) (g3 : decide (d < 1) = false) (g4 : decide (dm y m < d) = false) (g5 : decide (h < 0) = false) (g6 : decide (23 < h) = true) :
    Calls Tryd.prog 54 #[.agg #[.int .i64 y, .int .i64 m, .int .i64 d, .int .i64 h, .int .i64 mi, .int .i64 wd]] w fun e w' =>
      e = .returned (.tuple #[.int .i64 0, .int .i64 1]) ∧ Below w.heap.size w w' := by
  go_enter Tryd.func54, Tryd.ntmps54
  go_wp2
  go_quiet ((go_at_call 67; exact quiet_same (days_any _ _ _)))
  go_wp2
  go_ret2
  exact ⟨rfl, below_alloc1 _ _ _⟩

set_option maxRecDepth 100000 in
theorem minute_out7 (y m d h mi wd : Int) (w : World) (g1 : decide (y < 1) = false) (g2 : decide (9999 < y) = false) (g3 : decide (d < 1) = false) (g4 : decide (dm y m < d) = false) (g5 : decide (h < 0) = false) (g6 : decide (23 < h) = false) (g7 : decide (mi < 0) = true) :
    Calls Tryd.prog 54 #[.agg #[.int .i64 y, .int .i64 m, .int .i64 d, .int .i64 h, .int .i64 mi, .int .i64 wd]] w fun e w' =>
      e = .returned (.tuple #[.int .i64 0, .int .i64 1]) ∧ Below w.heap.size w w' := by
  go_enter Tryd.func54, Tryd.ntmps54
  go_wp2
  go_quiet ((go_at_call 67; exact quiet_same (days_any _ _ _)))
  go_wp2
  go_ret2
  exact ⟨rfl, below_alloc1 _ _ _⟩

set_option maxRecDepth 100000 in
theorem minute_out8 (y m d h mi wd : Int) (w : World) (g1 : decide (y < 1) = false) (g2 : decide (9999 < y) = false) (g3 : decide (d < 1) = false) (g4 : decide (dm y m < d) = false) (g5 : decide (h < 0) = false) (g6 : decide (23 < h) = false) (g7 : decide (mi < 0) = false) (g8 : decide (59 < mi) = true) :
    Calls Tryd.prog 54 #[.agg #[.int .i64 y, .int .i64 m, .int .i64 d, .int .i64 h, .int .i64 mi, .int .i64 wd]] w fun e w' =>
      e = .returned (.tuple #[.int .i64 0, .int .i64 1]) ∧ Below w.heap.size w w' := by
  go_enter Tryd.func54, Tryd.ntmps54
  go_wp2
  go_quiet ((go_at_call 67; exact quiet_same (days_any _ _ _)))
  go_wp2
  go_ret2
  exact ⟨rfl, below_alloc1 _ _ _⟩

end Go.Proofs.YtdpaiaeaamokeaaDoor.Cal
