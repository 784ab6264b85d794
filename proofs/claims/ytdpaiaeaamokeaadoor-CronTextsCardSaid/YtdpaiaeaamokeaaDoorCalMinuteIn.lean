/- The contract of cal.Minute. -/
import Derived.Test.YtdpaiaeaamokeaaDoorProg
import Derived.Test.YtdpaiaeaamokeaaDoorCalMinute
namespace Go.Proofs.YtdpaiaeaamokeaaDoor.Cal
open Go.RowKit Go

set_option maxRecDepth 100000 in
theorem minute_in (y m d h mi wd : Int) (w : World) (hv : okd y m d h mi) :
    Calls Tryd.prog 54 #[.agg #[.int .i64 y, .int .i64 m, .int .i64 d, .int .i64 h, .int .i64 mi, .int .i64 wd]] w fun e w' =>
      e = .returned (.tuple #[.int .i64 (-1035593280 + (ah y + d - 1 + cum y m) * 1440 + 60 * h + mi), .int .i64 0]) ∧ Below w.heap.size w w' := by
  obtain ⟨h1, h2, h3, h4, h5, h6, h7, h8⟩ := hv
  obtain ⟨hm1, hm12⟩ := dm_in (y := y) (m := m) (by omega)
  have hb := ah_bd y h1 (by omega)
  have hd := dm_bd y m
  have hm0 := cum_bd y m hm1
  have g1 : decide (y < 1) = false := by simpa using h1
  have g2 : decide (9999 < y) = false := by simpa using h2
  have g3 : decide (d < 1) = false := by simpa using h3
  have g4 : decide (dm y m < d) = false := by simpa using h4
  have g5 : decide (h < 0) = false := by simpa using h5
  have g6 : decide (23 < h) = false := by simpa using h6
  have g7 : decide (mi < 0) = false := by simpa using h7
  have g8 : decide (59 < mi) = false := by simpa using h8
  go_enter Tryd.func54, Tryd.ntmps54
  go_wp2
  go_quiet ((go_at_call 67; exact quiet_same (days_any _ _ _)))
  rename Nat => n1
  go_wp2
  go_quiet ((go_at_call 66; exact quiet_same2 (ahead_any _ _ h1 (by omega))))
  go_wp2
  go_loopg [4, 5] 13 (fun k t c wr => ∃ j : Int, 1 ≤ j ∧ j ≤ m ∧ t = .int .i64 (ah y + d - 1 + cum y j) ∧ c = .int .i64 j ∧ k = (14 - j).toNat ∧ wr = (w.alloc (.cells #[.int .i64 y, .int .i64 m, .int .i64 d, .int .i64 h, .int .i64 mi, .int .i64 wd] 53)).drewN (n1 + nq))
  case atStart => exact ⟨1, by omega, hm1, by rw [cum_1, Int.add_zero], rfl, rfl, by rw [World.drewN_drewN]⟩
  case round =>
    obtain ⟨j, hj1, hj2, rfl, rfl, hk, rfl⟩ := hrel
    have HK := Lib.hid hk
    clear hk
    have cb := cum_bd y j hj1
    by_cases hlt : j < m
    · have cs := cum_succ y j hj1 (by omega)
      have db := dm_lo y j hj1 (by omega)
      have CS := Lib.hid cs
      clear cs
      go_wp2_with (go_at_call 67; refine (days_any _ _ _).mono ?_; rintro e w' ⟨rfl, rfl⟩)
      go_roundg ((14 - (j + 1)).toNat)
      case measure => have := HK.out; omega
      case rel => exact ⟨j + 1, by omega, by omega, by rw [CS.out]; go_num, rfl, rfl, rfl⟩
    · have hjm : m = j := by omega
      subst hjm
      have cb12 : cum y m ≤ 366 := cb.2
      go_wp2
      go_ret2
      exact ⟨rfl, below_alloc1 _ _ _⟩

theorem minute_out (y m d h mi wd : Int) (w : World) (hv : ¬ okd y m d h mi) :
    Calls Tryd.prog 54 #[.agg #[.int .i64 y, .int .i64 m, .int .i64 d, .int .i64 h, .int .i64 mi, .int .i64 wd]] w fun e w' =>
      e = .returned (.tuple #[.int .i64 0, .int .i64 1]) ∧ Below w.heap.size w w' := by
  by_cases g1 : y < 1
  · exact minute_out1 y m d h mi wd w (by simpa using g1)
  by_cases g2 : 9999 < y
  · exact minute_out2 y m d h mi wd w (by simpa using g1) (by simpa using g2)
  by_cases g3 : d < 1
  · exact minute_out3 y m d h mi wd w (by simpa using g1) (by simpa using g2) (by simpa using g3)
  by_cases g4 : dm y m < d
  · exact minute_out4 y m d h mi wd w (by simpa using g1) (by simpa using g2) (by simpa using g3) (by simpa using g4)
  by_cases g5 : h < 0
  · exact minute_out5 y m d h mi wd w (by simpa using g1) (by simpa using g2) (by simpa using g3) (by simpa using g4) (by simpa using g5)
  by_cases g6 : 23 < h
  · exact minute_out6 y m d h mi wd w (by simpa using g1) (by simpa using g2) (by simpa using g3) (by simpa using g4) (by simpa using g5) (by simpa using g6)
  by_cases g7 : mi < 0
  · exact minute_out7 y m d h mi wd w (by simpa using g1) (by simpa using g2) (by simpa using g3) (by simpa using g4) (by simpa using g5) (by simpa using g6) (by simpa using g7)
  by_cases g8 : 59 < mi
  · exact minute_out8 y m d h mi wd w (by simpa using g1) (by simpa using g2) (by simpa using g3) (by simpa using g4) (by simpa using g5) (by simpa using g6) (by simpa using g7) (by simpa using g8)
  exact absurd ⟨by omega, by omega, by omega, by omega, by omega, by omega, by omega, by omega⟩ hv

end Go.Proofs.YtdpaiaeaamokeaaDoor.Cal
