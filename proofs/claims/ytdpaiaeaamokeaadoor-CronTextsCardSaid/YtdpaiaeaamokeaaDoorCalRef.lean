/- Contracts of the reference's calendar: Leap, Days, before, Of. -/
import Derived.Test.YtdpaiaeaamokeaaDoorCalWalks
namespace Go.Proofs.YtdpaiaeaamokeaaDoor.Cal
open Go.RowKit Go

theorem rleap_any (y : Int) (w : World) :
    Calls Tryd.prog 117 #[.int .i64 y] w fun e w' => e = .returned (.bool (lp y)) ∧ w = w' := by
  by_cases h4 : y % 4 = 0
  · by_cases h100 : y % 100 = 0
    · by_cases h400 : y % 400 = 0
      · have hl : lp y = true := (lp_iff y).2 (by omega)
        rw [hl]
        have b1 := tmod_eq y 4 h4; have b2 := tmod_eq y 100 h100; have b3 := tmod_eq y 400 h400
        have c1 := bne_of_beq b1; have c2 := bne_of_beq b2; have c3 := bne_of_beq b3
        clear h4 h100 h400 hl
        go_enter Tryd.func117, Tryd.ntmps117
        go_wp2
        go_ret
        exact ⟨rfl, rfl⟩
      · have hl : lp y = false := by simp [lp]; omega
        rw [hl]
        have b1 := tmod_eq y 4 h4; have b2 := tmod_eq y 100 h100; have b3 := tmod_ne y 400 h400
        have c1 := bne_of_beq b1; have c2 := bne_of_beq b2; have c3 := bne_of_beq b3
        clear h4 h100 h400 hl
        go_enter Tryd.func117, Tryd.ntmps117
        go_wp2
        go_ret
        exact ⟨rfl, rfl⟩
    · have hl : lp y = true := (lp_iff y).2 (by omega)
      rw [hl]
      have b1 := tmod_eq y 4 h4; have b2 := tmod_ne y 100 h100
      have c1 := bne_of_beq b1; have c2 := bne_of_beq b2
      clear h4 h100 hl
      go_enter Tryd.func117, Tryd.ntmps117
      go_wp2
      go_ret
      exact ⟨rfl, rfl⟩
  · have hl : lp y = false := by simp [lp]; omega
    rw [hl]
    have b1 := tmod_ne y 4 h4; have b3 := tmod_ne y 400 (by omega)
    have c1 := bne_of_beq b1; have c3 := bne_of_beq b3
    clear h4 hl
    go_enter Tryd.func117, Tryd.ntmps117
    go_wp2
    go_ret
    exact ⟨rfl, rfl⟩

theorem rdays_any (y m : Int) (w : World) :
    Calls Tryd.prog 101 #[.int .i64 y, .int .i64 m] w fun e w' => e = .returned (.int .i64 (dm y m)) ∧ w = w' := by
  by_cases h : m < 1 ∨ 12 < m
  · rw [dm_out y m h]
    have e4 : (m == 4) = false := by simp; omega
    have e6 : (m == 6) = false := by simp; omega
    have e9 : (m == 9) = false := by simp; omega
    have e11 : (m == 11) = false := by simp; omega
    have e2 : (m == 2) = false := by simp; omega
    rcases h with h | h
    · go_enter Tryd.func101, Tryd.ntmps101
      go_wp2
      go_ret
      exact ⟨rfl, rfl⟩
    · have h' : ¬ m < 1 := by omega
      go_enter Tryd.func101, Tryd.ntmps101
      go_wp2
      go_ret
      exact ⟨rfl, rfl⟩
  · by_cases h2 : m = 2
    · subst h2
      rw [show dm y 2 = 28 + lq y by simp [dm]]
      by_cases hl : lp y = true
      · rw [lq_true hl]
        go_enter Tryd.func101, Tryd.ntmps101
        go_wp2_with (go_at_call 117; refine (rleap_any _ _).mono ?_; rw [hl]; rintro e w' ⟨rfl, rfl⟩)
        go_ret
        exact ⟨rfl, rfl⟩
      · have hl' : lp y = false := by simpa using hl
        rw [lq_false hl']
        clear hl
        go_enter Tryd.func101, Tryd.ntmps101
        go_wp2_with (go_at_call 117; refine (rleap_any _ _).mono ?_; rw [hl']; rintro e w' ⟨rfl, rfl⟩)
        go_ret
        exact ⟨rfl, rfl⟩
    · have hm : m = 1 ∨ m = 3 ∨ m = 4 ∨ m = 5 ∨ m = 6 ∨ m = 7 ∨ m = 8 ∨ m = 9 ∨ m = 10 ∨ m = 11 ∨ m = 12 := by omega
      rcases hm with rfl | rfl | rfl | rfl | rfl | rfl | rfl | rfl | rfl | rfl | rfl
      all_goals
        simp only [dm]
        go_enter Tryd.func101, Tryd.ntmps101
        go_wp2
        go_ret
        exact ⟨rfl, rfl⟩

theorem rbefore_any (y v : Int) (w : World) (h1 : 1 ≤ y) (h2 : y ≤ 20000) (hv : Hid (ah y = v)) :
    Calls Tryd.prog 100 #[.int .i64 y] w fun e w' => e = .returned (.int .i64 v) ∧ w = w' := by
  rw [← hv.out]
  clear hv
  go_enter Tryd.func100, Tryd.ntmps100
  go_wp2
  go_ret
  exact ⟨rfl, rfl⟩

end Go.Proofs.YtdpaiaeaamokeaaDoor.Cal
