/- CalYears, walked. -/
import Derived.Test.YteojfhnlbdehoaaCalKnown
namespace Go.Proofs.Yteojfhnlbdehoaa.Cal
open Go.RowKit Go
set_option linter.unusedVariables false

/-- The first minute of a year. -/
theorem minute_jan (y v : Int) (w : World) (h1 : 1 ≤ y) (h2 : y ≤ 9999) (hv : Hid (ah y = v)) :
    Calls Try.prog 12 #[.agg #[.int .i64 y, .int .i64 1, .int .i64 1, .int .i64 0, .int .i64 0, .int .i64 0]] w fun e w' =>
      e = .returned (.tuple #[.int .i64 (-1035593280 + v * 1440), .int .i64 0]) ∧ Below w.heap.size w w' := by
  have hd := dm_lo y 1 (by omega) (by omega)
  refine (minute_in y 1 1 0 0 0 w ⟨h1, h2, by omega, by omega, by omega, by omega, by omega, by omega⟩).mono ?_
  rintro e w' ⟨rfl, hb⟩
  have e1 : -1035593280 + (ah y + 1 - 1 + cum y 1) * 1440 + 60 * 0 + 0 = -1035593280 + v * 1440 := by rw [cum_1, hv.out]; omega
  rw [e1]
  exact ⟨rfl, hb⟩

theorem day_jan (y : Int) (h : 1 ≤ y) (v : Int) (hv : ah y = v) : IsDay v y 1 1 := by
  have hd := dm_lo y 1 (by omega) (by omega)
  exact ⟨h, by omega, by omega, by omega, by omega, by rw [cum_1]; omega⟩

set_option maxRecDepth 100000 in
theorem years_walk (a0 : Int) (w0 : (Lit.int .i64 a0).wf = true) (w : World) :
    Calls Try.prog 6 #[.int .i64 a0] w fun e w' => e = .returned (.bool true) ∧ Below w.heap.size w w' := by
  obtain ⟨y, hy⟩ : ∃ y, 1 + a0 % 9500 = y := ⟨_, rfl⟩
  have hy1 : 1 ≤ y ∧ y ≤ 9500 := by omega
  have HY := Lib.hid hy
  clear hy
  obtain ⟨v, hv⟩ : ∃ v, ah y = v := ⟨_, rfl⟩
  have hv0 : 0 ≤ v := by rw [← hv]; exact (ah_bd y hy1.1 (by omega)).1
  have hv1 : v ≤ 3469438 := by
    rw [← hv]
    have := ah_mono (a := y) (b := 9500) hy1.1 hy1.2
    have e : ah 9500 = 3469438 := by decide
    omega
  have s1 : Hid (ah (y + 1) = v + 365 + lq y) := by rw [ah_succ y hy1.1, hv]; rfl
  have s2 : Hid (ah (y + 400) = v + 146097) := by rw [ah_400, hv]; rfl
  have j1 := day_jan y hy1.1 v hv
  have j2 := day_jan (y + 400) (by omega) (v + 146097) s2.out
  have HV := Lib.hid hv
  clear hv
  by_cases hl : lp y = true
  case' pos =>
    rw [lq_true hl, show v + 365 + 1 = v + 366 by omega] at s1
    have HQ : Hid (cum y 13 = 366) := by rw [cum_13, lq_true hl]; rfl
  case' neg =>
    have hl' : lp y = false := by simpa using hl
    rw [lq_false hl', Int.add_zero] at s1
    have HQ : Hid (cum y 13 = 365) := by rw [cum_13, lq_false hl']; rfl
    clear hl
    have hl := hl'
    clear hl'
  all_goals
    go_enter Try.func6, Try.ntmps6
    go_wp2_with fail
    go_at_call 8
    refine (known5 _).mono ?_
    rintro e wk ⟨rfl, hbk⟩
    go_wp2_with fail
    go_at_call 9
    refine (within5_any _ _ _ (by omega) (by omega)).mono ?_
    rintro e w' ⟨rfl, rfl⟩
    go_wp2_with fail
    rw [HY.out]
    go_at_call 12
    refine (minute_jan _ _ _ (by omega) (by omega) HV).mono ?_
    rintro e w1 ⟨rfl, hb1⟩
    go_wp2_with fail
    go_at_call 12
    refine (minute_jan _ _ _ (by omega) (by omega) s1).mono ?_
    rintro e w2 ⟨rfl, hb2⟩
    go_wp2_with fail
    go_at_call 12
    refine (minute_jan _ _ _ (by omega) (by omega) s2).mono ?_
    rintro e w3 ⟨rfl, hb3⟩
    go_wp2_with (go_at_call 14; refine (leap_any _ _).mono ?_; rw [hl]; rintro e w' ⟨rfl, rfl⟩)
    refine (of_lit _ v 0 0 y 1 1 _ (by omega) (by omega) (by omega) (by omega) (by omega) j1).mono ?_
    rintro e w4 ⟨rfl, hb4⟩
    go_wp2_with fail
    go_at_call 10
    refine (of_lit _ (v + 146097) 0 0 (y + 400) 1 1 _ (by omega) (by omega) (by omega) (by omega) (by omega) j2).mono ?_
    rintro e w5 ⟨rfl, hb5⟩
    obtain ⟨hc, hf⟩ := bcell hb5
    have hz : w4.heap.size < w5.heap.size := by have := hb5.size; simp at this; omega
    have hbel := bmore (bthen (bmore (bthen (bthen (bthen (bthen hbk hb1) hb2) hb3) hb4) (.cells #[.int .i64 y, .int .i64 1, .int .i64 1, .int .i64 (0 / 60), .int .i64 0, .int .i64 ((v + 1) % 7)] 25)) hb5) (.cells #[.int .i64 (y + 400), .int .i64 1, .int .i64 1, .int .i64 (0 / 60), .int .i64 0, .int .i64 ((v + 146097 + 1) % 7)] 25)
    clear hb1 hb2 hb3 hb4 hb5 hbk HV s1 s2 j1 j2 HY w0
    go_wp2
    go_loopg [14, 15] 13 (fun k t c wr => ∃ j : Int, 1 ≤ j ∧ j ≤ 13 ∧ t = .int .i64 (cum y j) ∧ c = .int .i64 j ∧ k = (14 - j).toNat ∧ wr = w5.alloc (.cells #[.int .i64 (y + 400), .int .i64 1, .int .i64 1, .int .i64 0, .int .i64 0, .int .i64 ((v + 146097 + 1) % 7)] 25))
    case atStart => exact ⟨1, by omega, by omega, by rw [cum_1], rfl, rfl, rfl⟩
    case round =>
      obtain ⟨j, hj1, hj2, rfl, rfl, hk, rfl⟩ := hrel
      have HK := Lib.hid hk
      clear hk
      have cb := cum_bd y j hj1
      by_cases hlt : j ≤ 12
      · have cs := cum_succ y j hj1 (by omega)
        have db := dm_lo y j hj1 (by omega)
        have CS := Lib.hid cs
        clear cs
        go_wp2_with (go_at_call 16; refine (days_any _ _ _).mono ?_; rintro e w' ⟨rfl, rfl⟩)
        go_roundg ((14 - (j + 1)).toNat)
        case measure => have := HK.out; omega
        case rel => exact ⟨j + 1, by omega, by omega, by rw [CS.out], rfl, rfl, rfl⟩
      · obtain rfl : j = 13 := by omega
        rw [HQ.out]
        clear HQ HK hj1 hj2 cb
        go_wp2
        go_ret
        exact ⟨ret_bool (by simp; omega), hbel⟩

end Go.Proofs.Yteojfhnlbdehoaa.Cal
