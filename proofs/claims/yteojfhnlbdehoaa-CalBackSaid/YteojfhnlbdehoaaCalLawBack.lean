/- CalBack, walked: the five ways from a minute to the next one. -/
import Derived.Test.YteojfhnlbdehoaaCalKnown
namespace Go.Proofs.Yteojfhnlbdehoaa.Cal
open Go.RowKit Go
set_option linter.unusedVariables false

/-- cal.Of of the minute M of hour H of day D. -/
theorem of_hm (n D H M y m d : Int) (w : World) (hn1 : n ≤ -1035593280 + 1440 * D + 60 * H + M) (hn2 : -1035593280 + 1440 * D + 60 * H + M ≤ n) (hH : 0 ≤ H ∧ H ≤ 23) (hM : 0 ≤ M ∧ M ≤ 59) (hd : IsDay D y m d) (hD : D < 3652059) :
    Calls Try.prog 10 #[.int .i64 n] w fun e w' =>
      e = .returned (.tuple #[.agg #[.int .i64 y, .int .i64 m, .int .i64 d, .int .i64 H, .int .i64 M, .int .i64 ((D + 1) % 7)], .int .i64 0]) ∧ Below w.heap.size w w' := by
  have hy := (hd.lt_end (hd.year_le hD)).1
  have e : H = (60 * H + M) / 60 := by omega
  rw [e]
  exact of_lit n D (60 * H + M) M y m d w (by omega) (by omega) (by omega) (by omega) (by omega) hd
theorem of_hm_ex (n D H M : Int) (w : World) (hn1 : n ≤ -1035593280 + 1440 * D + 60 * H + M) (hn2 : -1035593280 + 1440 * D + 60 * H + M ≤ n) (hH : 0 ≤ H ∧ H ≤ 23) (hM : 0 ≤ M ∧ M ≤ 59) (hD0 : 0 ≤ D) (hD : D < 3652059) :
    Calls Try.prog 10 #[.int .i64 n] w fun e w' =>
      ∃ y m d, e = .returned (.tuple #[.agg #[.int .i64 y, .int .i64 m, .int .i64 d, .int .i64 H, .int .i64 M, .int .i64 ((D + 1) % 7)], .int .i64 0]) ∧ IsDay D y m d ∧ Below w.heap.size w w' := by
  refine (of_in n D (60 * H + M) M w (by omega) (by omega) (show _ = _ by omega) (show _ = _ by omega) (show _ = _ by omega)).mono ?_
  rintro e w' ⟨⟨y, m, d, rfl, hd⟩, hb⟩
  refine ⟨y, m, d, ?_, hd, hb⟩
  rw [show (60 * H + M) / 60 = H by omega]
theorem minute_hm (D H M y m d wd : Int) (w : World) (hH : 0 ≤ H ∧ H ≤ 23) (hM : 0 ≤ M ∧ M ≤ 59) (hd : IsDay D y m d) (hD : D < 3652059) :
    Calls Try.prog 12 #[.agg #[.int .i64 y, .int .i64 m, .int .i64 d, .int .i64 H, .int .i64 M, .int .i64 wd]] w fun e w' =>
      e = .returned (.tuple #[.int .i64 (-1035593280 + 1440 * D + 60 * H + M), .int .i64 0]) ∧ Below w.heap.size w w' := by
  have hy := hd.year_le hD
  refine (minute_in y m d H M wd w ⟨hd.y1, hy, hd.d1, hd.dd, hH.1, hH.2, hM.1, hM.2⟩).mono ?_
  rintro e w' ⟨rfl, hb⟩
  have := hd.at_
  exact ⟨by rw [show -1035593280 + (ah y + d - 1 + cum y m) * 1440 + 60 * H + M = -1035593280 + 1440 * D + 60 * H + M by omega], hb⟩

set_option maxRecDepth 100000 in
theorem back_min (a0 D H M : Int) (c : M < 59) (w : World)
    (hn1 : a0 % 5258000000 - 1035500000 ≤ -1035593280 + 1440 * D + 60 * H + M) (hn2 : -1035593280 + 1440 * D + 60 * H + M ≤ a0 % 5258000000 - 1035500000) (hH : 0 ≤ H ∧ H ≤ 23) (hM : 0 ≤ M ∧ M ≤ 59) (hD0 : 0 ≤ D) (hD : D < 3652058) :
    Calls Try.prog 5 #[.int .i64 a0] w fun e w' => e = .returned (.bool true) ∧ Below w.heap.size w w' := by
  go_enter Try.func5, Try.ntmps5
  go_wp2_with fail
  go_at_call 8
  refine (known5 _).mono ?_
  rintro e wk ⟨rfl, hbk⟩
  go_wp2_with fail
  go_at_call 9
  refine (within5_any _ _ _ (by omega) (by omega)).mono ?_
  rintro e w' ⟨rfl, rfl⟩
  go_wp2_with fail
  go_at_call 10
  refine (of_hm_ex _ D H M _ hn1 hn2 hH hM hD0 (by omega)).mono ?_
  rintro e w1 ⟨y, m, d, rfl, hd, hb1⟩
  go_wp2_with fail
  go_at_call 12
  refine (minute_hm D H M y m d _ _ hH hM hd (by omega)).mono ?_
  rintro e w2 ⟨rfl, hb2⟩
  go_wp2_with fail
  go_at_call 10
  refine (of_hm _ D H (M + 1) y m d _ (by omega) (by omega) (by omega) (by omega) hd (by omega)).mono ?_
  rintro e w3 ⟨rfl, hb3⟩
  have hz2 := size1 hb2
  have hz : w1.heap.size < w3.heap.size := by have := hb3.size; omega
  have hB := fun o => (keep0 hb3 hz2 o).trans (keepN hb2 o)
  have hF := fun o => (keepF0 hb3 hz2 o).trans (keepF hb2 o)
  have hs1 : w.heap.size ≤ w1.heap.size := (bthen hbk hb1).size
  have hbel := bthen (bthen (bmore (bthen hbk hb1) (.cells #[.int .i64 y, .int .i64 m, .int .i64 d, .int .i64 H, .int .i64 M, .int .i64 ((D + 1) % 7)] 25)) hb2) hb3
  have q1 := hd.dd
  have q2 := hd.m12
  clear hb1 hb2 hb3 hbk hd
  have hss := setCell_twice
  have hsS := isSome_setCell
  have hsC := cell_same
  go_wp2
  go_quiet ((go_at_call 16; exact quiet_same (days_any _ _ _)))
  go_wp2
  go_ret
  refine ⟨?_, ?_⟩
  · first | exact ret_bool rfl | exact ret_bool (by simp; omega)
  · repeat (first | with_reducible exact hbel | with_reducible refine bmore ?_ _ | with_reducible refine below_drewN ?_ _ | with_reducible refine bset ?_ hs1 _)

set_option maxRecDepth 100000 in
theorem back_hour (a0 D H : Int) (c2 : H < 23) (w : World)
    (hn1 : a0 % 5258000000 - 1035500000 ≤ -1035593280 + 1440 * D + 60 * H + 59) (hn2 : -1035593280 + 1440 * D + 60 * H + 59 ≤ a0 % 5258000000 - 1035500000) (hH : 0 ≤ H ∧ H ≤ 23) (hD0 : 0 ≤ D) (hD : D < 3652058) :
    Calls Try.prog 5 #[.int .i64 a0] w fun e w' => e = .returned (.bool true) ∧ Below w.heap.size w w' := by
  go_enter Try.func5, Try.ntmps5
  go_wp2_with fail
  go_at_call 8
  refine (known5 _).mono ?_
  rintro e wk ⟨rfl, hbk⟩
  go_wp2_with fail
  go_at_call 9
  refine (within5_any _ _ _ (by omega) (by omega)).mono ?_
  rintro e w' ⟨rfl, rfl⟩
  go_wp2_with fail
  go_at_call 10
  refine (of_hm_ex _ D H 59 _ hn1 hn2 hH (by omega) hD0 (by omega)).mono ?_
  rintro e w1 ⟨y, m, d, rfl, hd, hb1⟩
  go_wp2_with fail
  go_at_call 12
  refine (minute_hm D H 59 y m d _ _ hH (by omega) hd (by omega)).mono ?_
  rintro e w2 ⟨rfl, hb2⟩
  go_wp2_with fail
  go_at_call 10
  refine (of_hm _ D (H + 1) 0 y m d _ (by omega) (by omega) (by omega) (by omega) hd (by omega)).mono ?_
  rintro e w3 ⟨rfl, hb3⟩
  have hz2 := size1 hb2
  have hz : w1.heap.size < w3.heap.size := by have := hb3.size; omega
  have hB := fun o => (keep0 hb3 hz2 o).trans (keepN hb2 o)
  have hF := fun o => (keepF0 hb3 hz2 o).trans (keepF hb2 o)
  have hs1 : w.heap.size ≤ w1.heap.size := (bthen hbk hb1).size
  have hbel := bthen (bthen (bmore (bthen hbk hb1) (.cells #[.int .i64 y, .int .i64 m, .int .i64 d, .int .i64 H, .int .i64 59, .int .i64 ((D + 1) % 7)] 25)) hb2) hb3
  have q1 := hd.dd
  have q2 := hd.m12
  clear hb1 hb2 hb3 hbk hd
  have hss := setCell_twice
  have hsS := isSome_setCell
  have hsC := cell_same
  go_wp2
  go_quiet ((go_at_call 16; exact quiet_same (days_any _ _ _)))
  go_wp2
  go_ret
  refine ⟨?_, ?_⟩
  · first | exact ret_bool rfl | exact ret_bool (by simp; omega)
  · repeat (first | with_reducible exact hbel | with_reducible refine bmore ?_ _ | with_reducible refine below_drewN ?_ _ | with_reducible refine bset ?_ hs1 _)

set_option maxHeartbeats 1000000 in
set_option maxRecDepth 100000 in
theorem back_day (a0 D : Int) (w : World)
    (hn1 : a0 % 5258000000 - 1035500000 ≤ -1035593280 + 1440 * D + 60 * 23 + 59) (hn2 : -1035593280 + 1440 * D + 60 * 23 + 59 ≤ a0 % 5258000000 - 1035500000) (hD0 : 0 ≤ D) (hD : D < 3652058) :
    Calls Try.prog 5 #[.int .i64 a0] w fun e w' => e = .returned (.bool true) ∧ Below w.heap.size w w' := by
  go_enter Try.func5, Try.ntmps5
  go_wp2_with fail
  go_at_call 8
  refine (known5 _).mono ?_
  rintro e wk ⟨rfl, hbk⟩
  go_wp2_with fail
  go_at_call 9
  refine (within5_any _ _ _ (by omega) (by omega)).mono ?_
  rintro e w' ⟨rfl, rfl⟩
  go_wp2_with fail
  go_at_call 10
  refine (of_hm_ex _ D 23 59 _ hn1 hn2 (by omega) (by omega) hD0 (by omega)).mono ?_
  rintro e w1 ⟨y, m, d, rfl, hd, hb1⟩
  go_wp2_with fail
  go_at_call 12
  refine (minute_hm D 23 59 y m d _ _ (by omega) (by omega) hd (by omega)).mono ?_
  rintro e w2 ⟨rfl, hb2⟩
  have hnx := hd.next
  have p1 := hd.d1
  have p2 := hd.dd
  have p3 := dm_bd y m
  have p4 := hd.m1
  have p5 := hd.y1
  have p6 := hd.year_le (by omega)
  by_cases c3 : d < dm y m
  · have hd2 := hnx.1 c3
    clear hnx
    go_wp2_with fail
    go_at_call 10
    refine (of_hm _ (D + 1) 0 0 y m (d + 1) _ (by omega) (by omega) (by omega) (by omega) hd2 (by omega)).mono ?_
    rintro e w3 ⟨rfl, hb3⟩
    have hz2 := size1 hb2
    have hz : w1.heap.size < w3.heap.size := by have := hb3.size; omega
    have hB := fun o => (keep0 hb3 hz2 o).trans (keepN hb2 o)
    have hF := fun o => (keepF0 hb3 hz2 o).trans (keepF hb2 o)
    have hs1 : w.heap.size ≤ w1.heap.size := (bthen hbk hb1).size
    have hbel := bthen (bthen (bmore (bthen hbk hb1) (.cells #[.int .i64 y, .int .i64 m, .int .i64 d, .int .i64 23, .int .i64 59, .int .i64 ((D + 1) % 7)] 25)) hb2) hb3
    have q2 := hd.m12
    clear hd2
    clear hb1 hb2 hb3 hbk hd
    have hss := setCell_twice
    have hsS := isSome_setCell
    have hsC := cell_same
    go_wp2
    go_quiet ((go_at_call 16; exact quiet_same (days_any _ _ _)))
    go_wp2
    go_ret
    refine ⟨?_, ?_⟩
    · first | exact ret_bool rfl | exact ret_bool (by simp; omega)
    · repeat (first | with_reducible exact hbel | with_reducible refine bmore ?_ _ | with_reducible refine below_drewN ?_ _ | with_reducible refine bset ?_ hs1 _)
  · have c4 : d = dm y m := by have := hd.dd; omega
    by_cases c5 : m < 12
    · have hd2 := hnx.2.1 c4 c5
      clear hnx
      clear c4
      go_wp2_with fail
      go_at_call 10
      refine (of_hm _ (D + 1) 0 0 y (m + 1) 1 _ (by omega) (by omega) (by omega) (by omega) hd2 (by omega)).mono ?_
      rintro e w3 ⟨rfl, hb3⟩
      have hz2 := size1 hb2
      have hz : w1.heap.size < w3.heap.size := by have := hb3.size; omega
      have hB := fun o => (keep0 hb3 hz2 o).trans (keepN hb2 o)
      have hF := fun o => (keepF0 hb3 hz2 o).trans (keepF hb2 o)
      have hs1 : w.heap.size ≤ w1.heap.size := (bthen hbk hb1).size
      have hbel := bthen (bthen (bmore (bthen hbk hb1) (.cells #[.int .i64 y, .int .i64 m, .int .i64 d, .int .i64 23, .int .i64 59, .int .i64 ((D + 1) % 7)] 25)) hb2) hb3
      clear hd2
      clear hb1 hb2 hb3 hbk hd
      have hss := setCell_twice
      have hsS := isSome_setCell
      have hsC := cell_same
      go_wp2
      go_quiet ((go_at_call 16; exact quiet_same (days_any _ _ _)))
      go_wp2
      go_ret
      refine ⟨?_, ?_⟩
      · first | exact ret_bool rfl | exact ret_bool (by simp; omega)
      · repeat (first | with_reducible exact hbel | with_reducible refine bmore ?_ _ | with_reducible refine below_drewN ?_ _ | with_reducible refine bset ?_ hs1 _)
    · have c6 : m = 12 := by have := hd.m12; omega
      have hd2 := hnx.2.2 c4 c6
      clear hnx
      clear c4 c6
      have q2 := hd.m12
      go_wp2_with fail
      go_at_call 10
      refine (of_hm _ (D + 1) 0 0 (y + 1) 1 1 _ (by omega) (by omega) (by omega) (by omega) hd2 (by omega)).mono ?_
      rintro e w3 ⟨rfl, hb3⟩
      have hz2 := size1 hb2
      have hz : w1.heap.size < w3.heap.size := by have := hb3.size; omega
      have hB := fun o => (keep0 hb3 hz2 o).trans (keepN hb2 o)
      have hF := fun o => (keepF0 hb3 hz2 o).trans (keepF hb2 o)
      have hs1 : w.heap.size ≤ w1.heap.size := (bthen hbk hb1).size
      have hbel := bthen (bthen (bmore (bthen hbk hb1) (.cells #[.int .i64 y, .int .i64 m, .int .i64 d, .int .i64 23, .int .i64 59, .int .i64 ((D + 1) % 7)] 25)) hb2) hb3
      clear hd2
      clear hb1 hb2 hb3 hbk hd
      have hss := setCell_twice
      have hsS := isSome_setCell
      have hsC := cell_same
      go_wp2
      go_quiet ((go_at_call 16; exact quiet_same (days_any _ _ _)))
      go_wp2
      go_ret
      refine ⟨?_, ?_⟩
      · first | exact ret_bool rfl | exact ret_bool (by simp; omega)
      · repeat (first | with_reducible exact hbel | with_reducible refine bmore ?_ _ | with_reducible refine below_drewN ?_ _ | with_reducible refine bset ?_ hs1 _)


theorem back_walk (a0 : Int) (w0 : (Lit.int .i64 a0).wf = true) (w : World) :
    Calls Try.prog 5 #[.int .i64 a0] w fun e w' => e = .returned (.bool true) ∧ Below w.heap.size w w' := by
  obtain ⟨n, hn⟩ : ∃ n, n = a0 % 5258000000 - 1035500000 + 1035593280 := ⟨_, rfl⟩
  have b : 0 ≤ n ∧ n < 5258093280 := by omega
  by_cases c : n % 60 < 59
  · exact back_min a0 (n / 1440) (n % 1440 / 60) (n % 60) c w (by omega) (by omega) (by omega) (by omega) (by omega) (by omega)
  · by_cases c2 : n % 1440 / 60 < 23
    · exact back_hour a0 (n / 1440) (n % 1440 / 60) c2 w (by omega) (by omega) (by omega) (by omega) (by omega)
    · exact back_day a0 (n / 1440) w (by omega) (by omega) (by omega) (by omega)

end Go.Proofs.Yteojfhnlbdehoaa.Cal
