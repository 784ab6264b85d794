/- CalDates, walked: the program's calendar against the reference's. -/
import Derived.Test.YteojfhnlbdehoaaCalKnown
import Derived.Test.YteojfhnlbdehoaaCalRefOf
import Derived.Test.YteojfhnlbdehoaaCalRefMinIn
import Derived.OpenShut
namespace Go.Proofs.Yteojfhnlbdehoaa.Cal
open Go.RowKit Go
set_option linter.unusedVariables false

theorem rof_lit (n D R M y m d : Int) (w : World) (h1 : -1035593280 ≤ n) (h2 : n ≤ 4223371679) (hD : n / 1440 + 719162 = D) (hR : n % 1440 = R) (hM : R % 60 = M) (hd : IsDay D y m d) :
    Calls Try.prog 11 #[.int .i64 n] w fun e w' =>
      e = .returned (.tuple #[.agg #[.int .i64 y, .int .i64 m, .int .i64 d, .int .i64 (R / 60), .int .i64 M, .int .i64 ((D + 1) % 7)], .int .i64 0]) ∧ Below w.heap.size w w' := by
  subst hM
  refine (rof_in n D R w h1 h2 hD hR).mono ?_
  rintro e w' ⟨⟨y', m', d', he, hd'⟩, hb⟩
  obtain ⟨rfl, rfl, rfl⟩ := hd.uniq hd'
  exact ⟨he, hb⟩
/-- What either Minute answers. -/
def minV (y m d h mi : Int) : Int := -1035593280 + (ah y + d - 1 + cum y m) * 1440 + 60 * h + mi
theorem minute_v (y m d h mi wd v : Int) (w : World) (hv : okd y m d h mi) (e : minV y m d h mi = v) :
    Calls Try.prog 12 #[.agg #[.int .i64 y, .int .i64 m, .int .i64 d, .int .i64 h, .int .i64 mi, .int .i64 wd]] w fun e w' =>
      e = .returned (.tuple #[.int .i64 v, .int .i64 0]) ∧ Below w.heap.size w w' := by subst e; exact minute_in y m d h mi wd w hv
theorem rminute_v (y m d h mi wd v : Int) (w : World) (hv : okd y m d h mi) (e : minV y m d h mi = v) :
    Calls Try.prog 13 #[.agg #[.int .i64 y, .int .i64 m, .int .i64 d, .int .i64 h, .int .i64 mi, .int .i64 wd]] w fun e w' =>
      e = .returned (.tuple #[.int .i64 v, .int .i64 0]) ∧ Below w.heap.size w w' := by
  subst e
  refine (rminute_in y m d h mi wd w hv).mono ?_
  rintro e w' ⟨rfl, hb⟩
  exact ⟨by rw [show (ah y - 719162 + d - 1 + cum y m) * 1440 + h * 60 + mi = minV y m d h mi by unfold minV; omega], hb⟩

set_option maxHeartbeats 1000000 in
set_option maxRecDepth 100000 in
theorem dates_ii (n y0 m0 d0 h0 i0 k0 : Int) (w : World) (n1 : -1035593280 ≤ n) (n2 : n ≤ 4223371679) (hv : okd y0 m0 d0 h0 i0) :
    Calls Try.prog 4 #[.int .i64 n, .agg #[.int .i64 y0, .int .i64 m0, .int .i64 d0, .int .i64 h0, .int .i64 i0, .int .i64 k0]] w fun e w' => e = .returned (.bool true) ∧ Below w.heap.size w w' := by
  obtain ⟨D, hD⟩ : ∃ D, (n + 1035593280) / 1440 = D := ⟨_, rfl⟩
  obtain ⟨R, hR⟩ : ∃ R, (n + 1035593280) % 1440 = R := ⟨_, rfl⟩
  obtain ⟨M, hM⟩ : ∃ M, (n + 1035593280) % 60 = M := ⟨_, rfl⟩
  have HD := Lib.hid hD
  have HR := Lib.hid hR
  have HM := Lib.hid hM
  clear hD hR hM
  obtain ⟨v, hv2⟩ : ∃ v, minV y0 m0 d0 h0 i0 = v := ⟨_, rfl⟩
  have HV := Lib.hid hv2
  clear hv2
  go_enter Try.func4, Try.ntmps4
  go_wp2_with fail
  go_at_call 8
  refine (known5 _).mono ?_
  rintro e wk ⟨rfl, hbk⟩
  have hzk := size1 hbk
  have hBk := keepN hbk
  have hb0 : Below w.heap.size w wk := ((Below.refl _ _).alloc (Nat.le_refl _) _).trans (hbk.mono (by simp))
  clear hbk
  go_wp2_with fail
  go_at_call 10
  refine (of_in n D R M _ n1 n2 HD HR HM).mono ?_
  rintro e w1 ⟨⟨y, m, d, rfl, hd⟩, hb1⟩
  have hz1 : w.heap.size < w1.heap.size := by have := hb1.size; omega
  have hB1 := fun o => (keep0 hb1 hzk o).trans (hBk o)
  clear hBk
  have hbA := bthen hb0 hb1
  clear hb0 hb1
  go_wp2_with fail
  go_at_call 11
  refine (rof_lit n D R M y m d _ n1 n2 (by have := HD.out; omega) (by have := HR.out; omega) (by have := HR.out; have := HM.out; omega) hd).mono ?_
  rintro e w2 ⟨rfl, hb2⟩
  have hz2 := size1 hb2
  have hy2 : w.heap.size < w2.heap.size := by omega
  have hB2 := fun o => (keep1 hb2 hz1 o).trans (hB1 o)
  have hC2 := keepN hb2
  clear hB1
  have hbB := bthen (bmore hbA _) hb2
  clear hbA hb2
  go_wp2_with fail
  go_at_call 12
  refine (minute_v y0 m0 d0 h0 i0 k0 v _ hv HV.out).mono ?_
  rintro e w3 ⟨rfl, hb3⟩
  have hz3 := size1 hb3
  have hy3 : w.heap.size < w3.heap.size := by omega
  have hx3 : w1.heap.size < w3.heap.size := by omega
  have hB3 := fun o => (keep1 hb3 hy2 o).trans (hB2 o)
  have hC3 := fun o => (keep1 hb3 hz2 o).trans (hC2 o)
  have hD3 := keepN hb3
  clear hB2 hC2
  have hbC := bthen (bmore hbB _) hb3
  clear hbB hb3
  go_wp2_with fail
  go_at_call 13
  refine (rminute_v y0 m0 d0 h0 i0 k0 v _ hv HV.out).mono ?_
  rintro e w4 ⟨rfl, hb4⟩
  have hz4 : w2.heap.size < w4.heap.size := by have := hb4.size; omega
  have hB4 := fun o => (keep0 hb4 hy3 o).trans (hB3 o)
  have hC4 := fun o => (keep0 hb4 hx3 o).trans (hC3 o)
  have hD4 := fun o => (keep0 hb4 hz3 o).trans (hD3 o)
  clear hB3 hC3 hD3
  have hbD := bthen hbC hb4
  clear hbC hb4
  go_wp2
  go_quiet ((first | (go_at_call 14; exact quiet_same (leap_any _ _)) | (go_at_call 15; exact quiet_same (rleap_any _ _)) | (go_at_call 16; exact quiet_same (days_any _ _ _)) | (go_at_call 17; exact quiet_same (rdays_any _ _ _))))
  go_wp2
  go_ret
  exact ⟨by first | rfl | exact ret_bool (by simp), below_drewN hbD _⟩

set_option maxHeartbeats 1000000 in
set_option maxRecDepth 100000 in
theorem dates_io (n y0 m0 d0 h0 i0 k0 : Int) (w : World) (n1 : -1035593280 ≤ n) (n2 : n ≤ 4223371679) (hv : ¬ okd y0 m0 d0 h0 i0) :
    Calls Try.prog 4 #[.int .i64 n, .agg #[.int .i64 y0, .int .i64 m0, .int .i64 d0, .int .i64 h0, .int .i64 i0, .int .i64 k0]] w fun e w' => e = .returned (.bool true) ∧ Below w.heap.size w w' := by
  obtain ⟨D, hD⟩ : ∃ D, (n + 1035593280) / 1440 = D := ⟨_, rfl⟩
  obtain ⟨R, hR⟩ : ∃ R, (n + 1035593280) % 1440 = R := ⟨_, rfl⟩
  obtain ⟨M, hM⟩ : ∃ M, (n + 1035593280) % 60 = M := ⟨_, rfl⟩
  have HD := Lib.hid hD
  have HR := Lib.hid hR
  have HM := Lib.hid hM
  clear hD hR hM
  go_enter Try.func4, Try.ntmps4
  go_wp2_with fail
  go_at_call 8
  refine (known5 _).mono ?_
  rintro e wk ⟨rfl, hbk⟩
  have hzk := size1 hbk
  have hBk := keepN hbk
  have hb0 : Below w.heap.size w wk := ((Below.refl _ _).alloc (Nat.le_refl _) _).trans (hbk.mono (by simp))
  clear hbk
  go_wp2_with fail
  go_at_call 10
  refine (of_in n D R M _ n1 n2 HD HR HM).mono ?_
  rintro e w1 ⟨⟨y, m, d, rfl, hd⟩, hb1⟩
  have hz1 : w.heap.size < w1.heap.size := by have := hb1.size; omega
  have hB1 := fun o => (keep0 hb1 hzk o).trans (hBk o)
  clear hBk
  have hbA := bthen hb0 hb1
  clear hb0 hb1
  go_wp2_with fail
  go_at_call 11
  refine (rof_lit n D R M y m d _ n1 n2 (by have := HD.out; omega) (by have := HR.out; omega) (by have := HR.out; have := HM.out; omega) hd).mono ?_
  rintro e w2 ⟨rfl, hb2⟩
  have hz2 := size1 hb2
  have hy2 : w.heap.size < w2.heap.size := by omega
  have hB2 := fun o => (keep1 hb2 hz1 o).trans (hB1 o)
  have hC2 := keepN hb2
  clear hB1
  have hbB := bthen (bmore hbA _) hb2
  clear hbA hb2
  go_wp2_with fail
  go_at_call 12
  refine (minute_out y0 m0 d0 h0 i0 k0 _ hv).mono ?_
  rintro e w3 ⟨rfl, hb3⟩
  have hz3 := size1 hb3
  have hy3 : w.heap.size < w3.heap.size := by omega
  have hx3 : w1.heap.size < w3.heap.size := by omega
  have hB3 := fun o => (keep1 hb3 hy2 o).trans (hB2 o)
  have hC3 := fun o => (keep1 hb3 hz2 o).trans (hC2 o)
  have hD3 := keepN hb3
  clear hB2 hC2
  have hbC := bthen (bmore hbB _) hb3
  clear hbB hb3
  go_wp2_with fail
  go_at_call 13
  refine (rminute_out y0 m0 d0 h0 i0 k0 _ (fun q => hv ⟨q.1, q.2.1, q.2.2.2.2.1, q.2.2.2.2.2.1, q.2.2.2.2.2.2.1, q.2.2.2.2.2.2.2.1, q.2.2.2.2.2.2.2.2.1, q.2.2.2.2.2.2.2.2.2⟩)).mono ?_
  rintro e w4 ⟨rfl, hb4⟩
  have hz4 : w2.heap.size < w4.heap.size := by have := hb4.size; omega
  have hB4 := fun o => (keep0 hb4 hy3 o).trans (hB3 o)
  have hC4 := fun o => (keep0 hb4 hx3 o).trans (hC3 o)
  have hD4 := fun o => (keep0 hb4 hz3 o).trans (hD3 o)
  clear hB3 hC3 hD3
  have hbD := bthen hbC hb4
  clear hbC hb4
  go_wp2
  go_quiet ((first | (go_at_call 14; exact quiet_same (leap_any _ _)) | (go_at_call 15; exact quiet_same (rleap_any _ _)) | (go_at_call 16; exact quiet_same (days_any _ _ _)) | (go_at_call 17; exact quiet_same (rdays_any _ _ _))))
  go_wp2
  go_ret
  exact ⟨by first | rfl | exact ret_bool (by simp), below_drewN hbD _⟩

set_option maxHeartbeats 1000000 in
set_option maxRecDepth 100000 in
theorem dates_oi (n y0 m0 d0 h0 i0 k0 : Int) (w : World) (hn : n < -1035593280 ∨ 4223371679 < n) (nlo : -9223372036854775808 ≤ n) (nhi : n ≤ 9223372036854775807) (hv : okd y0 m0 d0 h0 i0) :
    Calls Try.prog 4 #[.int .i64 n, .agg #[.int .i64 y0, .int .i64 m0, .int .i64 d0, .int .i64 h0, .int .i64 i0, .int .i64 k0]] w fun e w' => e = .returned (.bool true) ∧ Below w.heap.size w w' := by
  obtain ⟨v, hv2⟩ : ∃ v, minV y0 m0 d0 h0 i0 = v := ⟨_, rfl⟩
  have HV := Lib.hid hv2
  clear hv2
  go_enter Try.func4, Try.ntmps4
  go_wp2_with fail
  go_at_call 8
  refine (known5 _).mono ?_
  rintro e wk ⟨rfl, hbk⟩
  have hzk := size1 hbk
  have hBk := keepN hbk
  have hb0 : Below w.heap.size w wk := ((Below.refl _ _).alloc (Nat.le_refl _) _).trans (hbk.mono (by simp))
  clear hbk
  go_wp2_with fail
  go_at_call 10
  refine (of_out n _ hn).mono ?_
  rintro e w1 ⟨rfl, hb1⟩
  have hz1 : w.heap.size < w1.heap.size := by have := hb1.size; omega
  have hB1 := fun o => (keep0 hb1 hzk o).trans (hBk o)
  clear hBk
  have hbA := bthen hb0 hb1
  clear hb0 hb1
  go_wp2_with fail
  go_at_call 11
  refine (rof_out n _ nlo nhi hn).mono ?_
  rintro e w2 ⟨rfl, hb2⟩
  have hz2 := size1 hb2
  have hy2 : w.heap.size < w2.heap.size := by omega
  have hB2 := fun o => (keep1 hb2 hz1 o).trans (hB1 o)
  have hC2 := keepN hb2
  clear hB1
  have hbB := bthen (bmore hbA _) hb2
  clear hbA hb2
  go_wp2_with fail
  go_at_call 12
  refine (minute_v y0 m0 d0 h0 i0 k0 v _ hv HV.out).mono ?_
  rintro e w3 ⟨rfl, hb3⟩
  have hz3 := size1 hb3
  have hy3 : w.heap.size < w3.heap.size := by omega
  have hx3 : w1.heap.size < w3.heap.size := by omega
  have hB3 := fun o => (keep1 hb3 hy2 o).trans (hB2 o)
  have hC3 := fun o => (keep1 hb3 hz2 o).trans (hC2 o)
  have hD3 := keepN hb3
  clear hB2 hC2
  have hbC := bthen (bmore hbB _) hb3
  clear hbB hb3
  go_wp2_with fail
  go_at_call 13
  refine (rminute_v y0 m0 d0 h0 i0 k0 v _ hv HV.out).mono ?_
  rintro e w4 ⟨rfl, hb4⟩
  have hz4 : w2.heap.size < w4.heap.size := by have := hb4.size; omega
  have hB4 := fun o => (keep0 hb4 hy3 o).trans (hB3 o)
  have hC4 := fun o => (keep0 hb4 hx3 o).trans (hC3 o)
  have hD4 := fun o => (keep0 hb4 hz3 o).trans (hD3 o)
  clear hB3 hC3 hD3
  have hbD := bthen hbC hb4
  clear hbC hb4
  go_wp2
  go_quiet ((first | (go_at_call 14; exact quiet_same (leap_any _ _)) | (go_at_call 15; exact quiet_same (rleap_any _ _)) | (go_at_call 16; exact quiet_same (days_any _ _ _)) | (go_at_call 17; exact quiet_same (rdays_any _ _ _))))
  go_wp2
  go_ret
  exact ⟨by first | rfl | exact ret_bool (by simp), below_drewN hbD _⟩

set_option maxHeartbeats 1000000 in
set_option maxRecDepth 100000 in
theorem dates_oo (n y0 m0 d0 h0 i0 k0 : Int) (w : World) (hn : n < -1035593280 ∨ 4223371679 < n) (nlo : -9223372036854775808 ≤ n) (nhi : n ≤ 9223372036854775807) (hv : ¬ okd y0 m0 d0 h0 i0) :
    Calls Try.prog 4 #[.int .i64 n, .agg #[.int .i64 y0, .int .i64 m0, .int .i64 d0, .int .i64 h0, .int .i64 i0, .int .i64 k0]] w fun e w' => e = .returned (.bool true) ∧ Below w.heap.size w w' := by
  go_enter Try.func4, Try.ntmps4
  go_wp2_with fail
  go_at_call 8
  refine (known5 _).mono ?_
  rintro e wk ⟨rfl, hbk⟩
  have hzk := size1 hbk
  have hBk := keepN hbk
  have hb0 : Below w.heap.size w wk := ((Below.refl _ _).alloc (Nat.le_refl _) _).trans (hbk.mono (by simp))
  clear hbk
  go_wp2_with fail
  go_at_call 10
  refine (of_out n _ hn).mono ?_
  rintro e w1 ⟨rfl, hb1⟩
  have hz1 : w.heap.size < w1.heap.size := by have := hb1.size; omega
  have hB1 := fun o => (keep0 hb1 hzk o).trans (hBk o)
  clear hBk
  have hbA := bthen hb0 hb1
  clear hb0 hb1
  go_wp2_with fail
  go_at_call 11
  refine (rof_out n _ nlo nhi hn).mono ?_
  rintro e w2 ⟨rfl, hb2⟩
  have hz2 := size1 hb2
  have hy2 : w.heap.size < w2.heap.size := by omega
  have hB2 := fun o => (keep1 hb2 hz1 o).trans (hB1 o)
  have hC2 := keepN hb2
  clear hB1
  have hbB := bthen (bmore hbA _) hb2
  clear hbA hb2
  go_wp2_with fail
  go_at_call 12
  refine (minute_out y0 m0 d0 h0 i0 k0 _ hv).mono ?_
  rintro e w3 ⟨rfl, hb3⟩
  have hz3 := size1 hb3
  have hy3 : w.heap.size < w3.heap.size := by omega
  have hx3 : w1.heap.size < w3.heap.size := by omega
  have hB3 := fun o => (keep1 hb3 hy2 o).trans (hB2 o)
  have hC3 := fun o => (keep1 hb3 hz2 o).trans (hC2 o)
  have hD3 := keepN hb3
  clear hB2 hC2
  have hbC := bthen (bmore hbB _) hb3
  clear hbB hb3
  go_wp2_with fail
  go_at_call 13
  refine (rminute_out y0 m0 d0 h0 i0 k0 _ (fun q => hv ⟨q.1, q.2.1, q.2.2.2.2.1, q.2.2.2.2.2.1, q.2.2.2.2.2.2.1, q.2.2.2.2.2.2.2.1, q.2.2.2.2.2.2.2.2.1, q.2.2.2.2.2.2.2.2.2⟩)).mono ?_
  rintro e w4 ⟨rfl, hb4⟩
  have hz4 : w2.heap.size < w4.heap.size := by have := hb4.size; omega
  have hB4 := fun o => (keep0 hb4 hy3 o).trans (hB3 o)
  have hC4 := fun o => (keep0 hb4 hx3 o).trans (hC3 o)
  have hD4 := fun o => (keep0 hb4 hz3 o).trans (hD3 o)
  clear hB3 hC3 hD3
  have hbD := bthen hbC hb4
  clear hbC hb4
  go_wp2
  go_quiet ((first | (go_at_call 14; exact quiet_same (leap_any _ _)) | (go_at_call 15; exact quiet_same (rleap_any _ _)) | (go_at_call 16; exact quiet_same (days_any _ _ _)) | (go_at_call 17; exact quiet_same (rdays_any _ _ _))))
  go_wp2
  go_ret
  exact ⟨by first | rfl | exact ret_bool (by simp), below_drewN hbD _⟩

theorem dates_walk (n : Int) (nlo : -9223372036854775808 ≤ n) (nhi : n ≤ 9223372036854775807) (y0 m0 d0 h0 i0 k0 : Int) (w : World) :
    Calls Try.prog 4 #[.int .i64 n, .agg #[.int .i64 y0, .int .i64 m0, .int .i64 d0, .int .i64 h0, .int .i64 i0, .int .i64 k0]] w fun e w' => e = .returned (.bool true) ∧ Below w.heap.size w w' := by
  by_cases hn : n < -1035593280 ∨ 4223371679 < n
  · by_cases hv : okd y0 m0 d0 h0 i0
    · exact dates_oi n y0 m0 d0 h0 i0 k0 w hn nlo nhi hv
    · exact dates_oo n y0 m0 d0 h0 i0 k0 w hn nlo nhi hv
  · by_cases hv : okd y0 m0 d0 h0 i0
    · exact dates_ii n y0 m0 d0 h0 i0 k0 w (by omega) (by omega) hv
    · exact dates_io n y0 m0 d0 h0 i0 k0 w (by omega) (by omega) hv

theorem dates_row (n : Int) (h : (Lit.int .i64 n).wf = true) (y0 m0 d0 h0 i0 k0 : Int) (w : World) :
    Calls Try.prog 4 #[.int .i64 n, .agg #[.int .i64 y0, .int .i64 m0, .int .i64 d0, .int .i64 h0, .int .i64 i0, .int .i64 k0]] w fun e w' => e = .returned (.bool true) ∧ Below w.heap.size w w' :=
  dates_walk n (bounds_i64 h).1 (bounds_i64 h).2 y0 m0 d0 h0 i0 k0 w

end Go.Proofs.Yteojfhnlbdehoaa.Cal
