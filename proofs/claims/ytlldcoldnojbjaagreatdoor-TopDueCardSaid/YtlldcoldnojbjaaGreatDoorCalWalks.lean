/- Contracts of the calendar's functions: what each call answers, from whatever memory. -/
import Derived.Test.YtlldcoldnojbjaaGreatDoorProg
import Derived.Test.YtlldcoldnojbjaaGreatDoorCalMath
import Derived.Test.YtlldcoldnojbjaaGreatDoorKit
namespace Go.Proofs.YtlldcoldnojbjaaGreatDoor.Cal
open Go.RowKit Go

theorem leap_any (y : Int) (w : World) :
    Calls Tryz.prog 64 #[.int .i64 y] w fun e w' => e = .returned (.bool (lp y)) ∧ w = w' := by
  by_cases h4 : y % 4 = 0
  · by_cases h100 : y % 100 = 0
    · by_cases h400 : y % 400 = 0
      · have hl : lp y = true := (lp_iff y).2 (by omega)
        rw [hl]
        have b1 := tmod_eq y 4 h4; have b2 := tmod_eq y 100 h100; have b3 := tmod_eq y 400 h400
        have c1 := bne_of_beq b1; have c2 := bne_of_beq b2; have c3 := bne_of_beq b3
        clear h4 h100 h400 hl
        go_enter Tryz.func64, Tryz.ntmps64
        go_wp2
        go_ret
        exact ⟨rfl, rfl⟩
      · have hl : lp y = false := by simp [lp]; omega
        rw [hl]
        have b1 := tmod_eq y 4 h4; have b2 := tmod_eq y 100 h100; have b3 := tmod_ne y 400 h400
        have c1 := bne_of_beq b1; have c2 := bne_of_beq b2; have c3 := bne_of_beq b3
        clear h4 h100 h400 hl
        go_enter Tryz.func64, Tryz.ntmps64
        go_wp2
        go_ret
        exact ⟨rfl, rfl⟩
    · have hl : lp y = true := (lp_iff y).2 (by omega)
      rw [hl]
      have b1 := tmod_eq y 4 h4; have b2 := tmod_ne y 100 h100
      have c1 := bne_of_beq b1; have c2 := bne_of_beq b2
      clear h4 h100 hl
      go_enter Tryz.func64, Tryz.ntmps64
      go_wp2
      go_ret
      exact ⟨rfl, rfl⟩
  · have hl : lp y = false := by simp [lp]; omega
    rw [hl]
    have b1 := tmod_ne y 4 h4; have b3 := tmod_ne y 400 (by omega)
    have c1 := bne_of_beq b1; have c3 := bne_of_beq b3
    clear h4 hl
    go_enter Tryz.func64, Tryz.ntmps64
    go_wp2
    go_ret
    exact ⟨rfl, rfl⟩

theorem days_out (y m : Int) (w : World) (h : m < 1 ∨ 12 < m) :
    Calls Tryz.prog 46 #[.int .i64 y, .int .i64 m] w fun e w' => e = .returned (.int .i64 0) ∧ w = w' := by
  rcases h with h | h
  · go_enter Tryz.func46, Tryz.ntmps46
    go_wp2
    go_ret
    exact ⟨rfl, rfl⟩
  · have h' : ¬ m < 1 := by omega
    go_enter Tryz.func46, Tryz.ntmps46
    go_wp2
    go_ret
    exact ⟨rfl, rfl⟩

/-- The twelve months' days, read by an index. -/
theorem days_tab0 (w : World) : (Instr.index 151 (.agg #[.int .i64 31, .int .i64 28, .int .i64 31, .int .i64 30, .int .i64 31, .int .i64 30, .int .i64 31, .int .i64 31, .int .i64 30, .int .i64 31, .int .i64 30, .int .i64 31]) (.int .i64 0)).run Tryz.prog w = .ok (.int .i64 31) w := by kernel_rfl
theorem days_tab1 (w : World) : (Instr.index 151 (.agg #[.int .i64 31, .int .i64 28, .int .i64 31, .int .i64 30, .int .i64 31, .int .i64 30, .int .i64 31, .int .i64 31, .int .i64 30, .int .i64 31, .int .i64 30, .int .i64 31]) (.int .i64 1)).run Tryz.prog w = .ok (.int .i64 28) w := by kernel_rfl
theorem days_tab2 (w : World) : (Instr.index 151 (.agg #[.int .i64 31, .int .i64 28, .int .i64 31, .int .i64 30, .int .i64 31, .int .i64 30, .int .i64 31, .int .i64 31, .int .i64 30, .int .i64 31, .int .i64 30, .int .i64 31]) (.int .i64 2)).run Tryz.prog w = .ok (.int .i64 31) w := by kernel_rfl
theorem days_tab3 (w : World) : (Instr.index 151 (.agg #[.int .i64 31, .int .i64 28, .int .i64 31, .int .i64 30, .int .i64 31, .int .i64 30, .int .i64 31, .int .i64 31, .int .i64 30, .int .i64 31, .int .i64 30, .int .i64 31]) (.int .i64 3)).run Tryz.prog w = .ok (.int .i64 30) w := by kernel_rfl
theorem days_tab4 (w : World) : (Instr.index 151 (.agg #[.int .i64 31, .int .i64 28, .int .i64 31, .int .i64 30, .int .i64 31, .int .i64 30, .int .i64 31, .int .i64 31, .int .i64 30, .int .i64 31, .int .i64 30, .int .i64 31]) (.int .i64 4)).run Tryz.prog w = .ok (.int .i64 31) w := by kernel_rfl
theorem days_tab5 (w : World) : (Instr.index 151 (.agg #[.int .i64 31, .int .i64 28, .int .i64 31, .int .i64 30, .int .i64 31, .int .i64 30, .int .i64 31, .int .i64 31, .int .i64 30, .int .i64 31, .int .i64 30, .int .i64 31]) (.int .i64 5)).run Tryz.prog w = .ok (.int .i64 30) w := by kernel_rfl
theorem days_tab6 (w : World) : (Instr.index 151 (.agg #[.int .i64 31, .int .i64 28, .int .i64 31, .int .i64 30, .int .i64 31, .int .i64 30, .int .i64 31, .int .i64 31, .int .i64 30, .int .i64 31, .int .i64 30, .int .i64 31]) (.int .i64 6)).run Tryz.prog w = .ok (.int .i64 31) w := by kernel_rfl
theorem days_tab7 (w : World) : (Instr.index 151 (.agg #[.int .i64 31, .int .i64 28, .int .i64 31, .int .i64 30, .int .i64 31, .int .i64 30, .int .i64 31, .int .i64 31, .int .i64 30, .int .i64 31, .int .i64 30, .int .i64 31]) (.int .i64 7)).run Tryz.prog w = .ok (.int .i64 31) w := by kernel_rfl
theorem days_tab8 (w : World) : (Instr.index 151 (.agg #[.int .i64 31, .int .i64 28, .int .i64 31, .int .i64 30, .int .i64 31, .int .i64 30, .int .i64 31, .int .i64 31, .int .i64 30, .int .i64 31, .int .i64 30, .int .i64 31]) (.int .i64 8)).run Tryz.prog w = .ok (.int .i64 30) w := by kernel_rfl
theorem days_tab9 (w : World) : (Instr.index 151 (.agg #[.int .i64 31, .int .i64 28, .int .i64 31, .int .i64 30, .int .i64 31, .int .i64 30, .int .i64 31, .int .i64 31, .int .i64 30, .int .i64 31, .int .i64 30, .int .i64 31]) (.int .i64 9)).run Tryz.prog w = .ok (.int .i64 31) w := by kernel_rfl
theorem days_tab10 (w : World) : (Instr.index 151 (.agg #[.int .i64 31, .int .i64 28, .int .i64 31, .int .i64 30, .int .i64 31, .int .i64 30, .int .i64 31, .int .i64 31, .int .i64 30, .int .i64 31, .int .i64 30, .int .i64 31]) (.int .i64 10)).run Tryz.prog w = .ok (.int .i64 30) w := by kernel_rfl
theorem days_tab11 (w : World) : (Instr.index 151 (.agg #[.int .i64 31, .int .i64 28, .int .i64 31, .int .i64 30, .int .i64 31, .int .i64 30, .int .i64 31, .int .i64 31, .int .i64 30, .int .i64 31, .int .i64 30, .int .i64 31]) (.int .i64 11)).run Tryz.prog w = .ok (.int .i64 31) w := by kernel_rfl
theorem days_tab (k : Nat) (hk : k < 12) (x : Int) (hx : ([31, 28, 31, 30, 31, 30, 31, 31, 30, 31, 30, 31] : List Int)[k]? = some x) (w : World) :
    (Instr.index 151 (.agg #[.int .i64 31, .int .i64 28, .int .i64 31, .int .i64 30, .int .i64 31, .int .i64 30, .int .i64 31, .int .i64 31, .int .i64 30, .int .i64 31, .int .i64 30, .int .i64 31]) (.int .i64 k)).run Tryz.prog w = .ok (.int .i64 x) w := by
  match k, hk with
  | 0, _ => simp at hx; subst hx; exact days_tab0 w
  | 1, _ => simp at hx; subst hx; exact days_tab1 w
  | 2, _ => simp at hx; subst hx; exact days_tab2 w
  | 3, _ => simp at hx; subst hx; exact days_tab3 w
  | 4, _ => simp at hx; subst hx; exact days_tab4 w
  | 5, _ => simp at hx; subst hx; exact days_tab5 w
  | 6, _ => simp at hx; subst hx; exact days_tab6 w
  | 7, _ => simp at hx; subst hx; exact days_tab7 w
  | 8, _ => simp at hx; subst hx; exact days_tab8 w
  | 9, _ => simp at hx; subst hx; exact days_tab9 w
  | 10, _ => simp at hx; subst hx; exact days_tab10 w
  | 11, _ => simp at hx; subst hx; exact days_tab11 w
  | n + 12, h => omega

set_option maxRecDepth 100000 in
theorem days_lit (y : Int) (m : Nat) (hm1 : 1 ≤ m) (hm : m ≤ 12) (h2 : m ≠ 2) (w : World) :
    Calls Tryz.prog 46 #[.int .i64 y, .int .i64 m] w fun e w' => e = .returned (.int .i64 (dm y m)) ∧ w = w' := by
  obtain ⟨x, hx⟩ : ∃ x, ([31, 28, 31, 30, 31, 30, 31, 31, 30, 31, 30, 31] : List Int)[m - 1]? = some x := by
    rw [List.getElem?_eq_getElem (by simp; omega)]; exact ⟨_, rfl⟩
  have hd : dm y m = x := by
    have : m = 1 ∨ m = 3 ∨ m = 4 ∨ m = 5 ∨ m = 6 ∨ m = 7 ∨ m = 8 ∨ m = 9 ∨ m = 10 ∨ m = 11 ∨ m = 12 := by omega
    rcases this with rfl | rfl | rfl | rfl | rfl | rfl | rfl | rfl | rfl | rfl | rfl <;> simp at hx <;> subst hx <;> simp [dm]
  rw [hd]
  have ht := days_tab (m - 1) (by omega) x hx
  have e1 : ((m - 1 : Nat) : Int) = (m : Int) - 1 := by omega
  rw [e1] at ht
  clear hx hd e1
  have c1 : ¬ (m : Int) < 1 := by omega
  have c2 : ¬ (12 : Int) < m := by omega
  have c3 : ((m : Int) == 2) = false := by simp; omega
  go_enter Tryz.func46, Tryz.ntmps46
  go_wp2
  go_ret
  exact ⟨rfl, rfl⟩

set_option maxRecDepth 100000 in
theorem days_2 (y : Int) (w : World) :
    Calls Tryz.prog 46 #[.int .i64 y, .int .i64 2] w fun e w' => e = .returned (.int .i64 (28 + lq y)) ∧ w = w' := by
  by_cases hl : lp y = true
  · rw [lq_true hl]
    go_enter Tryz.func46, Tryz.ntmps46
    go_wp2_with (go_at_call 64; refine (leap_any _ _).mono ?_; rw [hl]; rintro e w' ⟨rfl, rfl⟩)
    go_ret
    exact ⟨rfl, rfl⟩
  · have hl' : lp y = false := by simpa using hl
    rw [lq_false hl']
    clear hl
    have ht := days_tab1 w
    go_enter Tryz.func46, Tryz.ntmps46
    go_wp2_with (go_at_call 64; refine (leap_any _ _).mono ?_; rw [hl']; rintro e w' ⟨rfl, rfl⟩)
    go_ret
    exact ⟨rfl, rfl⟩

theorem days_any (y m : Int) (w : World) :
    Calls Tryz.prog 46 #[.int .i64 y, .int .i64 m] w fun e w' => e = .returned (.int .i64 (dm y m)) ∧ w = w' := by
  by_cases h : m < 1 ∨ 12 < m
  · rw [dm_out y m h]; exact days_out y m w h
  · by_cases h2 : m = 2
    · subst h2; rw [show dm y 2 = 28 + lq y by simp [dm]]; exact days_2 y w
    · obtain ⟨k, rfl⟩ : ∃ k : Nat, m = k := ⟨m.toNat, by omega⟩
      exact days_lit y k (by omega) (by omega) (by omega) w

theorem ahead_any (y : Int) (w : World) (h1 : 1 ≤ y) (h2 : y ≤ 20000) :
    Calls Tryz.prog 45 #[.int .i64 y] w fun e w' => e = .returned (.int .i64 (ah y)) ∧ w = w' := by
  go_enter Tryz.func45, Tryz.ntmps45
  go_wp2
  go_ret
  exact ⟨rfl, rfl⟩

/-- What cal.Of answers of a minute of the calendar: D its day, R its minute within the day, M within the hour. -/
def SomeDate (D R M : Int) (e : Ending) : Prop := ∃ y m d : Int, e = .returned (.tuple #[.agg #[.int .i64 y, .int .i64 m, .int .i64 d, .int .i64 (R / 60), .int .i64 M, .int .i64 ((D + 1) % 7)], .int .i64 0]) ∧ IsDay D y m d

theorem of_out (n : Int) (w : World) (h : n < -1035593280 ∨ 4223371679 < n) :
    Calls Tryz.prog 19 #[.int .i64 n] w fun e w' =>
      e = .returned (.tuple #[.agg #[.int .i64 0, .int .i64 0, .int .i64 0, .int .i64 0, .int .i64 0, .int .i64 0], .int .i64 1]) ∧ Below w.heap.size w w' := by
  rcases h with h | h
  · go_enter Tryz.func19, Tryz.ntmps19
    go_wp2
    exact bodyPost_ret (v := .tuple #[.agg #[.int .i64 0, .int .i64 0, .int .i64 0, .int .i64 0, .int .i64 0, .int .i64 0], .int .i64 1]) (by simp [results, Tryz.results19, go_sem]) rfl ⟨rfl, (Below.refl _ _).alloc (Nat.le_refl _) _⟩
  · have h' : ¬ n < -1035593280 := by omega
    go_enter Tryz.func19, Tryz.ntmps19
    go_wp2
    exact bodyPost_ret (v := .tuple #[.agg #[.int .i64 0, .int .i64 0, .int .i64 0, .int .i64 0, .int .i64 0, .int .i64 0], .int .i64 1]) (by simp [results, Tryz.results19, go_sem]) rfl ⟨rfl, (Below.refl _ _).alloc (Nat.le_refl _) _⟩

set_option maxRecDepth 100000 in
theorem of_in (n D R M : Int) (w : World) (h1 : -1035593280 ≤ n) (h2 : n ≤ 4223371679) (hD : Hid ((n + 1035593280) / 1440 = D)) (hR : Hid ((n + 1035593280) % 1440 = R)) (hM : Hid ((n + 1035593280) % 60 = M)) :
    Calls Tryz.prog 19 #[.int .i64 n] w fun e w' => SomeDate D R M e ∧ Below w.heap.size w w' := by
  have hB : D < 3652059 := by have := hD.out; omega
  have hB0 : 0 ≤ D := by have := hD.out; omega
  go_enter Tryz.func19, Tryz.ntmps19
  go_wp2
  rw [hR.out, hM.out, hD.out]
  clear hR hM hD
  obtain ⟨g1, g2⟩ := guess D (by omega)
  go_loopg [] (10000 - (400 * (D / 146097) + D % 146097 / 366 + 1)).toNat (fun k wr => ∃ y : Int, 1 ≤ y ∧ ah y ≤ D ∧ k = (10000 - y).toNat ∧ wr = (w.alloc (.cells #[.int .i64 0, .int .i64 0, .int .i64 0, .int .i64 0, .int .i64 0, .int .i64 0] 62)).alloc (.cells #[.int .i64 y, .int .i64 0, .int .i64 0, .int .i64 (R / 60), .int .i64 M, .int .i64 ((D + 1) % 7)] 62))
  case atStart => exact ⟨_, g1, g2, rfl, rfl⟩
  case round =>
    clear g1 g2
    obtain ⟨y, hy1, hy2, hk, rfl⟩ := hrel
    have hy3 : y ≤ 9999 := by
      by_cases c : y ≤ 9999
      · exact c
      · have := ah_mono (a := 10000) (b := y) (by omega) (by omega); rw [ah_10000] at this; omega
    have HK := Lib.hid hk
    clear hk
    by_cases hc : ah (y + 1) ≤ D
    · go_wp2_with (go_at_call 45; refine (ahead_any _ _ (by omega) (by omega)).mono ?_; rintro e w' ⟨rfl, rfl⟩)
      go_roundg ((10000 - (y + 1)).toNat)
      case measure => have := HK.out; omega
      case rel => exact ⟨y + 1, by omega, hc, rfl, rfl⟩
    · have hy4 := ah_succ y hy1
      have hlq := lq_01 y
      have hb := ah_bd y hy1 (by omega)
      have hlt : D - ah y < 365 + lq y := by omega
      have hcd : decide (ah (y + 1) ≤ D) = false := by simpa using hc
      have H4 := Lib.hid hy4
      clear hy4 hc
      go_wp2_with (first | (go_at_call 45; refine (ahead_any _ _ (by omega) (by omega)).mono ?_; rintro e w' ⟨rfl, rfl⟩))
      go_loopg [5] 12 (fun k t wr => ∃ m : Int, 1 ≤ m ∧ m ≤ 12 ∧ 0 ≤ D - ah y - cum y m ∧ t = .int .i64 (D - ah y - cum y m) ∧ k = (13 - m).toNat ∧ wr = (w.alloc (.cells #[.int .i64 0, .int .i64 0, .int .i64 0, .int .i64 0, .int .i64 0, .int .i64 0] 62)).alloc (.cells #[.int .i64 y, .int .i64 m, .int .i64 0, .int .i64 (R / 60), .int .i64 M, .int .i64 ((D + 1) % 7)] 62))
      case atStart => exact ⟨1, by omega, by omega, by rw [cum_1]; omega, by rw [cum_1, Int.sub_zero], rfl, rfl⟩
      case round =>
        obtain ⟨m, hm1, hm2, hm3, rfl, hm4, rfl⟩ := hrel
        have HM4 := Lib.hid hm4
        clear hm4
        have cb := cum_bd y m hm1
        have db := dm_lo y m hm1 hm2
        have cs := cum_succ y m hm1 hm2
        by_cases hc : dm y m ≤ D - ah y - cum y m
        · have hm12 : m < 12 := by
            by_cases e : m < 12
            · exact e
            · obtain rfl : m = 12 := by omega
              rw [show (12 : Int) + 1 = 13 by rfl, cum_13] at cs; omega
          have CS := Lib.hid cs
          clear cs
          go_wp2_with (go_at_call 46; refine (days_any _ _ _).mono ?_; rintro e w' ⟨rfl, rfl⟩)
          go_roundg ((13 - (m + 1)).toNat)
          case measure => have := HM4.out; omega
          case rel => exact ⟨m + 1, by omega, by omega, by rw [CS.out]; omega, by rw [CS.out]; go_num, rfl, rfl⟩
        · have hcd2 : decide (dm y m ≤ D - ah y - cum y m) = false := by simpa using hc
          have HD : IsDay D y m (D - ah y - cum y m + 1) := ⟨hy1, hm1, hm2, by omega, by omega, by omega⟩
          have CS := Lib.hid cs
          clear cs hc
          go_wp2_with (go_at_call 46; refine (days_any _ _ _).mono ?_; rintro e w' ⟨rfl, rfl⟩)
          refine bodyPost_ret (v := .tuple #[.agg #[.int .i64 y, .int .i64 m, .int .i64 (D - ah y - cum y m + 1), .int .i64 (R / 60), .int .i64 M, .int .i64 ((D + 1) % 7)], .int .i64 0]) (by simp [results, Tryz.results19, go_sem]) rfl ⟨⟨y, m, _, rfl, HD⟩, ?_⟩
          exact ((Below.refl _ _).alloc (Nat.le_refl _) _).alloc (by simp) _

end Go.Proofs.YtlldcoldnojbjaaGreatDoor.Cal
