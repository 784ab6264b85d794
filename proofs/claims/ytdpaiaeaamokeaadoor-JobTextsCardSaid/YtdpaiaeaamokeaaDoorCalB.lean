/- Joined: CalRef, CalRefOf. -/
import Derived.Test.YtdpaiaeaamokeaaDoorCalA
namespace Go.Proofs.YtdpaiaeaamokeaaDoor.Cal
open Go.RowKit Go

theorem rleap_any (y : Int) (w : World) :
    Calls Tryd.prog 117 #[.int .i64 y] w fun e w' => e = .returned (.bool (lp y)) ∧ w = w' := by
  by_cases h4 : y % 4 = 0
  · by_cases h100 : y % 100 = 0
    · by_cases h400 : y % 400 = 0
      · have hl : lp y = true := (lp_iff y).2 (by omega)
        rw [hl]
        have b1 := tmod_eq y 4 h4; have b2 := tmod_eq y 100 h100; have b3 := tmod_eq y 400 h400
        have c1 := bne_of_beq b1; have c2 := bne_of_beq b2; have c3 := bne_of_beq b3
        clear h4 h100 h400 hl
        go_enter Tryd.func117, Tryd.ntmps117
        go_wp2
        go_ret
        exact ⟨rfl, rfl⟩
      · have hl : lp y = false := by simp [lp]; omega
        rw [hl]
        have b1 := tmod_eq y 4 h4; have b2 := tmod_eq y 100 h100; have b3 := tmod_ne y 400 h400
        have c1 := bne_of_beq b1; have c2 := bne_of_beq b2; have c3 := bne_of_beq b3
        clear h4 h100 h400 hl
        go_enter Tryd.func117, Tryd.ntmps117
        go_wp2
        go_ret
        exact ⟨rfl, rfl⟩
    · have hl : lp y = true := (lp_iff y).2 (by omega)
      rw [hl]
      have b1 := tmod_eq y 4 h4; have b2 := tmod_ne y 100 h100
      have c1 := bne_of_beq b1; have c2 := bne_of_beq b2
      clear h4 h100 hl
      go_enter Tryd.func117, Tryd.ntmps117
      go_wp2
      go_ret
      exact ⟨rfl, rfl⟩
  · have hl : lp y = false := by simp [lp]; omega
    rw [hl]
    have b1 := tmod_ne y 4 h4; have b3 := tmod_ne y 400 (by omega)
    have c1 := bne_of_beq b1; have c3 := bne_of_beq b3
    clear h4 hl
    go_enter Tryd.func117, Tryd.ntmps117
    go_wp2
    go_ret
    exact ⟨rfl, rfl⟩

theorem rdays_any (y m : Int) (w : World) :
    Calls Tryd.prog 101 #[.int .i64 y, .int .i64 m] w fun e w' => e = .returned (.int .i64 (dm y m)) ∧ w = w' := by
  by_cases h : m < 1 ∨ 12 < m
  · rw [dm_out y m h]
    have e4 : (m == 4) = false := by simp; omega
    have e6 : (m == 6) = false := by simp; omega
    have e9 : (m == 9) = false := by simp; omega
    have e11 : (m == 11) = false := by simp; omega
    have e2 : (m == 2) = false := by simp; omega
    rcases h with h | h
    · go_enter Tryd.func101, Tryd.ntmps101
      go_wp2
      go_ret
      exact ⟨rfl, rfl⟩
    · have h' : ¬ m < 1 := by omega
      go_enter Tryd.func101, Tryd.ntmps101
      go_wp2
      go_ret
      exact ⟨rfl, rfl⟩
  · by_cases h2 : m = 2
    · subst h2
      rw [show dm y 2 = 28 + lq y by simp [dm]]
      by_cases hl : lp y = true
      · rw [lq_true hl]
        go_enter Tryd.func101, Tryd.ntmps101
        go_wp2_with (go_at_call 117; refine (rleap_any _ _).mono ?_; rw [hl]; rintro e w' ⟨rfl, rfl⟩)
        go_ret
        exact ⟨rfl, rfl⟩
      · have hl' : lp y = false := by simpa using hl
        rw [lq_false hl']
        clear hl
        go_enter Tryd.func101, Tryd.ntmps101
        go_wp2_with (go_at_call 117; refine (rleap_any _ _).mono ?_; rw [hl']; rintro e w' ⟨rfl, rfl⟩)
        go_ret
        exact ⟨rfl, rfl⟩
    · have hm : m = 1 ∨ m = 3 ∨ m = 4 ∨ m = 5 ∨ m = 6 ∨ m = 7 ∨ m = 8 ∨ m = 9 ∨ m = 10 ∨ m = 11 ∨ m = 12 := by omega
      rcases hm with rfl | rfl | rfl | rfl | rfl | rfl | rfl | rfl | rfl | rfl | rfl
      all_goals
        simp only [dm]
        go_enter Tryd.func101, Tryd.ntmps101
        go_wp2
        go_ret
        exact ⟨rfl, rfl⟩

theorem rbefore_any (y v : Int) (w : World) (h1 : 1 ≤ y) (h2 : y ≤ 20000) (hv : Hid (ah y = v)) :
    Calls Tryd.prog 100 #[.int .i64 y] w fun e w' => e = .returned (.int .i64 v) ∧ w = w' := by
  rw [← hv.out]
  clear hv
  go_enter Tryd.func100, Tryd.ntmps100
  go_wp2
  go_ret
  exact ⟨rfl, rfl⟩

end Go.Proofs.YtdpaiaeaamokeaaDoor.Cal

namespace Go.Proofs.YtdpaiaeaamokeaaDoor.Cal
open Go.RowKit Go

theorem neg_div {n : Int} (hn : n < 0) : (n % 1440 = 0 → n.tdiv 1440 = n / 1440 ∧ n.tmod 1440 = n % 1440) ∧ (n % 1440 ≠ 0 → n.tdiv 1440 = n / 1440 + 1 ∧ n.tmod 1440 = n % 1440 - 1440) := by
  have a := Int.neg_tdiv (-n) 1440
  have b := Int.neg_tmod (-n) 1440
  rw [Int.neg_neg] at a b
  rw [a, b, Int.tdiv_eq_ediv_of_nonneg (by omega), Int.tmod_eq_emod_of_nonneg (by omega)]
  constructor <;> intro h <;> omega

set_option maxHeartbeats 1000000 in
set_option maxRecDepth 100000 in
theorem rof_out (n : Int) (w : World) (h0 : -9223372036854775808 ≤ n) (h9 : n ≤ 9223372036854775807) (h : n < -1035593280 ∨ 4223371679 < n) :
    Calls Tryd.prog 74 #[.int .i64 n] w fun e w' =>
      e = .returned (.tuple #[.agg #[.int .i64 0, .int .i64 0, .int .i64 0, .int .i64 0, .int .i64 0, .int .i64 0], .int .i64 1]) ∧ Below w.heap.size w w' := by
  rcases h with h | h
  · by_cases hz : n % 1440 = 0
    · obtain ⟨q1, q2⟩ := (neg_div (n := n) (by omega)).1 hz
      have hd : n / 1440 < -719162 := by omega
      go_enter Tryd.func74, Tryd.ntmps74
      go_wp2_with (go_at_call 100; refine (rbefore_any _ 3652059 _ (by omega) (by omega) ah_10000).mono ?_; rintro e w' ⟨rfl, rfl⟩)
      exact bodyPost_ret (v := (.tuple #[.agg #[.int .i64 0, .int .i64 0, .int .i64 0, .int .i64 0, .int .i64 0, .int .i64 0], .int .i64 1])) (by simp [results, Tryd.results74, go_sem]) rfl ⟨rfl, (Below.refl _ _).alloc (Nat.le_refl _) _⟩
    · obtain ⟨q1, q2⟩ := (neg_div (n := n) (by omega)).2 hz
      have hd : n / 1440 < -719162 := by omega
      go_enter Tryd.func74, Tryd.ntmps74
      go_wp2_with (go_at_call 100; refine (rbefore_any _ 3652059 _ (by omega) (by omega) ah_10000).mono ?_; rintro e w' ⟨rfl, rfl⟩)
      exact bodyPost_ret (v := (.tuple #[.agg #[.int .i64 0, .int .i64 0, .int .i64 0, .int .i64 0, .int .i64 0, .int .i64 0], .int .i64 1])) (by simp [results, Tryd.results74, go_sem]) rfl ⟨rfl, (Below.refl _ _).alloc (Nat.le_refl _) _⟩
  · have hd : ¬ n / 1440 < -719162 := by omega
    have hd2 : 2932897 ≤ n / 1440 := by omega
    go_enter Tryd.func74, Tryd.ntmps74
    go_wp2_with (go_at_call 100; refine (rbefore_any _ 3652059 _ (by omega) (by omega) ah_10000).mono ?_; rintro e w' ⟨rfl, rfl⟩)
    exact bodyPost_ret (v := (.tuple #[.agg #[.int .i64 0, .int .i64 0, .int .i64 0, .int .i64 0, .int .i64 0, .int .i64 0], .int .i64 1])) (by simp [results, Tryd.results74, go_sem]) rfl ⟨rfl, (Below.refl _ _).alloc (Nat.le_refl _) _⟩

set_option maxHeartbeats 1000000 in
set_option maxRecDepth 100000 in
theorem rof_in (n D R : Int) (w : World) (h1 : -1035593280 ≤ n) (h2 : n ≤ 4223371679) (hD : Hid (n / 1440 + 719162 = D)) (hR : Hid (n % 1440 = R)) :
    Calls Tryd.prog 74 #[.int .i64 n] w fun e w' => SomeDate D R (R % 60) e ∧ Below w.heap.size w w' := by
  have hB : D < 3652059 := by have := hD.out; omega
  have hB0 : 0 ≤ D := by have := hD.out; omega
  have hR0 : 0 ≤ R ∧ R < 1440 := by have := hR.out; omega
  have hd : ¬ n / 1440 < -719162 := by omega
  have hd2 : decide (2932897 ≤ n / 1440) = false := by rw [decide_eq_false_iff_not]; omega
  by_cases hn : n < 0
  · by_cases hz : n % 1440 = 0
    · obtain ⟨q1, q2⟩ := (neg_div hn).1 hz
      obtain rfl : R = 0 := by have := hR.out; omega
      go_enter Tryd.func74, Tryd.ntmps74
      go_wp2_with (go_at_call 100; refine (rbefore_any _ 3652059 _ (by omega) (by omega) ah_10000).mono ?_; rintro e w' ⟨rfl, rfl⟩)
      rw [hD.out]
      clear hD hd hd2 q1 q2 hz hn hR
      obtain ⟨g1, g2⟩ := guess1 D (by omega)
      go_loopg [6] (10000 - (D / 366 + 1)).toNat (fun k t wr => ∃ y : Int, 1 ≤ y ∧ ah y ≤ D ∧ t = .int .i64 y ∧ k = (10000 - y).toNat ∧ wr = w.alloc (.cells #[.int .i64 0, .int .i64 0, .int .i64 0, .int .i64 0, .int .i64 0, .int .i64 0] 53))
      case atStart => exact ⟨_, g1, g2, rfl, rfl, rfl⟩
      case round =>
        clear g1 g2
        obtain ⟨y, hy1, hy2, rfl, hk, rfl⟩ := hrel
        have hy3 : y ≤ 9999 := by
          by_cases c : y ≤ 9999
          · exact c
          · have := ah_mono (a := 10000) (b := y) (by omega) (by omega); rw [ah_10000] at this; omega
        have HK := Lib.hid hk
        clear hk
        by_cases hc : ah (y + 1) ≤ D
        · go_wp2_with (go_at_call 100; refine (rbefore_any _ _ _ (by omega) (by omega) rfl).mono ?_; rintro e w' ⟨rfl, rfl⟩)
          go_roundg ((10000 - (y + 1)).toNat)
          case measure => have := HK.out; omega
          case rel => exact ⟨y + 1, by omega, hc, rfl, rfl, rfl⟩
        · have hy4 := ah_succ y hy1
          have hlq := lq_01 y
          have hb := ah_bd y hy1 (by omega)
          have hlt : D - ah y < 365 + lq y := by omega
          have hcd : decide (ah (y + 1) ≤ D) = false := by simpa using hc
          have H4 := Lib.hid hy4
          clear hy4 hc
          go_wp2_with (go_at_call 100; refine (rbefore_any _ _ _ (by omega) (by omega) rfl).mono ?_; rintro e w' ⟨rfl, rfl⟩)
          go_loopg [7, 8] 12 (fun k t u wr => ∃ m : Int, 1 ≤ m ∧ m ≤ 12 ∧ 0 ≤ D - ah y - cum y m ∧ t = .int .i64 (D - ah y - cum y m) ∧ u = .int .i64 m ∧ k = (13 - m).toNat ∧ wr = w.alloc (.cells #[.int .i64 0, .int .i64 0, .int .i64 0, .int .i64 0, .int .i64 0, .int .i64 0] 53))
          case atStart => exact ⟨1, by omega, by omega, by rw [cum_1]; omega, by rw [cum_1, Int.sub_zero], rfl, rfl, rfl⟩
          case round =>
            obtain ⟨m, hm1, hm2, hm3, rfl, rfl, hm4, rfl⟩ := hrel
            have HM4 := Lib.hid hm4
            clear hm4
            have cb := cum_bd y m hm1
            have db := dm_lo y m hm1 hm2
            have cs := cum_succ y m hm1 hm2
            by_cases hc : dm y m ≤ D - ah y - cum y m
            · have hm12 : m < 12 := by
                by_cases e : m < 12
                · exact e
                · obtain rfl : m = 12 := by omega
                  rw [show (12 : Int) + 1 = 13 by rfl, cum_13] at cs; omega
              have CS := Lib.hid cs
              clear cs
              go_wp2_with (go_at_call 101; refine (rdays_any _ _ _).mono ?_; rintro e w' ⟨rfl, rfl⟩)
              go_roundg ((13 - (m + 1)).toNat)
              case measure => have := HM4.out; omega
              case rel => exact ⟨m + 1, by omega, by omega, by rw [CS.out]; omega, by rw [CS.out]; go_num, rfl, rfl, rfl⟩
            · have hcd2 : decide (dm y m ≤ D - ah y - cum y m) = false := by simpa using hc
              have HD : IsDay D y m (D - ah y - cum y m + 1) := ⟨hy1, hm1, hm2, by omega, by omega, by omega⟩
              have CS := Lib.hid cs
              clear cs hc
              go_wp2_with (go_at_call 101; refine (rdays_any _ _ _).mono ?_; rintro e w' ⟨rfl, rfl⟩)
              exact bodyPost_ret (v := .tuple #[.agg #[.int .i64 y, .int .i64 m, .int .i64 (D - ah y - cum y m + 1), .int .i64 (0 / 60), .int .i64 (0 % 60), .int .i64 ((D + 1) % 7)], .int .i64 0]) (by simp [results, Tryd.results74, go_sem]) rfl ⟨⟨y, m, _, rfl, HD⟩, (Below.refl _ _).alloc (Nat.le_refl _) _⟩
    · obtain ⟨q1, q2⟩ := (neg_div hn).2 hz
      go_enter Tryd.func74, Tryd.ntmps74
      go_wp2_with (go_at_call 100; refine (rbefore_any _ 3652059 _ (by omega) (by omega) ah_10000).mono ?_; rintro e w' ⟨rfl, rfl⟩)
      rw [hD.out]
      rw [hR.out]
      clear hR
      clear hD hd hd2 q1 q2 hz hn
      obtain ⟨g1, g2⟩ := guess1 D (by omega)
      go_loopg [6] (10000 - (D / 366 + 1)).toNat (fun k t wr => ∃ y : Int, 1 ≤ y ∧ ah y ≤ D ∧ t = .int .i64 y ∧ k = (10000 - y).toNat ∧ wr = w.alloc (.cells #[.int .i64 0, .int .i64 0, .int .i64 0, .int .i64 0, .int .i64 0, .int .i64 0] 53))
      case atStart => exact ⟨_, g1, g2, rfl, rfl, rfl⟩
      case round =>
        clear g1 g2
        obtain ⟨y, hy1, hy2, rfl, hk, rfl⟩ := hrel
        have hy3 : y ≤ 9999 := by
          by_cases c : y ≤ 9999
          · exact c
          · have := ah_mono (a := 10000) (b := y) (by omega) (by omega); rw [ah_10000] at this; omega
        have HK := Lib.hid hk
        clear hk
        by_cases hc : ah (y + 1) ≤ D
        · go_wp2_with (go_at_call 100; refine (rbefore_any _ _ _ (by omega) (by omega) rfl).mono ?_; rintro e w' ⟨rfl, rfl⟩)
          go_roundg ((10000 - (y + 1)).toNat)
          case measure => have := HK.out; omega
          case rel => exact ⟨y + 1, by omega, hc, rfl, rfl, rfl⟩
        · have hy4 := ah_succ y hy1
          have hlq := lq_01 y
          have hb := ah_bd y hy1 (by omega)
          have hlt : D - ah y < 365 + lq y := by omega
          have hcd : decide (ah (y + 1) ≤ D) = false := by simpa using hc
          have H4 := Lib.hid hy4
          clear hy4 hc
          go_wp2_with (go_at_call 100; refine (rbefore_any _ _ _ (by omega) (by omega) rfl).mono ?_; rintro e w' ⟨rfl, rfl⟩)
          go_loopg [7, 8] 12 (fun k t u wr => ∃ m : Int, 1 ≤ m ∧ m ≤ 12 ∧ 0 ≤ D - ah y - cum y m ∧ t = .int .i64 (D - ah y - cum y m) ∧ u = .int .i64 m ∧ k = (13 - m).toNat ∧ wr = w.alloc (.cells #[.int .i64 0, .int .i64 0, .int .i64 0, .int .i64 0, .int .i64 0, .int .i64 0] 53))
          case atStart => exact ⟨1, by omega, by omega, by rw [cum_1]; omega, by rw [cum_1, Int.sub_zero], rfl, rfl, rfl⟩
          case round =>
            obtain ⟨m, hm1, hm2, hm3, rfl, rfl, hm4, rfl⟩ := hrel
            have HM4 := Lib.hid hm4
            clear hm4
            have cb := cum_bd y m hm1
            have db := dm_lo y m hm1 hm2
            have cs := cum_succ y m hm1 hm2
            by_cases hc : dm y m ≤ D - ah y - cum y m
            · have hm12 : m < 12 := by
                by_cases e : m < 12
                · exact e
                · obtain rfl : m = 12 := by omega
                  rw [show (12 : Int) + 1 = 13 by rfl, cum_13] at cs; omega
              have CS := Lib.hid cs
              clear cs
              go_wp2_with (go_at_call 101; refine (rdays_any _ _ _).mono ?_; rintro e w' ⟨rfl, rfl⟩)
              go_roundg ((13 - (m + 1)).toNat)
              case measure => have := HM4.out; omega
              case rel => exact ⟨m + 1, by omega, by omega, by rw [CS.out]; omega, by rw [CS.out]; go_num, rfl, rfl, rfl⟩
            · have hcd2 : decide (dm y m ≤ D - ah y - cum y m) = false := by simpa using hc
              have HD : IsDay D y m (D - ah y - cum y m + 1) := ⟨hy1, hm1, hm2, by omega, by omega, by omega⟩
              have CS := Lib.hid cs
              clear cs hc
              go_wp2_with (go_at_call 101; refine (rdays_any _ _ _).mono ?_; rintro e w' ⟨rfl, rfl⟩)
              exact bodyPost_ret (v := .tuple #[.agg #[.int .i64 y, .int .i64 m, .int .i64 (D - ah y - cum y m + 1), .int .i64 (R / 60), .int .i64 (R % 60), .int .i64 ((D + 1) % 7)], .int .i64 0]) (by simp [results, Tryd.results74, go_sem]) rfl ⟨⟨y, m, _, rfl, HD⟩, (Below.refl _ _).alloc (Nat.le_refl _) _⟩
  · have hn0 : 0 ≤ n := by omega
    have hr0 : decide (n % 1440 < 0) = false := by rw [decide_eq_false_iff_not]; omega
    go_enter Tryd.func74, Tryd.ntmps74
    go_wp2_with (go_at_call 100; refine (rbefore_any _ 3652059 _ (by omega) (by omega) ah_10000).mono ?_; rintro e w' ⟨rfl, rfl⟩)
    rw [hD.out]
    rw [hR.out]
    clear hR
    clear hD hd hd2 hn0 hn hr0
    obtain ⟨g1, g2⟩ := guess1 D (by omega)
    go_loopg [6] (10000 - (D / 366 + 1)).toNat (fun k t wr => ∃ y : Int, 1 ≤ y ∧ ah y ≤ D ∧ t = .int .i64 y ∧ k = (10000 - y).toNat ∧ wr = w.alloc (.cells #[.int .i64 0, .int .i64 0, .int .i64 0, .int .i64 0, .int .i64 0, .int .i64 0] 53))
    case atStart => exact ⟨_, g1, g2, rfl, rfl, rfl⟩
    case round =>
      clear g1 g2
      obtain ⟨y, hy1, hy2, rfl, hk, rfl⟩ := hrel
      have hy3 : y ≤ 9999 := by
        by_cases c : y ≤ 9999
        · exact c
        · have := ah_mono (a := 10000) (b := y) (by omega) (by omega); rw [ah_10000] at this; omega
      have HK := Lib.hid hk
      clear hk
      by_cases hc : ah (y + 1) ≤ D
      · go_wp2_with (go_at_call 100; refine (rbefore_any _ _ _ (by omega) (by omega) rfl).mono ?_; rintro e w' ⟨rfl, rfl⟩)
        go_roundg ((10000 - (y + 1)).toNat)
        case measure => have := HK.out; omega
        case rel => exact ⟨y + 1, by omega, hc, rfl, rfl, rfl⟩
      · have hy4 := ah_succ y hy1
        have hlq := lq_01 y
        have hb := ah_bd y hy1 (by omega)
        have hlt : D - ah y < 365 + lq y := by omega
        have hcd : decide (ah (y + 1) ≤ D) = false := by simpa using hc
        have H4 := Lib.hid hy4
        clear hy4 hc
        go_wp2_with (go_at_call 100; refine (rbefore_any _ _ _ (by omega) (by omega) rfl).mono ?_; rintro e w' ⟨rfl, rfl⟩)
        go_loopg [7, 8] 12 (fun k t u wr => ∃ m : Int, 1 ≤ m ∧ m ≤ 12 ∧ 0 ≤ D - ah y - cum y m ∧ t = .int .i64 (D - ah y - cum y m) ∧ u = .int .i64 m ∧ k = (13 - m).toNat ∧ wr = w.alloc (.cells #[.int .i64 0, .int .i64 0, .int .i64 0, .int .i64 0, .int .i64 0, .int .i64 0] 53))
        case atStart => exact ⟨1, by omega, by omega, by rw [cum_1]; omega, by rw [cum_1, Int.sub_zero], rfl, rfl, rfl⟩
        case round =>
          obtain ⟨m, hm1, hm2, hm3, rfl, rfl, hm4, rfl⟩ := hrel
          have HM4 := Lib.hid hm4
          clear hm4
          have cb := cum_bd y m hm1
          have db := dm_lo y m hm1 hm2
          have cs := cum_succ y m hm1 hm2
          by_cases hc : dm y m ≤ D - ah y - cum y m
          · have hm12 : m < 12 := by
              by_cases e : m < 12
              · exact e
              · obtain rfl : m = 12 := by omega
                rw [show (12 : Int) + 1 = 13 by rfl, cum_13] at cs; omega
            have CS := Lib.hid cs
            clear cs
            go_wp2_with (go_at_call 101; refine (rdays_any _ _ _).mono ?_; rintro e w' ⟨rfl, rfl⟩)
            go_roundg ((13 - (m + 1)).toNat)
            case measure => have := HM4.out; omega
            case rel => exact ⟨m + 1, by omega, by omega, by rw [CS.out]; omega, by rw [CS.out]; go_num, rfl, rfl, rfl⟩
          · have hcd2 : decide (dm y m ≤ D - ah y - cum y m) = false := by simpa using hc
            have HD : IsDay D y m (D - ah y - cum y m + 1) := ⟨hy1, hm1, hm2, by omega, by omega, by omega⟩
            have CS := Lib.hid cs
            clear cs hc
            go_wp2_with (go_at_call 101; refine (rdays_any _ _ _).mono ?_; rintro e w' ⟨rfl, rfl⟩)
            exact bodyPost_ret (v := .tuple #[.agg #[.int .i64 y, .int .i64 m, .int .i64 (D - ah y - cum y m + 1), .int .i64 (R / 60), .int .i64 (R % 60), .int .i64 ((D + 1) % 7)], .int .i64 0]) (by simp [results, Tryd.results74, go_sem]) rfl ⟨⟨y, m, _, rfl, HD⟩, (Below.refl _ _).alloc (Nat.le_refl _) _⟩

end Go.Proofs.YtdpaiaeaamokeaaDoor.Cal

