/- Days that come, that come in leap years, that never come: what Next answers for the expressions of the chapter's examples; no program in sight. -/
import Derived.Test.YtdpaiaeaamokeaaDoorCronNextP
namespace Go.Proofs.YtdpaiaeaamokeaaDoor.Cron
open Go.RowKit Go Go.Proofs.YtdpaiaeaamokeaaDoor.Cal

theorem day_ex (D : Int) (h : 0 ≤ D) : ∃ y m d, IsDay D y m d := by
  have key : ∀ k : Nat, ∃ y m d, IsDay (k : Int) y m d := by
    intro k
    induction k with
    | zero => exact ⟨1, 1, 1, by decide, by decide, by decide, by decide, by decide, by decide⟩
    | succ k ih =>
      obtain ⟨y, m, d, hd⟩ := ih
      obtain ⟨a, b, c⟩ := hd.next
      have := hd.dd
      have := hd.m12
      have e : ((k + 1 : Nat) : Int) = (k : Int) + 1 := by omega
      rw [e]
      by_cases h1 : d < dm y m
      · exact ⟨_, _, _, a h1⟩
      · by_cases h2 : m < 12
        · exact ⟨_, _, _, b (by omega) h2⟩
        · exact ⟨_, _, _, c (by omega) (by omega)⟩
  obtain ⟨y, m, d, hd⟩ := key D.toNat
  rw [Int.toNat_of_nonneg h] at hd
  exact ⟨y, m, d, hd⟩

/-- The 29th of February at midnight; the 30th. -/
def exL : Ex := ⟨1, 1, 536870912, 4, spanN 0 6, false, true⟩
def exN : Ex := ⟨1, 1, 1073741824, 4, spanN 0 6, false, true⟩
def exA : Ex := ⟨spanN 0 59, spanN 0 23, spanN 1 31, spanN 1 12, spanN 0 6, true, true⟩
theorem bit1 (i : Nat) : Nat.testBit 1 i = decide (0 = i) := Nat.testBit_two_pow (n := 0) (m := i)
theorem bit4 (i : Nat) : Nat.testBit 4 i = decide (2 = i) := Nat.testBit_two_pow (n := 2) (m := i)
theorem bit29 (i : Nat) : Nat.testBit 536870912 i = decide (29 = i) := Nat.testBit_two_pow (n := 29) (m := i)
theorem bit30 (i : Nat) : Nat.testBit 1073741824 i = decide (30 = i) := Nat.testBit_two_pow (n := 30) (m := i)
theorem exL_match (n : Int) : isMatch exL n ↔ -1035593280 ≤ n ∧ n ≤ 4223371679 ∧ n % 1440 = 0 ∧ ∃ y, IsDay ((n + 1035593280) / 1440) y 2 29 := by
  constructor
  · rintro ⟨h1, h2, y, m, d, hd, h3, h4, h5⟩
    simp only [exL, dayOk, bit1, bit4, bit29, Bool.false_and, Bool.and_true, if_true, if_false, Bool.and_eq_true, decide_eq_true_eq, Bool.false_eq_true] at h3 h4 h5
    have := hd.m1
    have := hd.d1
    obtain rfl : m = 2 := by omega
    obtain rfl : d = 29 := by omega
    exact ⟨h1, h2, by omega, y, hd⟩
  · rintro ⟨h1, h2, h0, y, hd⟩
    refine ⟨h1, h2, y, 2, 29, hd, ?_, ?_, ?_⟩
    · simp [exL, dayOk, bit4, bit29]
    · simp only [exL, bit1, decide_eq_true_eq]; omega
    · simp only [exL, bit1, decide_eq_true_eq]; omega
theorem exN_match (n : Int) : ¬ isMatch exN n := by
  rintro ⟨h1, h2, y, m, d, hd, h3, h4, h5⟩
  simp only [exN, dayOk, bit1, bit4, bit30, Bool.false_and, Bool.and_true, if_true, if_false, Bool.and_eq_true, decide_eq_true_eq, Bool.false_eq_true] at h3
  have := hd.m1
  have := hd.d1
  obtain rfl : m = 2 := by omega
  obtain rfl : d = 30 := by omega
  have h := hd.dd
  have := lq_01 y
  simp only [dm] at h
  omega
theorem leap_day {D y : Int} (h : IsDay D y 2 29) : lp y = true ∧ D = ah y + 59 ∧ 1 ≤ y := by
  have h1 := h.dd
  have h2 := h.at_
  have h3 := h.y1
  have c : cum y 2 = 31 := by simp [cum]
  have e : dm y 2 = 28 + lq y := by simp [dm]
  refine ⟨?_, by omega, h3⟩
  cases hl : lp y with
  | true => rfl
  | false => rw [e, lq_false hl] at h1; omega
theorem leap_is {y : Int} (h1 : 1 ≤ y) (hl : lp y = true) : IsDay (ah y + 59) y 2 29 :=
  ⟨h1, by omega, by omega, by omega, by simp [dm, lq_true hl], by simp [cum]; omega⟩
/-- The chapter's example: from 2096-03-01 on the next one is 2104-02-29: 2100 is no leap year. -/
theorem known_next : NextIs exL 66356640 70561440 0 := by
  refine .inr (.inl ⟨by omega, by omega, rfl, by omega, by omega, ?_, fun n h1 h2 hm => ?_⟩)
  · rw [exL_match]
    exact ⟨by omega, by omega, by omega, 2104, ⟨by decide, by decide, by decide, by decide, by decide, by decide⟩⟩
  · obtain ⟨k1, k2, k3, y, hd⟩ := (exL_match n).1 hm
    obtain ⟨a, b, c⟩ := leap_day hd
    rw [lp_iff] at a
    have h3 : ah 2096 = 765183 := by decide
    have h4 : ah 2104 = 768104 := by decide
    have y1 : 2096 ≤ y := by
      by_cases g : 2096 ≤ y
      · exact g
      · have := ah_strict (a := y) (b := 2096) c (by omega); omega
    have y2 : y ≤ 2104 := by
      by_cases g : y ≤ 2104
      · exact g
      · have := ah_strict (a := 2104) (b := y) (by omega) (by omega); omega
    by_cases g : y = 2096
    · subst g; omega
    · by_cases g2 : y = 2104
      · subst g2; omega
      · omega
theorem ah_far (y : Int) (h : 1 ≤ y) : ∀ k : Nat, ah (y + k) ≤ ah y + 366 * k
  | 0 => by simp
  | k + 1 => by
    have := ah_far y h k
    have h2 := ah_succ (y + k) (by omega)
    have := lq_01 (y + k)
    rw [show y + ((k + 1 : Nat) : Int) = y + k + 1 by omega, h2]
    omega
/-- One of the next eight years is a leap year; the eighth only behind one. -/
theorem leap_soon (y : Int) : ∃ k : Nat, 1 ≤ k ∧ k ≤ 8 ∧ lp (y + k) = true ∧ (k = 8 → lp y = true) := by
  simp only [lp_iff]
  by_cases q : y % 4 = 0
  · by_cases q2 : (y + 4) % 100 ≠ 0 ∨ (y + 4) % 400 = 0
    · exact ⟨4, by omega, by omega, by omega, by omega⟩
    · exact ⟨8, by omega, by omega, by omega, by omega⟩
  · have hr : y % 4 = 1 ∨ y % 4 = 2 ∨ y % 4 = 3 := by omega
    rcases hr with hr | hr | hr
    · by_cases q2 : (y + 3) % 100 ≠ 0 ∨ (y + 3) % 400 = 0
      · exact ⟨3, by omega, by omega, by omega, by omega⟩
      · exact ⟨7, by omega, by omega, by omega, by omega⟩
    · by_cases q2 : (y + 2) % 100 ≠ 0 ∨ (y + 2) % 400 = 0
      · exact ⟨2, by omega, by omega, by omega, by omega⟩
      · exact ⟨6, by omega, by omega, by omega, by omega⟩
    · by_cases q2 : (y + 1) % 100 ≠ 0 ∨ (y + 1) % 400 = 0
      · exact ⟨1, by omega, by omega, by omega, by omega⟩
      · exact ⟨5, by omega, by omega, by omega, by omega⟩
/-- Each minute has a leap day within eight years ahead, but at the calendar's end. -/
theorem leap_near (n y m d : Int) (h1 : -1035593280 ≤ n) (hd : IsDay ((n + 1035593280) / 1440) y m d) (hy : y ≤ 9991) :
    ∃ p, n < p ∧ p ≤ n + 4216320 ∧ isMatch exL p := by
  have iy := hd.in_year
  have y1 := hd.y1
  obtain ⟨D, hD⟩ : ∃ D, (n + 1035593280) / 1440 = D := ⟨_, rfl⟩
  rw [hD] at iy
  clear hd
  have put : ∀ L, 1 ≤ L → L ≤ 9999 → lp L = true → D < ah L + 59 → ah L + 59 ≤ D + 2928 → ∃ p, n < p ∧ p ≤ n + 4216320 ∧ isMatch exL p := by
    intro L k1 k2 k3 k4 k5
    have b0 := (ah_bd L k1 (by omega)).1
    have b9 := ah_mono (a := L + 1) (b := 10000) (by omega) (by omega)
    rw [ah_10000, ah_succ L k1] at b9
    have b8 := (lq_01 L).1
    refine ⟨-1035593280 + (ah L + 59) * 1440, by omega, by omega, (exL_match _).2 ⟨by omega, by omega, by omega, L, ?_⟩⟩
    rw [show (-1035593280 + (ah L + 59) * 1440 + 1035593280) / 1440 = ah L + 59 by omega]
    exact leap_is k1 k3
  by_cases g : lp y = true ∧ D < ah y + 59
  · exact put y y1 (by omega) g.1 g.2 (by omega)
  · obtain ⟨k, k1, k2, k3, k4⟩ := leap_soon y
    have a0 := ah_far y y1 k
    have a2 := ah_mono (a := y + 1) (b := y + k) (by omega) (by omega)
    refine put (y + k) (by omega) (by omega) k3 (by omega) ?_
    by_cases e : k = 8
    · have := k4 e
      have : ah y + 59 ≤ D := by
        by_cases c : D < ah y + 59
        · exact absurd ⟨this, c⟩ g
        · omega
      omega
    · omega
theorem exA_match (n : Int) (h1 : -1035593280 ≤ n) (h2 : n ≤ 4223371679) : isMatch exA n := by
  obtain ⟨y, m, d, hd⟩ := day_ex ((n + 1035593280) / 1440) (by omega)
  have a1 := hd.m1
  have a2 := hd.m12
  have a3 := hd.d1
  have a4 := hd.dd
  have a5 := (dm_bd y m).2
  refine ⟨h1, h2, y, m, d, hd, ?_, ?_, ?_⟩
  · simp only [exA, dayOk, Bool.and_self, if_true, Bool.and_true]
    rw [span_test 1 12 _ (by omega)]
    simp; omega
  · simp only [exA]
    rw [span_test 0 23 _ (by omega)]
    simp; omega
  · simp only [exA]
    rw [span_test 0 59 _ (by omega)]
    simp; omega
/-- The next minute, the last minute, where all is a star. -/
theorem exA_next (n : Int) (h1 : -1035593280 ≤ n) (h2 : n < 4223371679) : NextIs exA n (n + 1) 0 :=
  .inr (.inl ⟨h1, by omega, rfl, by omega, by omega, exA_match _ (by omega) (by omega), fun m k1 k2 => by omega⟩)
theorem exA_prev (n a : Int) (h1 : -1035593280 ≤ n) (h2 : n ≤ 4223371679) (ha : a < n) : PrevIs exA n a n 0 :=
  .inr (.inl ⟨h1, h2, ha, rfl, ha, by omega, by omega, exA_match _ h1 h2, fun m k1 k2 => by omega⟩)
end Go.Proofs.YtdpaiaeaamokeaaDoor.Cron
