/- Plain calendar arithmetic: leap years, days of months, days ahead of a year; no program in sight. -/
import Derived.IntWalk
namespace Go.Proofs.YtlldcoldnojbjaaGreatDoor.Cal

/-- Is a year a leap year? -/
def lp (y : Int) : Bool := decide ((y % 4 = 0 ∧ y % 100 ≠ 0) ∨ y % 400 = 0)
/-- One more day, or none. -/
def lq (y : Int) : Int := if lp y then 1 else 0
/-- Days of a month. -/
def dm (y m : Int) : Int :=
  if m = 1 then 31 else if m = 2 then 28 + lq y else if m = 3 then 31 else if m = 4 then 30 else if m = 5 then 31 else if m = 6 then 30
  else if m = 7 then 31 else if m = 8 then 31 else if m = 9 then 30 else if m = 10 then 31 else if m = 11 then 30 else if m = 12 then 31 else 0
/-- Days of a year ahead of a month. -/
def cum (y m : Int) : Int :=
  if m = 1 then 0 else if m = 2 then 31 else if m = 3 then 59 + lq y else if m = 4 then 90 + lq y else if m = 5 then 120 + lq y else if m = 6 then 151 + lq y
  else if m = 7 then 181 + lq y else if m = 8 then 212 + lq y else if m = 9 then 243 + lq y else if m = 10 then 273 + lq y else if m = 11 then 304 + lq y
  else if m = 12 then 334 + lq y else 365 + lq y
/-- Days ahead of a year, from the year 1 on. -/
def ah (y : Int) : Int := 365 * (y - 1) + (y - 1) / 4 - (y - 1) / 100 + (y - 1) / 400

theorem lq_01 (y : Int) : 0 ≤ lq y ∧ lq y ≤ 1 := by unfold lq; split <;> omega
theorem lq_true {y : Int} (h : lp y = true) : lq y = 1 := by unfold lq; rw [h]; rfl
theorem lq_false {y : Int} (h : lp y = false) : lq y = 0 := by unfold lq; rw [h]; rfl
theorem lp_iff (y : Int) : lp y = true ↔ ((y % 4 = 0 ∧ y % 100 ≠ 0) ∨ y % 400 = 0) := by unfold lp; simp
theorem dm_lo (y m : Int) (h1 : 1 ≤ m) (h2 : m ≤ 12) : 28 ≤ dm y m ∧ dm y m ≤ 31 := by
  have := lq_01 y; unfold dm; repeat (first | omega | split)
theorem dm_bd (y m : Int) : 0 ≤ dm y m ∧ dm y m ≤ 31 := by
  have := lq_01 y; unfold dm; repeat (first | omega | split)
theorem dm_out (y m : Int) (h : m < 1 ∨ 12 < m) : dm y m = 0 := by
  unfold dm; repeat (first | omega | (rw [if_neg (by omega)]))
theorem dm_in {y m : Int} (h : 1 ≤ dm y m) : 1 ≤ m ∧ m ≤ 12 := by
  have := dm_out y m; omega
theorem cum_succ (y m : Int) (h1 : 1 ≤ m) (h2 : m ≤ 12) : cum y (m + 1) = cum y m + dm y m := by
  have hm : m = 1 ∨ m = 2 ∨ m = 3 ∨ m = 4 ∨ m = 5 ∨ m = 6 ∨ m = 7 ∨ m = 8 ∨ m = 9 ∨ m = 10 ∨ m = 11 ∨ m = 12 := by omega
  rcases hm with rfl | rfl | rfl | rfl | rfl | rfl | rfl | rfl | rfl | rfl | rfl | rfl <;> simp [cum, dm] <;> omega
theorem cum_1 (y : Int) : cum y 1 = 0 := by simp [cum]
theorem cum_13 (y : Int) : cum y 13 = 365 + lq y := by simp [cum]
theorem cum_bd (y m : Int) (h1 : 1 ≤ m) : 0 ≤ cum y m ∧ cum y m ≤ 366 := by
  have := lq_01 y; unfold cum; repeat (first | omega | split)
theorem cum_mono (y : Int) {m n : Int} (h1 : 1 ≤ m) (h : m < n) (hn : n ≤ 13) : cum y m + dm y m ≤ cum y n := by
  have key : ∀ k : Nat, ∀ n : Int, n = m + 1 + k → n ≤ 13 → cum y m + dm y m ≤ cum y n := by
    intro k; induction k with
    | zero => intro n hk hn; have : n = m + 1 := by omega
              subst this; rw [cum_succ y m h1 (by omega)]; omega
    | succ k ih =>
      intro n hk hn
      have h0 := ih (n - 1) (by omega) (by omega)
      have h2 := cum_succ y (n - 1) (by omega) (by omega)
      have h3 := dm_lo y (n - 1) (by omega) (by omega)
      rw [show n - 1 + 1 = n by omega] at h2; omega
  exact key (n - m - 1).toNat n (by omega) hn
theorem ah_succ (y : Int) (h : 1 ≤ y) : ah (y + 1) = ah y + 365 + lq y := by
  unfold ah
  by_cases hl : lp y = true
  · rw [lq_true hl]; rw [lp_iff] at hl; omega
  · have hl' : lp y = false := by simpa using hl
    rw [lq_false hl']; rw [lp_iff] at hl; omega
theorem ah_mono {a b : Int} (h1 : 1 ≤ a) (h : a ≤ b) : ah a ≤ ah b := by unfold ah; omega
theorem ah_bd (y : Int) (h1 : 1 ≤ y) (h2 : y ≤ 20000) : 0 ≤ ah y ∧ ah y ≤ 7304850 := by unfold ah; omega
theorem ah_1 : ah 1 = 0 := by decide
theorem ah_10000 : ah 10000 = 3652059 := by decide
theorem ah_400 (y : Int) : ah (y + 400) = ah y + 146097 := by unfold ah; omega
theorem ah_strict {a b : Int} (h1 : 1 ≤ a) (h : a < b) : ah a + 365 ≤ ah b := by
  have := ah_succ a h1; have := lq_01 a; have := ah_mono (a := a + 1) (b := b) (by omega) (by omega); omega

/-- Day number n (from the first day of the year 1 on) is day d of month m of year y. -/
structure IsDay (n y m d : Int) : Prop where
  y1 : 1 ≤ y
  m1 : 1 ≤ m
  m12 : m ≤ 12
  d1 : 1 ≤ d
  dd : d ≤ dm y m
  at_ : n = ah y + cum y m + d - 1

theorem IsDay.in_year {n y m d : Int} (h : IsDay n y m d) : ah y ≤ n ∧ n < ah (y + 1) := by
  obtain ⟨h1, h2, h3, h4, h5, h6⟩ := h
  have a := ah_succ y h1
  have c := cum_succ y m h2 h3
  have b := cum_bd y m h2
  have e : cum y (m + 1) ≤ 365 + lq y := by
    by_cases hm : m = 12
    · subst hm; rw [show (12 : Int) + 1 = 13 by rfl, cum_13]; omega
    · have := cum_mono y (m := m + 1) (n := 13) (by omega) (by omega) (by omega); rw [cum_13] at this
      have := dm_bd y (m + 1); omega
  omega
theorem IsDay.uniq {n y m d y' m' d' : Int} (h : IsDay n y m d) (h' : IsDay n y' m' d') : y = y' ∧ m = m' ∧ d = d' := by
  have hy := h.in_year; have hy' := h'.in_year
  have e : y = y' := by
    by_cases c : y < y'
    · have := ah_mono (a := y + 1) (b := y') (by have := h.y1; omega) (by omega); omega
    · by_cases c2 : y' < y
      · have := ah_mono (a := y' + 1) (b := y) (by have := h'.y1; omega) (by omega); omega
      · omega
  subst e
  obtain ⟨h1, h2, h3, h4, h5, h6⟩ := h
  obtain ⟨g1, g2, g3, g4, g5, g6⟩ := h'
  have e : m = m' := by
    by_cases c : m < m'
    · have := cum_mono y (m := m) (n := m') h2 c (by omega); omega
    · by_cases c2 : m' < m
      · have := cum_mono y (m := m') (n := m) g2 c2 (by omega); omega
      · omega
  subst e
  exact ⟨rfl, rfl, by omega⟩
theorem IsDay.year_le {n y m d : Int} (h : IsDay n y m d) (hn : n < 3652059) : y ≤ 9999 := by
  by_cases c : y ≤ 9999
  · exact c
  · have := ah_mono (a := 10000) (b := y) (by omega) (by omega); rw [ah_10000] at this; have := h.in_year; omega
theorem IsDay.lt_end {n y m d : Int} (h : IsDay n y m d) (hy : y ≤ 9999) : 0 ≤ n ∧ n < 3652059 := by
  have a := h.in_year
  have b := ah_mono (a := y + 1) (b := 10000) (by have := h.y1; omega) (by omega)
  have c := ah_mono (a := 1) (b := y) (by omega) h.y1
  rw [ah_10000] at b; rw [ah_1] at c; omega
/-- The next day. -/
theorem IsDay.next {n y m d : Int} (h : IsDay n y m d) :
    (d < dm y m → IsDay (n + 1) y m (d + 1)) ∧ (d = dm y m → m < 12 → IsDay (n + 1) y (m + 1) 1) ∧ (d = dm y m → m = 12 → IsDay (n + 1) (y + 1) 1 1) := by
  obtain ⟨h1, h2, h3, h4, h5, h6⟩ := h
  refine ⟨fun hd => ⟨h1, h2, h3, by omega, by omega, by omega⟩, fun hd hm => ⟨h1, by omega, by omega, by omega, ?_, ?_⟩, fun hd hm => ⟨by omega, by omega, by omega, by omega, ?_, ?_⟩⟩
  · have := dm_lo y (m + 1) (by omega) (by omega); omega
  · rw [cum_succ y m h2 h3]; omega
  · have := dm_lo (y + 1) 1 (by omega) (by omega); omega
  · subst hm; have a := ah_succ y h1; have c := cum_succ y 12 (by omega) (by omega); rw [show (12 : Int) + 1 = 13 by rfl, cum_13] at c; rw [cum_1]; omega
/-- The guess of a year is not above it. -/
theorem guess (n : Int) (h : 0 ≤ n) : 1 ≤ 400 * (n / 146097) + n % 146097 / 366 + 1 ∧ ah (400 * (n / 146097) + n % 146097 / 366 + 1) ≤ n := by
  unfold ah; omega
theorem guess1 (n : Int) (h : 0 ≤ n) : 1 ≤ n / 366 + 1 ∧ ah (n / 366 + 1) ≤ n := by
  unfold ah; omega
end Go.Proofs.YtlldcoldnojbjaaGreatDoor.Cal
