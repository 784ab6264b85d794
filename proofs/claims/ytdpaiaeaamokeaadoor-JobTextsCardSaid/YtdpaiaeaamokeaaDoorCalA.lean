/- Joined: CalMath, CalWalks, CalMinute, CalMinuteIn. -/
import Derived.IntWalk
import Derived.Test.YtdpaiaeaamokeaaDoorProg
import Derived.Test.YtdpaiaeaamokeaaDoorKit
namespace Go.Proofs.YtdpaiaeaamokeaaDoor.Cal

/-- Is a year a leap year? -/
def lp (y : Int) : Bool := decide ((y % 4 = 0 ∧ y % 100 ≠ 0) ∨ y % 400 = 0)
/-- One more day, or none. -/
def lq (y : Int) : Int := if lp y then 1 else 0
/-- Days of a month. -/
def dm (y m : Int) : Int :=
  if m = 1 then 31 else if m = 2 then 28 + lq y else if m = 3 then 31 else if m = 4 then 30 else if m = 5 then 31 else if m = 6 then 30
  else if m = 7 then 31 else if m = 8 then 31 else if m = 9 then 30 else if m = 10 then 31 else if m = 11 then 30 else if m = 12 then 31 else 0
/-- Days of a year ahead of a month. -/
def cum (y m : Int) : Int :=
  if m = 1 then 0 else if m = 2 then 31 else if m = 3 then 59 + lq y else if m = 4 then 90 + lq y else if m = 5 then 120 + lq y else if m = 6 then 151 + lq y
  else if m = 7 then 181 + lq y else if m = 8 then 212 + lq y else if m = 9 then 243 + lq y else if m = 10 then 273 + lq y else if m = 11 then 304 + lq y
  else if m = 12 then 334 + lq y else 365 + lq y
/-- Days ahead of a year, from the year 1 on. -/
def ah (y : Int) : Int := 365 * (y - 1) + (y - 1) / 4 - (y - 1) / 100 + (y - 1) / 400

theorem lq_01 (y : Int) : 0 ≤ lq y ∧ lq y ≤ 1 := by unfold lq; split <;> omega
theorem lq_true {y : Int} (h : lp y = true) : lq y = 1 := by unfold lq; rw [h]; rfl
theorem lq_false {y : Int} (h : lp y = false) : lq y = 0 := by unfold lq; rw [h]; rfl
theorem lp_iff (y : Int) : lp y = true ↔ ((y % 4 = 0 ∧ y % 100 ≠ 0) ∨ y % 400 = 0) := by unfold lp; simp
theorem dm_lo (y m : Int) (h1 : 1 ≤ m) (h2 : m ≤ 12) : 28 ≤ dm y m ∧ dm y m ≤ 31 := by
  have := lq_01 y; unfold dm; repeat (first | omega | split)
theorem dm_bd (y m : Int) : 0 ≤ dm y m ∧ dm y m ≤ 31 := by
  have := lq_01 y; unfold dm; repeat (first | omega | split)
theorem dm_out (y m : Int) (h : m < 1 ∨ 12 < m) : dm y m = 0 := by
  unfold dm; repeat (first | omega | (rw [if_neg (by omega)]))
theorem dm_in {y m : Int} (h : 1 ≤ dm y m) : 1 ≤ m ∧ m ≤ 12 := by
  have := dm_out y m; omega
theorem cum_succ (y m : Int) (h1 : 1 ≤ m) (h2 : m ≤ 12) : cum y (m + 1) = cum y m + dm y m := by
  have hm : m = 1 ∨ m = 2 ∨ m = 3 ∨ m = 4 ∨ m = 5 ∨ m = 6 ∨ m = 7 ∨ m = 8 ∨ m = 9 ∨ m = 10 ∨ m = 11 ∨ m = 12 := by omega
  rcases hm with rfl | rfl | rfl | rfl | rfl | rfl | rfl | rfl | rfl | rfl | rfl | rfl <;> simp [cum, dm] <;> omega
theorem cum_1 (y : Int) : cum y 1 = 0 := by simp [cum]
theorem cum_13 (y : Int) : cum y 13 = 365 + lq y := by simp [cum]
theorem cum_bd (y m : Int) (h1 : 1 ≤ m) : 0 ≤ cum y m ∧ cum y m ≤ 366 := by
  have := lq_01 y; unfold cum; repeat (first | omega | split)
theorem cum_mono (y : Int) {m n : Int} (h1 : 1 ≤ m) (h : m < n) (hn : n ≤ 13) : cum y m + dm y m ≤ cum y n := by
  have key : ∀ k : Nat, ∀ n : Int, n = m + 1 + k → n ≤ 13 → cum y m + dm y m ≤ cum y n := by
    intro k; induction k with
    | zero => intro n hk hn; have : n = m + 1 := by omega
              subst this; rw [cum_succ y m h1 (by omega)]; omega
    | succ k ih =>
      intro n hk hn
      have h0 := ih (n - 1) (by omega) (by omega)
      have h2 := cum_succ y (n - 1) (by omega) (by omega)
      have h3 := dm_lo y (n - 1) (by omega) (by omega)
      rw [show n - 1 + 1 = n by omega] at h2; omega
  exact key (n - m - 1).toNat n (by omega) hn
theorem ah_succ (y : Int) (h : 1 ≤ y) : ah (y + 1) = ah y + 365 + lq y := by
  unfold ah
  by_cases hl : lp y = true
  · rw [lq_true hl]; rw [lp_iff] at hl; omega
  · have hl' : lp y = false := by simpa using hl
    rw [lq_false hl']; rw [lp_iff] at hl; omega
theorem ah_mono {a b : Int} (h1 : 1 ≤ a) (h : a ≤ b) : ah a ≤ ah b := by unfold ah; omega
theorem ah_bd (y : Int) (h1 : 1 ≤ y) (h2 : y ≤ 20000) : 0 ≤ ah y ∧ ah y ≤ 7304850 := by unfold ah; omega
theorem ah_1 : ah 1 = 0 := by decide
theorem ah_10000 : ah 10000 = 3652059 := by decide
theorem ah_400 (y : Int) : ah (y + 400) = ah y + 146097 := by unfold ah; omega
theorem ah_strict {a b : Int} (h1 : 1 ≤ a) (h : a < b) : ah a + 365 ≤ ah b := by
  have := ah_succ a h1; have := lq_01 a; have := ah_mono (a := a + 1) (b := b) (by omega) (by omega); omega

/-- Day number n (from the first day of the year 1 on) is day d of month m of year y. -/
structure IsDay (n y m d : Int) : Prop where
  y1 : 1 ≤ y
  m1 : 1 ≤ m
  m12 : m ≤ 12
  d1 : 1 ≤ d
  dd : d ≤ dm y m
  at_ : n = ah y + cum y m + d - 1

theorem IsDay.in_year {n y m d : Int} (h : IsDay n y m d) : ah y ≤ n ∧ n < ah (y + 1) := by
  obtain ⟨h1, h2, h3, h4, h5, h6⟩ := h
  have a := ah_succ y h1
  have c := cum_succ y m h2 h3
  have b := cum_bd y m h2
  have e : cum y (m + 1) ≤ 365 + lq y := by
    by_cases hm : m = 12
    · subst hm; rw [show (12 : Int) + 1 = 13 by rfl, cum_13]; omega
    · have := cum_mono y (m := m + 1) (n := 13) (by omega) (by omega) (by omega); rw [cum_13] at this
      have := dm_bd y (m + 1); omega
  omega
theorem IsDay.uniq {n y m d y' m' d' : Int} (h : IsDay n y m d) (h' : IsDay n y' m' d') : y = y' ∧ m = m' ∧ d = d' := by
  have hy := h.in_year; have hy' := h'.in_year
  have e : y = y' := by
    by_cases c : y < y'
    · have := ah_mono (a := y + 1) (b := y') (by have := h.y1; omega) (by omega); omega
    · by_cases c2 : y' < y
      · have := ah_mono (a := y' + 1) (b := y) (by have := h'.y1; omega) (by omega); omega
      · omega
  subst e
  obtain ⟨h1, h2, h3, h4, h5, h6⟩ := h
  obtain ⟨g1, g2, g3, g4, g5, g6⟩ := h'
  have e : m = m' := by
    by_cases c : m < m'
    · have := cum_mono y (m := m) (n := m') h2 c (by omega); omega
    · by_cases c2 : m' < m
      · have := cum_mono y (m := m') (n := m) g2 c2 (by omega); omega
      · omega
  subst e
  exact ⟨rfl, rfl, by omega⟩
theorem IsDay.year_le {n y m d : Int} (h : IsDay n y m d) (hn : n < 3652059) : y ≤ 9999 := by
  by_cases c : y ≤ 9999
  · exact c
  · have := ah_mono (a := 10000) (b := y) (by omega) (by omega); rw [ah_10000] at this; have := h.in_year; omega
theorem IsDay.lt_end {n y m d : Int} (h : IsDay n y m d) (hy : y ≤ 9999) : 0 ≤ n ∧ n < 3652059 := by
  have a := h.in_year
  have b := ah_mono (a := y + 1) (b := 10000) (by have := h.y1; omega) (by omega)
  have c := ah_mono (a := 1) (b := y) (by omega) h.y1
  rw [ah_10000] at b; rw [ah_1] at c; omega
/-- The next day. -/
theorem IsDay.next {n y m d : Int} (h : IsDay n y m d) :
    (d < dm y m → IsDay (n + 1) y m (d + 1)) ∧ (d = dm y m → m < 12 → IsDay (n + 1) y (m + 1) 1) ∧ (d = dm y m → m = 12 → IsDay (n + 1) (y + 1) 1 1) := by
  obtain ⟨h1, h2, h3, h4, h5, h6⟩ := h
  refine ⟨fun hd => ⟨h1, h2, h3, by omega, by omega, by omega⟩, fun hd hm => ⟨h1, by omega, by omega, by omega, ?_, ?_⟩, fun hd hm => ⟨by omega, by omega, by omega, by omega, ?_, ?_⟩⟩
  · have := dm_lo y (m + 1) (by omega) (by omega); omega
  · rw [cum_succ y m h2 h3]; omega
  · have := dm_lo (y + 1) 1 (by omega) (by omega); omega
  · subst hm; have a := ah_succ y h1; have c := cum_succ y 12 (by omega) (by omega); rw [show (12 : Int) + 1 = 13 by rfl, cum_13] at c; rw [cum_1]; omega
/-- The guess of a year is not above it. -/
theorem guess (n : Int) (h : 0 ≤ n) : 1 ≤ 400 * (n / 146097) + n % 146097 / 366 + 1 ∧ ah (400 * (n / 146097) + n % 146097 / 366 + 1) ≤ n := by
  unfold ah; omega
theorem guess1 (n : Int) (h : 0 ≤ n) : 1 ≤ n / 366 + 1 ∧ ah (n / 366 + 1) ≤ n := by
  unfold ah; omega
end Go.Proofs.YtdpaiaeaamokeaaDoor.Cal

namespace Go.Proofs.YtdpaiaeaamokeaaDoor.Cal
open Go.RowKit Go

theorem leap_any (y : Int) (w : World) :
    Calls Tryd.prog 94 #[.int .i64 y] w fun e w' => e = .returned (.bool (lp y)) ∧ w = w' := by
  by_cases h4 : y % 4 = 0
  · by_cases h100 : y % 100 = 0
    · by_cases h400 : y % 400 = 0
      · have hl : lp y = true := (lp_iff y).2 (by omega)
        rw [hl]
        have b1 := tmod_eq y 4 h4; have b2 := tmod_eq y 100 h100; have b3 := tmod_eq y 400 h400
        have c1 := bne_of_beq b1; have c2 := bne_of_beq b2; have c3 := bne_of_beq b3
        clear h4 h100 h400 hl
        go_enter Tryd.func94, Tryd.ntmps94
        go_wp2
        go_ret
        exact ⟨rfl, rfl⟩
      · have hl : lp y = false := by simp [lp]; omega
        rw [hl]
        have b1 := tmod_eq y 4 h4; have b2 := tmod_eq y 100 h100; have b3 := tmod_ne y 400 h400
        have c1 := bne_of_beq b1; have c2 := bne_of_beq b2; have c3 := bne_of_beq b3
        clear h4 h100 h400 hl
        go_enter Tryd.func94, Tryd.ntmps94
        go_wp2
        go_ret
        exact ⟨rfl, rfl⟩
    · have hl : lp y = true := (lp_iff y).2 (by omega)
      rw [hl]
      have b1 := tmod_eq y 4 h4; have b2 := tmod_ne y 100 h100
      have c1 := bne_of_beq b1; have c2 := bne_of_beq b2
      clear h4 h100 hl
      go_enter Tryd.func94, Tryd.ntmps94
      go_wp2
      go_ret
      exact ⟨rfl, rfl⟩
  · have hl : lp y = false := by simp [lp]; omega
    rw [hl]
    have b1 := tmod_ne y 4 h4; have b3 := tmod_ne y 400 (by omega)
    have c1 := bne_of_beq b1; have c3 := bne_of_beq b3
    clear h4 hl
    go_enter Tryd.func94, Tryd.ntmps94
    go_wp2
    go_ret
    exact ⟨rfl, rfl⟩

theorem days_out (y m : Int) (w : World) (h : m < 1 ∨ 12 < m) :
    Calls Tryd.prog 67 #[.int .i64 y, .int .i64 m] w fun e w' => e = .returned (.int .i64 0) ∧ w = w' := by
  rcases h with h | h
  · go_enter Tryd.func67, Tryd.ntmps67
    go_wp2
    go_ret
    exact ⟨rfl, rfl⟩
  · have h' : ¬ m < 1 := by omega
    go_enter Tryd.func67, Tryd.ntmps67
    go_wp2
    go_ret
    exact ⟨rfl, rfl⟩

/-- The twelve months' days, read by an index. -/
theorem days_tab0 (w : World) : (Instr.index 127 (.agg #[.int .i64 31, .int .i64 28, .int .i64 31, .int .i64 30, .int .i64 31, .int .i64 30, .int .i64 31, .int .i64 31, .int .i64 30, .int .i64 31, .int .i64 30, .int .i64 31]) (.int .i64 0)).run Tryd.prog w = .ok (.int .i64 31) w := by kernel_rfl
theorem days_tab1 (w : World) : (Instr.index 127 (.agg #[.int .i64 31, .int .i64 28, .int .i64 31, .int .i64 30, .int .i64 31, .int .i64 30, .int .i64 31, .int .i64 31, .int .i64 30, .int .i64 31, .int .i64 30, .int .i64 31]) (.int .i64 1)).run Tryd.prog w = .ok (.int .i64 28) w := by kernel_rfl
theorem days_tab2 (w : World) : (Instr.index 127 (.agg #[.int .i64 31, .int .i64 28, .int .i64 31, .int .i64 30, .int .i64 31, .int .i64 30, .int .i64 31, .int .i64 31, .int .i64 30, .int .i64 31, .int .i64 30, .int .i64 31]) (.int .i64 2)).run Tryd.prog w = .ok (.int .i64 31) w := by kernel_rfl
theorem days_tab3 (w : World) : (Instr.index 127 (.agg #[.int .i64 31, .int .i64 28, .int .i64 31, .int .i64 30, .int .i64 31, .int .i64 30, .int .i64 31, .int .i64 31, .int .i64 30, .int .i64 31, .int .i64 30, .int .i64 31]) (.int .i64 3)).run Tryd.prog w = .ok (.int .i64 30) w := by kernel_rfl
theorem days_tab4 (w : World) : (Instr.index 127 (.agg #[.int .i64 31, .int .i64 28, .int .i64 31, .int .i64 30, .int .i64 31, .int .i64 30, .int .i64 31, .int .i64 31, .int .i64 30, .int .i64 31, .int .i64 30, .int .i64 31]) (.int .i64 4)).run Tryd.prog w = .ok (.int .i64 31) w := by kernel_rfl
theorem days_tab5 (w : World) : (Instr.index 127 (.agg #[.int .i64 31, .int .i64 28, .int .i64 31, .int .i64 30, .int .i64 31, .int .i64 30, .int .i64 31, .int .i64 31, .int .i64 30, .int .i64 31, .int .i64 30, .int .i64 31]) (.int .i64 5)).run Tryd.prog w = .ok (.int .i64 30) w := by kernel_rfl
theorem days_tab6 (w : World) : (Instr.index 127 (.agg #[.int .i64 31, .int .i64 28, .int .i64 31, .int .i64 30, .int .i64 31, .int .i64 30, .int .i64 31, .int .i64 31, .int .i64 30, .int .i64 31, .int .i64 30, .int .i64 31]) (.int .i64 6)).run Tryd.prog w = .ok (.int .i64 31) w := by kernel_rfl
theorem days_tab7 (w : World) : (Instr.index 127 (.agg #[.int .i64 31, .int .i64 28, .int .i64 31, .int .i64 30, .int .i64 31, .int .i64 30, .int .i64 31, .int .i64 31, .int .i64 30, .int .i64 31, .int .i64 30, .int .i64 31]) (.int .i64 7)).run Tryd.prog w = .ok (.int .i64 31) w := by kernel_rfl
theorem days_tab8 (w : World) : (Instr.index 127 (.agg #[.int .i64 31, .int .i64 28, .int .i64 31, .int .i64 30, .int .i64 31, .int .i64 30, .int .i64 31, .int .i64 31, .int .i64 30, .int .i64 31, .int .i64 30, .int .i64 31]) (.int .i64 8)).run Tryd.prog w = .ok (.int .i64 30) w := by kernel_rfl
theorem days_tab9 (w : World) : (Instr.index 127 (.agg #[.int .i64 31, .int .i64 28, .int .i64 31, .int .i64 30, .int .i64 31, .int .i64 30, .int .i64 31, .int .i64 31, .int .i64 30, .int .i64 31, .int .i64 30, .int .i64 31]) (.int .i64 9)).run Tryd.prog w = .ok (.int .i64 31) w := by kernel_rfl
theorem days_tab10 (w : World) : (Instr.index 127 (.agg #[.int .i64 31, .int .i64 28, .int .i64 31, .int .i64 30, .int .i64 31, .int .i64 30, .int .i64 31, .int .i64 31, .int .i64 30, .int .i64 31, .int .i64 30, .int .i64 31]) (.int .i64 10)).run Tryd.prog w = .ok (.int .i64 30) w := by kernel_rfl
theorem days_tab11 (w : World) : (Instr.index 127 (.agg #[.int .i64 31, .int .i64 28, .int .i64 31, .int .i64 30, .int .i64 31, .int .i64 30, .int .i64 31, .int .i64 31, .int .i64 30, .int .i64 31, .int .i64 30, .int .i64 31]) (.int .i64 11)).run Tryd.prog w = .ok (.int .i64 31) w := by kernel_rfl
theorem days_tab (k : Nat) (hk : k < 12) (x : Int) (hx : ([31, 28, 31, 30, 31, 30, 31, 31, 30, 31, 30, 31] : List Int)[k]? = some x) (w : World) :
    (Instr.index 127 (.agg #[.int .i64 31, .int .i64 28, .int .i64 31, .int .i64 30, .int .i64 31, .int .i64 30, .int .i64 31, .int .i64 31, .int .i64 30, .int .i64 31, .int .i64 30, .int .i64 31]) (.int .i64 k)).run Tryd.prog w = .ok (.int .i64 x) w := by
  match k, hk with
  | 0, _ => simp at hx; subst hx; exact days_tab0 w
  | 1, _ => simp at hx; subst hx; exact days_tab1 w
  | 2, _ => simp at hx; subst hx; exact days_tab2 w
  | 3, _ => simp at hx; subst hx; exact days_tab3 w
  | 4, _ => simp at hx; subst hx; exact days_tab4 w
  | 5, _ => simp at hx; subst hx; exact days_tab5 w
  | 6, _ => simp at hx; subst hx; exact days_tab6 w
  | 7, _ => simp at hx; subst hx; exact days_tab7 w
  | 8, _ => simp at hx; subst hx; exact days_tab8 w
  | 9, _ => simp at hx; subst hx; exact days_tab9 w
  | 10, _ => simp at hx; subst hx; exact days_tab10 w
  | 11, _ => simp at hx; subst hx; exact days_tab11 w
  | n + 12, h => omega

set_option maxRecDepth 100000 in
theorem days_lit (y : Int) (m : Nat) (hm1 : 1 ≤ m) (hm : m ≤ 12) (h2 : m ≠ 2) (w : World) :
    Calls Tryd.prog 67 #[.int .i64 y, .int .i64 m] w fun e w' => e = .returned (.int .i64 (dm y m)) ∧ w = w' := by
  obtain ⟨x, hx⟩ : ∃ x, ([31, 28, 31, 30, 31, 30, 31, 31, 30, 31, 30, 31] : List Int)[m - 1]? = some x := by
    rw [List.getElem?_eq_getElem (by simp; omega)]; exact ⟨_, rfl⟩
  have hd : dm y m = x := by
    have : m = 1 ∨ m = 3 ∨ m = 4 ∨ m = 5 ∨ m = 6 ∨ m = 7 ∨ m = 8 ∨ m = 9 ∨ m = 10 ∨ m = 11 ∨ m = 12 := by omega
    rcases this with rfl | rfl | rfl | rfl | rfl | rfl | rfl | rfl | rfl | rfl | rfl <;> simp at hx <;> subst hx <;> simp [dm]
  rw [hd]
  have ht := days_tab (m - 1) (by omega) x hx
  have e1 : ((m - 1 : Nat) : Int) = (m : Int) - 1 := by omega
  rw [e1] at ht
  clear hx hd e1
  have c1 : ¬ (m : Int) < 1 := by omega
  have c2 : ¬ (12 : Int) < m := by omega
  have c3 : ((m : Int) == 2) = false := by simp; omega
  go_enter Tryd.func67, Tryd.ntmps67
  go_wp2
  go_ret
  exact ⟨rfl, rfl⟩

set_option maxRecDepth 100000 in
theorem days_2 (y : Int) (w : World) :
    Calls Tryd.prog 67 #[.int .i64 y, .int .i64 2] w fun e w' => e = .returned (.int .i64 (28 + lq y)) ∧ w = w' := by
  by_cases hl : lp y = true
  · rw [lq_true hl]
    go_enter Tryd.func67, Tryd.ntmps67
    go_wp2_with (go_at_call 94; refine (leap_any _ _).mono ?_; rw [hl]; rintro e w' ⟨rfl, rfl⟩)
    go_ret
    exact ⟨rfl, rfl⟩
  · have hl' : lp y = false := by simpa using hl
    rw [lq_false hl']
    clear hl
    have ht := days_tab1 w
    go_enter Tryd.func67, Tryd.ntmps67
    go_wp2_with (go_at_call 94; refine (leap_any _ _).mono ?_; rw [hl']; rintro e w' ⟨rfl, rfl⟩)
    go_ret
    exact ⟨rfl, rfl⟩

theorem days_any (y m : Int) (w : World) :
    Calls Tryd.prog 67 #[.int .i64 y, .int .i64 m] w fun e w' => e = .returned (.int .i64 (dm y m)) ∧ w = w' := by
  by_cases h : m < 1 ∨ 12 < m
  · rw [dm_out y m h]; exact days_out y m w h
  · by_cases h2 : m = 2
    · subst h2; rw [show dm y 2 = 28 + lq y by simp [dm]]; exact days_2 y w
    · obtain ⟨k, rfl⟩ : ∃ k : Nat, m = k := ⟨m.toNat, by omega⟩
      exact days_lit y k (by omega) (by omega) (by omega) w

theorem ahead_any (y : Int) (w : World) (h1 : 1 ≤ y) (h2 : y ≤ 20000) :
    Calls Tryd.prog 66 #[.int .i64 y] w fun e w' => e = .returned (.int .i64 (ah y)) ∧ w = w' := by
  go_enter Tryd.func66, Tryd.ntmps66
  go_wp2
  go_ret
  exact ⟨rfl, rfl⟩

/-- What cal.Of answers of a minute of the calendar: D its day, R its minute within the day, M within the hour. -/
def SomeDate (D R M : Int) (e : Ending) : Prop := ∃ y m d : Int, e = .returned (.tuple #[.agg #[.int .i64 y, .int .i64 m, .int .i64 d, .int .i64 (R / 60), .int .i64 M, .int .i64 ((D + 1) % 7)], .int .i64 0]) ∧ IsDay D y m d

theorem of_out (n : Int) (w : World) (h : n < -1035593280 ∨ 4223371679 < n) :
    Calls Tryd.prog 23 #[.int .i64 n] w fun e w' =>
      e = .returned (.tuple #[.agg #[.int .i64 0, .int .i64 0, .int .i64 0, .int .i64 0, .int .i64 0, .int .i64 0], .int .i64 1]) ∧ Below w.heap.size w w' := by
  rcases h with h | h
  · go_enter Tryd.func23, Tryd.ntmps23
    go_wp2
    exact bodyPost_ret (v := .tuple #[.agg #[.int .i64 0, .int .i64 0, .int .i64 0, .int .i64 0, .int .i64 0, .int .i64 0], .int .i64 1]) (by simp [results, Tryd.results23, go_sem]) rfl ⟨rfl, (Below.refl _ _).alloc (Nat.le_refl _) _⟩
  · have h' : ¬ n < -1035593280 := by omega
    go_enter Tryd.func23, Tryd.ntmps23
    go_wp2
    exact bodyPost_ret (v := .tuple #[.agg #[.int .i64 0, .int .i64 0, .int .i64 0, .int .i64 0, .int .i64 0, .int .i64 0], .int .i64 1]) (by simp [results, Tryd.results23, go_sem]) rfl ⟨rfl, (Below.refl _ _).alloc (Nat.le_refl _) _⟩

set_option maxRecDepth 100000 in
theorem of_in (n D R M : Int) (w : World) (h1 : -1035593280 ≤ n) (h2 : n ≤ 4223371679) (hD : Hid ((n + 1035593280) / 1440 = D)) (hR : Hid ((n + 1035593280) % 1440 = R)) (hM : Hid ((n + 1035593280) % 60 = M)) :
    Calls Tryd.prog 23 #[.int .i64 n] w fun e w' => SomeDate D R M e ∧ Below w.heap.size w w' := by
  have hB : D < 3652059 := by have := hD.out; omega
  have hB0 : 0 ≤ D := by have := hD.out; omega
  go_enter Tryd.func23, Tryd.ntmps23
  go_wp2
  rw [hR.out, hM.out, hD.out]
  clear hR hM hD
  obtain ⟨g1, g2⟩ := guess D (by omega)
  go_loopg [] (10000 - (400 * (D / 146097) + D % 146097 / 366 + 1)).toNat (fun k wr => ∃ y : Int, 1 ≤ y ∧ ah y ≤ D ∧ k = (10000 - y).toNat ∧ wr = (w.alloc (.cells #[.int .i64 0, .int .i64 0, .int .i64 0, .int .i64 0, .int .i64 0, .int .i64 0] 53)).alloc (.cells #[.int .i64 y, .int .i64 0, .int .i64 0, .int .i64 (R / 60), .int .i64 M, .int .i64 ((D + 1) % 7)] 53))
  case atStart => exact ⟨_, g1, g2, rfl, rfl⟩
  case round =>
    clear g1 g2
    obtain ⟨y, hy1, hy2, hk, rfl⟩ := hrel
    have hy3 : y ≤ 9999 := by
      by_cases c : y ≤ 9999
      · exact c
      · have := ah_mono (a := 10000) (b := y) (by omega) (by omega); rw [ah_10000] at this; omega
    have HK := Lib.hid hk
    clear hk
    by_cases hc : ah (y + 1) ≤ D
    · go_wp2_with (go_at_call 66; refine (ahead_any _ _ (by omega) (by omega)).mono ?_; rintro e w' ⟨rfl, rfl⟩)
      go_roundg ((10000 - (y + 1)).toNat)
      case measure => have := HK.out; omega
      case rel => exact ⟨y + 1, by omega, hc, rfl, rfl⟩
    · have hy4 := ah_succ y hy1
      have hlq := lq_01 y
      have hb := ah_bd y hy1 (by omega)
      have hlt : D - ah y < 365 + lq y := by omega
      have hcd : decide (ah (y + 1) ≤ D) = false := by simpa using hc
      have H4 := Lib.hid hy4
      clear hy4 hc
      go_wp2_with (first | (go_at_call 66; refine (ahead_any _ _ (by omega) (by omega)).mono ?_; rintro e w' ⟨rfl, rfl⟩))
      go_loopg [5] 12 (fun k t wr => ∃ m : Int, 1 ≤ m ∧ m ≤ 12 ∧ 0 ≤ D - ah y - cum y m ∧ t = .int .i64 (D - ah y - cum y m) ∧ k = (13 - m).toNat ∧ wr = (w.alloc (.cells #[.int .i64 0, .int .i64 0, .int .i64 0, .int .i64 0, .int .i64 0, .int .i64 0] 53)).alloc (.cells #[.int .i64 y, .int .i64 m, .int .i64 0, .int .i64 (R / 60), .int .i64 M, .int .i64 ((D + 1) % 7)] 53))
      case atStart => exact ⟨1, by omega, by omega, by rw [cum_1]; omega, by rw [cum_1, Int.sub_zero], rfl, rfl⟩
      case round =>
        obtain ⟨m, hm1, hm2, hm3, rfl, hm4, rfl⟩ := hrel
        have HM4 := Lib.hid hm4
        clear hm4
        have cb := cum_bd y m hm1
        have db := dm_lo y m hm1 hm2
        have cs := cum_succ y m hm1 hm2
        by_cases hc : dm y m ≤ D - ah y - cum y m
        · have hm12 : m < 12 := by
            by_cases e : m < 12
            · exact e
            · obtain rfl : m = 12 := by omega
              rw [show (12 : Int) + 1 = 13 by rfl, cum_13] at cs; omega
          have CS := Lib.hid cs
          clear cs
          go_wp2_with (go_at_call 67; refine (days_any _ _ _).mono ?_; rintro e w' ⟨rfl, rfl⟩)
          go_roundg ((13 - (m + 1)).toNat)
          case measure => have := HM4.out; omega
          case rel => exact ⟨m + 1, by omega, by omega, by rw [CS.out]; omega, by rw [CS.out]; go_num, rfl, rfl⟩
        · have hcd2 : decide (dm y m ≤ D - ah y - cum y m) = false := by simpa using hc
          have HD : IsDay D y m (D - ah y - cum y m + 1) := ⟨hy1, hm1, hm2, by omega, by omega, by omega⟩
          have CS := Lib.hid cs
          clear cs hc
          go_wp2_with (go_at_call 67; refine (days_any _ _ _).mono ?_; rintro e w' ⟨rfl, rfl⟩)
          refine bodyPost_ret (v := .tuple #[.agg #[.int .i64 y, .int .i64 m, .int .i64 (D - ah y - cum y m + 1), .int .i64 (R / 60), .int .i64 M, .int .i64 ((D + 1) % 7)], .int .i64 0]) (by simp [results, Tryd.results23, go_sem]) rfl ⟨⟨y, m, _, rfl, HD⟩, ?_⟩
          exact ((Below.refl _ _).alloc (Nat.le_refl _) _).alloc (by simp) _

end Go.Proofs.YtdpaiaeaamokeaaDoor.Cal

namespace Go.Proofs.YtdpaiaeaamokeaaDoor.Cal
open Go.RowKit Go

/-- May a date be? -/
def okd (y m d h mi : Int) : Prop := 1 ≤ y ∧ y ≤ 9999 ∧ 1 ≤ d ∧ d ≤ dm y m ∧ 0 ≤ h ∧ h ≤ 23 ∧ 0 ≤ mi ∧ mi ≤ 59

set_option maxRecDepth 100000 in
theorem minute_out1 (y m d h mi wd : Int) (w : World) (g1 : decide (y < 1) = true) :
    Calls Tryd.prog 54 #[.agg #[.int .i64 y, .int .i64 m, .int .i64 d, .int .i64 h, .int .i64 mi, .int .i64 wd]] w fun e w' =>
      e = .returned (.tuple #[.int .i64 0, .int .i64 1]) ∧ Below w.heap.size w w' := by
  go_enter Tryd.func54, Tryd.ntmps54
  go_wp2
  go_quiet ((go_at_call 67; exact quiet_same (days_any _ _ _)))
  go_wp2
  go_ret2
  exact ⟨rfl, below_alloc1 _ _ _⟩

set_option maxRecDepth 100000 in
theorem minute_out2 (y m d h mi wd : Int) (w : World) (g1 : decide (y < 1) = false) (g2 : decide (9999 < y) = true) :
    Calls Tryd.prog 54 #[.agg #[.int .i64 y, .int .i64 m, .int .i64 d, .int .i64 h, .int .i64 mi, .int .i64 wd]] w fun e w' =>
      e = .returned (.tuple #[.int .i64 0, .int .i64 1]) ∧ Below w.heap.size w w' := by
  go_enter Tryd.func54, Tryd.ntmps54
  go_wp2
  go_quiet ((go_at_call 67; exact quiet_same (days_any _ _ _)))
  go_wp2
  go_ret2
  exact ⟨rfl, below_alloc1 _ _ _⟩

set_option maxRecDepth 100000 in
theorem minute_out3 (y m d h mi wd : Int) (w : World) (g1 : decide (y < 1) = false) (g2 : decide (9999 < y) = false) (g3 : decide (d < 1) = true) :
    Calls Tryd.prog 54 #[.agg #[.int .i64 y, .int .i64 m, .int .i64 d, .int .i64 h, .int .i64 mi, .int .i64 wd]] w fun e w' =>
      e = .returned (.tuple #[.int .i64 0, .int .i64 1]) ∧ Below w.heap.size w w' := by
  go_enter Tryd.func54, Tryd.ntmps54
  go_wp2
  go_quiet ((go_at_call 67; exact quiet_same (days_any _ _ _)))
  go_wp2
  go_ret2
  exact ⟨rfl, below_alloc1 _ _ _⟩

set_option maxRecDepth 100000 in
theorem minute_out4 (y m d h mi wd : Int) (w : World) (g1 : decide (y < 1) = false) (g2 : decide (9999 < y) = false) (g3 : decide (d < 1) = false) (g4 : decide (dm y m < d) = true) :
    Calls Tryd.prog 54 #[.agg #[.int .i64 y, .int .i64 m, .int .i64 d, .int .i64 h, .int .i64 mi, .int .i64 wd]] w fun e w' =>
      e = .returned (.tuple #[.int .i64 0, .int .i64 1]) ∧ Below w.heap.size w w' := by
  go_enter Tryd.func54, Tryd.ntmps54
  go_wp2
  go_quiet ((go_at_call 67; exact quiet_same (days_any _ _ _)))
  go_wp2
  go_ret2
  exact ⟨rfl, below_alloc1 _ _ _⟩

set_option maxRecDepth 100000 in
theorem minute_out5 (y m d h mi wd : Int) (w : World) (g1 : decide (y < 1) = false) (g2 : decide (9999 < y) = false) (g3 : decide (d < 1) = false) (g4 : decide (dm y m < d) = false) (g5 : decide (h < 0) = true) :
    Calls Tryd.prog 54 #[.agg #[.int .i64 y, .int .i64 m, .int .i64 d, .int .i64 h, .int .i64 mi, .int .i64 wd]] w fun e w' =>
      e = .returned (.tuple #[.int .i64 0, .int .i64 1]) ∧ Below w.heap.size w w' := by
  go_enter Tryd.func54, Tryd.ntmps54
  go_wp2
  go_quiet ((go_at_call 67; exact quiet_same (days_any _ _ _)))
  go_wp2
  go_ret2
  exact ⟨rfl, below_alloc1 _ _ _⟩

set_option maxRecDepth 100000 in
theorem minute_out6 (y m d h mi wd : Int) (w : World) (g1 : decide (y < 1) = false) (g2 : decide (9999 < y) = false) (g3 : decide (d < 1) = false) (g4 : decide (dm y m < d) = false) (g5 : decide (h < 0) = false) (g6 : decide (23 < h) = true) :
    Calls Tryd.prog 54 #[.agg #[.int .i64 y, .int .i64 m, .int .i64 d, .int .i64 h, .int .i64 mi, .int .i64 wd]] w fun e w' =>
      e = .returned (.tuple #[.int .i64 0, .int .i64 1]) ∧ Below w.heap.size w w' := by
  go_enter Tryd.func54, Tryd.ntmps54
  go_wp2
  go_quiet ((go_at_call 67; exact quiet_same (days_any _ _ _)))
  go_wp2
  go_ret2
  exact ⟨rfl, below_alloc1 _ _ _⟩

set_option maxRecDepth 100000 in
theorem minute_out7 (y m d h mi wd : Int) (w : World) (g1 : decide (y < 1) = false) (g2 : decide (9999 < y) = false) (g3 : decide (d < 1) = false) (g4 : decide (dm y m < d) = false) (g5 : decide (h < 0) = false) (g6 : decide (23 < h) = false) (g7 : decide (mi < 0) = true) :
    Calls Tryd.prog 54 #[.agg #[.int .i64 y, .int .i64 m, .int .i64 d, .int .i64 h, .int .i64 mi, .int .i64 wd]] w fun e w' =>
      e = .returned (.tuple #[.int .i64 0, .int .i64 1]) ∧ Below w.heap.size w w' := by
  go_enter Tryd.func54, Tryd.ntmps54
  go_wp2
  go_quiet ((go_at_call 67; exact quiet_same (days_any _ _ _)))
  go_wp2
  go_ret2
  exact ⟨rfl, below_alloc1 _ _ _⟩

set_option maxRecDepth 100000 in
theorem minute_out8 (y m d h mi wd : Int) (w : World) (g1 : decide (y < 1) = false) (g2 : decide (9999 < y) = false) (g3 : decide (d < 1) = false) (g4 : decide (dm y m < d) = false) (g5 : decide (h < 0) = false) (g6 : decide (23 < h) = false) (g7 : decide (mi < 0) = false) (g8 : decide (59 < mi) = true) :
    Calls Tryd.prog 54 #[.agg #[.int .i64 y, .int .i64 m, .int .i64 d, .int .i64 h, .int .i64 mi, .int .i64 wd]] w fun e w' =>
      e = .returned (.tuple #[.int .i64 0, .int .i64 1]) ∧ Below w.heap.size w w' := by
  go_enter Tryd.func54, Tryd.ntmps54
  go_wp2
  go_quiet ((go_at_call 67; exact quiet_same (days_any _ _ _)))
  go_wp2
  go_ret2
  exact ⟨rfl, below_alloc1 _ _ _⟩

end Go.Proofs.YtdpaiaeaamokeaaDoor.Cal

namespace Go.Proofs.YtdpaiaeaamokeaaDoor.Cal
open Go.RowKit Go

set_option maxRecDepth 100000 in
theorem minute_in (y m d h mi wd : Int) (w : World) (hv : okd y m d h mi) :
    Calls Tryd.prog 54 #[.agg #[.int .i64 y, .int .i64 m, .int .i64 d, .int .i64 h, .int .i64 mi, .int .i64 wd]] w fun e w' =>
      e = .returned (.tuple #[.int .i64 (-1035593280 + (ah y + d - 1 + cum y m) * 1440 + 60 * h + mi), .int .i64 0]) ∧ Below w.heap.size w w' := by
  obtain ⟨h1, h2, h3, h4, h5, h6, h7, h8⟩ := hv
  obtain ⟨hm1, hm12⟩ := dm_in (y := y) (m := m) (by omega)
  have hb := ah_bd y h1 (by omega)
  have hd := dm_bd y m
  have hm0 := cum_bd y m hm1
  have g1 : decide (y < 1) = false := by simpa using h1
  have g2 : decide (9999 < y) = false := by simpa using h2
  have g3 : decide (d < 1) = false := by simpa using h3
  have g4 : decide (dm y m < d) = false := by simpa using h4
  have g5 : decide (h < 0) = false := by simpa using h5
  have g6 : decide (23 < h) = false := by simpa using h6
  have g7 : decide (mi < 0) = false := by simpa using h7
  have g8 : decide (59 < mi) = false := by simpa using h8
  go_enter Tryd.func54, Tryd.ntmps54
  go_wp2
  go_quiet ((go_at_call 67; exact quiet_same (days_any _ _ _)))
  rename Nat => n1
  go_wp2
  go_quiet ((go_at_call 66; exact quiet_same2 (ahead_any _ _ h1 (by omega))))
  go_wp2
  go_loopg [4, 5] 13 (fun k t c wr => ∃ j : Int, 1 ≤ j ∧ j ≤ m ∧ t = .int .i64 (ah y + d - 1 + cum y j) ∧ c = .int .i64 j ∧ k = (14 - j).toNat ∧ wr = (w.alloc (.cells #[.int .i64 y, .int .i64 m, .int .i64 d, .int .i64 h, .int .i64 mi, .int .i64 wd] 53)).drewN (n1 + nq))
  case atStart => exact ⟨1, by omega, hm1, by rw [cum_1, Int.add_zero], rfl, rfl, by rw [World.drewN_drewN]⟩
  case round =>
    obtain ⟨j, hj1, hj2, rfl, rfl, hk, rfl⟩ := hrel
    have HK := Lib.hid hk
    clear hk
    have cb := cum_bd y j hj1
    by_cases hlt : j < m
    · have cs := cum_succ y j hj1 (by omega)
      have db := dm_lo y j hj1 (by omega)
      have CS := Lib.hid cs
      clear cs
      go_wp2_with (go_at_call 67; refine (days_any _ _ _).mono ?_; rintro e w' ⟨rfl, rfl⟩)
      go_roundg ((14 - (j + 1)).toNat)
      case measure => have := HK.out; omega
      case rel => exact ⟨j + 1, by omega, by omega, by rw [CS.out]; go_num, rfl, rfl, rfl⟩
    · have hjm : m = j := by omega
      subst hjm
      have cb12 : cum y m ≤ 366 := cb.2
      go_wp2
      go_ret2
      exact ⟨rfl, below_alloc1 _ _ _⟩

theorem minute_out (y m d h mi wd : Int) (w : World) (hv : ¬ okd y m d h mi) :
    Calls Tryd.prog 54 #[.agg #[.int .i64 y, .int .i64 m, .int .i64 d, .int .i64 h, .int .i64 mi, .int .i64 wd]] w fun e w' =>
      e = .returned (.tuple #[.int .i64 0, .int .i64 1]) ∧ Below w.heap.size w w' := by
  by_cases g1 : y < 1
  · exact minute_out1 y m d h mi wd w (by simpa using g1)
  by_cases g2 : 9999 < y
  · exact minute_out2 y m d h mi wd w (by simpa using g1) (by simpa using g2)
  by_cases g3 : d < 1
  · exact minute_out3 y m d h mi wd w (by simpa using g1) (by simpa using g2) (by simpa using g3)
  by_cases g4 : dm y m < d
  · exact minute_out4 y m d h mi wd w (by simpa using g1) (by simpa using g2) (by simpa using g3) (by simpa using g4)
  by_cases g5 : h < 0
  · exact minute_out5 y m d h mi wd w (by simpa using g1) (by simpa using g2) (by simpa using g3) (by simpa using g4) (by simpa using g5)
  by_cases g6 : 23 < h
  · exact minute_out6 y m d h mi wd w (by simpa using g1) (by simpa using g2) (by simpa using g3) (by simpa using g4) (by simpa using g5) (by simpa using g6)
  by_cases g7 : mi < 0
  · exact minute_out7 y m d h mi wd w (by simpa using g1) (by simpa using g2) (by simpa using g3) (by simpa using g4) (by simpa using g5) (by simpa using g6) (by simpa using g7)
  by_cases g8 : 59 < mi
  · exact minute_out8 y m d h mi wd w (by simpa using g1) (by simpa using g2) (by simpa using g3) (by simpa using g4) (by simpa using g5) (by simpa using g6) (by simpa using g7) (by simpa using g8)
  exact absurd ⟨by omega, by omega, by omega, by omega, by omega, by omega, by omega, by omega⟩ hv

end Go.Proofs.YtdpaiaeaamokeaaDoor.Cal

