/- What Next and Prev answer, by the minutes that match: the steps of their loops, no program in sight. -/
import Derived.Test.YtlldcoldnojbjaaGreatDoorCronEarly
namespace Go.Proofs.YtlldcoldnojbjaaGreatDoor.Cron
open Go.RowKit Go Go.Proofs.YtlldcoldnojbjaaGreatDoor.Cal

/-- What Next answers. -/
def NextIs (e : Ex) (a r c : Int) : Prop :=
  ((a < -1035593280 ∨ 4223371679 < a) ∧ r = 0 ∧ c = 1) ∨
  (-1035593280 ≤ a ∧ a ≤ 4223371679 ∧ c = 0 ∧ a < r ∧ r ≤ a + 4216320 ∧ isMatch e r ∧ ∀ m, a < m → m < r → ¬ isMatch e m) ∨
  (-1035593280 ≤ a ∧ a ≤ 4223371679 ∧ c = 28 ∧ r = 0 ∧ ∀ m, a < m → m ≤ a + 4216320 → ¬ isMatch e m)
def NextPost (e : Ex) (a : Int) (x : Ending) : Prop := ∃ r c : Int, x = .returned (.tuple #[.int .i64 r, .int .i64 c]) ∧ NextIs e a r c
/-- What Prev answers. -/
def PrevIs (e : Ex) (u a r c : Int) : Prop :=
  ((u < -1035593280 ∨ 4223371679 < u ∨ u ≤ a) ∧ r = 0 ∧ c = 1) ∨
  (-1035593280 ≤ u ∧ u ≤ 4223371679 ∧ a < u ∧ c = 0 ∧ a < r ∧ u - 4216320 ≤ r ∧ r ≤ u ∧ isMatch e r ∧ ∀ m, r < m → m ≤ u → ¬ isMatch e m) ∨
  (-1035593280 ≤ u ∧ u ≤ 4223371679 ∧ a < u ∧ c = 28 ∧ r = 0 ∧ ∀ m, a < m → u - 4216320 ≤ m → m ≤ u → ¬ isMatch e m)
def PrevPost (e : Ex) (u a : Int) (x : Ending) : Prop := ∃ r c : Int, x = .returned (.tuple #[.int .i64 r, .int .i64 c]) ∧ PrevIs e u a r c

theorem NextIs.uniq {e : Ex} {a r c r' c' : Int} (h : NextIs e a r c) (h' : NextIs e a r' c') : r = r' ∧ c = c' := by
  rcases h with ⟨h, h1, h2⟩ | ⟨h1, h2, h3, h4, h5, h6, h7⟩ | ⟨h1, h2, h3, h4, h5⟩ <;> rcases h' with ⟨k, k1, k2⟩ | ⟨k1, k2, k3, k4, k5, k6, k7⟩ | ⟨k1, k2, k3, k4, k5⟩
  any_goals omega
  · refine ⟨?_, by omega⟩
    rcases Int.lt_trichotomy r r' with hh | hh | hh
    · exact absurd h6 (k7 r h4 hh)
    · exact hh
    · exact absurd k6 (h7 r' k4 hh)
  · exact absurd h6 (k5 r h4 h5)
  · exact absurd k6 (h5 r' k4 k5)
theorem PrevIs.uniq {e : Ex} {u a r c r' c' : Int} (h : PrevIs e u a r c) (h' : PrevIs e u a r' c') : r = r' ∧ c = c' := by
  rcases h with ⟨h, h1, h2⟩ | ⟨h1, h2, h3, h4, h5, h6, h7, h8, h9⟩ | ⟨h1, h2, h3, h4, h5, h6⟩ <;> rcases h' with ⟨k, k1, k2⟩ | ⟨k1, k2, k3, k4, k5, k6, k7, k8, k9⟩ | ⟨k1, k2, k3, k4, k5, k6⟩
  any_goals omega
  · refine ⟨?_, by omega⟩
    rcases Int.lt_trichotomy r r' with hh | hh | hh
    · exact absurd k8 (h9 r' hh k7)
    · exact hh
    · exact absurd h8 (k9 r hh h7)
  · exact absurd h8 (k6 r h5 h6 h7)
  · exact absurd k8 (h6 r' k5 k6 k7)

theorem match_at (e : Ex) (n D y m d : Int) (h1 : -1035593280 ≤ n) (h2 : n ≤ 4223371679) (hD : (n + 1035593280) / 1440 = D) (hd : IsDay D y m d) :
    isMatch e n ↔ dayOk e.da e.mo e.wk e.ad e.aw m.toNat d.toNat ((D + 1) % 7).toNat = true ∧ mOk e.ho e.mi (n % 1440).toNat = true := by
  have hd' := hd
  rw [← hD] at hd'
  rw [← mt_iff, mt_at e n y m d h1 h2 hd', hD, Bool.and_eq_true, Bool.and_eq_true, mOk, Bool.and_eq_true,
    show ((n + 1035593280) % 1440 / 60).toNat = (n % 1440).toNat / 60 by omega, show ((n + 1035593280) % 60).toNat = (n % 1440).toNat % 60 by omega, and_assoc]

/-- None so far. -/
def NoneTo (e : Ex) (a p : Int) : Prop := ∀ n, a < n → n < p → n ≤ a + 4216320 → ¬ isMatch e n
theorem noneTo_start (e : Ex) (a : Int) : NoneTo e a (a + 1) := fun n h1 h2 => by omega
section
variable {e : Ex} {a p D y m d : Int} (hp : a < p) (h1 : -1035593280 ≤ p) (h2 : p ≤ 4223371679) (hD : (p + 1035593280) / 1440 = D) (hd : IsDay D y m d) (hN : NoneTo e a p)
include hD hd hN
theorem next_skip (hk : dayOk e.da e.mo e.wk e.ad e.aw m.toNat d.toNat ((D + 1) % 7).toNat = false) : NoneTo e a (p - p % 1440 + 1440) := by
  intro n k1 k2 k3 hm
  by_cases hn : n < p
  · exact hN n k1 hn k3 hm
  · have := (match_at e n D y m d hm.1 hm.2.1 (by omega) hd).1 hm
    rw [hk] at this
    exact absurd this.1 (by simp)
theorem next_none (hk : IsEarly e.ho e.mi (p % 1440).toNat (-1)) : NoneTo e a (p - p % 1440 + 1440) := by
  intro n k1 k2 k3 hm
  by_cases hn : n < p
  · exact hN n k1 hn k3 hm
  · have := (match_at e n D y m d hm.1 hm.2.1 (by omega) hd).1 hm
    rcases hk with ⟨-, hk⟩ | ⟨_, hk, -⟩
    · rw [hk _ (by omega) (by omega)] at this
      exact absurd this.2 (by simp)
    · omega
theorem next_far (k : Nat) (hk : IsEarly e.ho e.mi (p % 1440).toNat k) (hf : a + 4216320 < p - p % 1440 + k) : NoneTo e a (p - p % 1440 + 1440) := by
  intro n k1 k2 k3 hm
  by_cases hn : n < p
  · exact hN n k1 hn k3 hm
  · have := (match_at e n D y m d hm.1 hm.2.1 (by omega) hd).1 hm
    rcases hk with ⟨hk, -⟩ | ⟨q, hk, h3, h4, h5, h6⟩
    · omega
    · rw [h6 _ (by omega) (by omega)] at this
      exact absurd this.2 (by simp)
include hp h1 h2
theorem next_hit (ha1 : -1035593280 ≤ a) (ha2 : a ≤ 4223371679) (hok : dayOk e.da e.mo e.wk e.ad e.aw m.toNat d.toNat ((D + 1) % 7).toNat = true) (k : Nat) (hk : IsEarly e.ho e.mi (p % 1440).toNat k) (hf : p - p % 1440 + k ≤ a + 4216320) : NextIs e a (p - p % 1440 + k) 0 := by
  rcases hk with ⟨hk, -⟩ | ⟨q, hk, h3, h4, h5, h6⟩
  · omega
  obtain rfl : k = q := by omega
  refine .inr (.inl ⟨ha1, ha2, rfl, by omega, hf, (match_at e _ D y m d (by omega) (by omega) (by omega) hd).2 ⟨hok, ?_⟩, fun n k1 k2 hm => ?_⟩)
  · rw [show ((p - p % 1440 + (k : Int)) % 1440).toNat = k by omega]; exact h5
  · by_cases hn : n < p
    · exact hN n k1 hn (by omega) hm
    · have := (match_at e n D y m d hm.1 hm.2.1 (by omega) hd).1 hm
      rw [h6 _ (by omega) (by omega)] at this
      exact absurd this.2 (by simp)
end
theorem next_out {e : Ex} {a p : Int} (ha1 : -1035593280 ≤ a) (ha2 : a ≤ 4223371679) (hN : NoneTo e a p) (hp : 4223371679 < p ∨ a + 4216320 < p) : NextIs e a 0 28 :=
  .inr (.inr ⟨ha1, ha2, rfl, rfl, fun n k1 k2 hm => hN n k1 (by have := hm.2.1; omega) k2 hm⟩)

/-- None so far, back. -/
def NoneBack (e : Ex) (u p l : Int) : Prop := ∀ n, p < n → n ≤ u → l ≤ n → ¬ isMatch e n
theorem noneBack_start (e : Ex) (u l : Int) : NoneBack e u u l := fun n h1 h2 => by omega
section
variable {e : Ex} {u p l D y m d : Int} (hp : p ≤ u) (h1 : -1035593280 ≤ p) (h2 : p ≤ 4223371679) (hD : (p + 1035593280) / 1440 = D) (hd : IsDay D y m d) (hN : NoneBack e u p l)
include hD hd hN
theorem prev_skip (hk : dayOk e.da e.mo e.wk e.ad e.aw m.toNat d.toNat ((D + 1) % 7).toNat = false) : NoneBack e u (p - p % 1440 - 1) l := by
  intro n k1 k2 k3 hm
  by_cases hn : p < n
  · exact hN n hn k2 k3 hm
  · have := (match_at e n D y m d hm.1 hm.2.1 (by omega) hd).1 hm
    rw [hk] at this
    exact absurd this.1 (by simp)
theorem prev_none (hk : IsLate e.ho e.mi (p % 1440).toNat (-1)) : NoneBack e u (p - p % 1440 - 1) l := by
  intro n k1 k2 k3 hm
  by_cases hn : p < n
  · exact hN n hn k2 k3 hm
  · have := (match_at e n D y m d hm.1 hm.2.1 (by omega) hd).1 hm
    rcases hk with ⟨-, hk⟩ | ⟨_, hk, -⟩
    · rw [hk _ (by omega)] at this
      exact absurd this.2 (by simp)
    · omega
theorem prev_far (k : Nat) (hk : IsLate e.ho e.mi (p % 1440).toNat k) (hf : p - p % 1440 + k < l) : NoneBack e u (p - p % 1440 - 1) l := by
  intro n k1 k2 k3 hm
  by_cases hn : p < n
  · exact hN n hn k2 k3 hm
  · have := (match_at e n D y m d hm.1 hm.2.1 (by omega) hd).1 hm
    rcases hk with ⟨hk, -⟩ | ⟨q, hk, h3, h5, h6⟩
    · omega
    · rw [h6 _ (by omega) (by omega)] at this
      exact absurd this.2 (by simp)
include hp h1 h2
theorem prev_hit (b : Int) (hl1 : l = b + 1 ∨ l = u - 4216320) (hl2 : b + 1 ≤ l) (hl3 : u - 4216320 ≤ l) (hb : b < u) (hu1 : -1035593280 ≤ u) (hu2 : u ≤ 4223371679) (hok : dayOk e.da e.mo e.wk e.ad e.aw m.toNat d.toNat ((D + 1) % 7).toNat = true) (k : Nat) (hk : IsLate e.ho e.mi (p % 1440).toNat k) (hf : l ≤ p - p % 1440 + k) : PrevIs e u b (p - p % 1440 + k) 0 := by
  rcases hk with ⟨hk, -⟩ | ⟨q, hk, h3, h5, h6⟩
  · omega
  obtain rfl : k = q := by omega
  refine .inr (.inl ⟨hu1, hu2, hb, rfl, by omega, by omega, by omega, (match_at e _ D y m d (by omega) (by omega) (by omega) hd).2 ⟨hok, ?_⟩, fun n k1 k2 hm => ?_⟩)
  · rw [show ((p - p % 1440 + (k : Int)) % 1440).toNat = k by omega]; exact h5
  · by_cases hn : p < n
    · exact hN n hn k2 (by omega) hm
    · have := (match_at e n D y m d hm.1 hm.2.1 (by omega) hd).1 hm
      rw [h6 _ (by omega) (by omega)] at this
      exact absurd this.2 (by simp)
end
theorem prev_out {e : Ex} {u p l b : Int} (hl1 : l = b + 1 ∨ l = u - 4216320) (hl2 : b + 1 ≤ l) (hl3 : u - 4216320 ≤ l) (hb : b < u) (hu1 : -1035593280 ≤ u) (hu2 : u ≤ 4223371679) (hN : NoneBack e u p l) (hp : p < -1035593280 ∨ p < l) : PrevIs e u b 0 28 :=
  .inr (.inr ⟨hu1, hu2, hb, rfl, rfl, fun n k1 k2 k3 hm => hN n (by have := hm.1; omega) k3 (by omega) hm⟩)
end Go.Proofs.YtlldcoldnojbjaaGreatDoor.Cron
