/- What an expression of a day of the month and a day of the week means; no program in sight. -/
import Derived.Test.YtdpaiaeaamokeaaDoorCronNextP
namespace Go.Proofs.YtdpaiaeaamokeaaDoor.Cron
open Go.RowKit Go Go.Proofs.YtdpaiaeaamokeaaDoor.Cal

def exD (d wk : Nat) (sd sw : Bool) : Ex := ⟨spanN 0 59, spanN 0 23, if sd then spanN 1 31 else 2 ^ d, spanN 1 12, if sw then spanN 0 6 else 2 ^ wk, sd, sw⟩
def dayTxt (d : Nat) (sd : Bool) : List UInt8 := if sd then [42] else [UInt8.ofNat (48 + d / 10), UInt8.ofNat (48 + d % 10)]
def wkTxt (wk : Nat) (sw : Bool) : List UInt8 := if sw then [42] else [UInt8.ofNat (48 + wk)]
def daysTxt (d wk : Nat) (sd sw : Bool) : List UInt8 := [42, 32, 42, 32] ++ dayTxt d sd ++ [32, 42, 32] ++ wkTxt wk sw
theorem days_pex : ∀ d, d < 32 → 1 ≤ d → ∀ wk, wk < 7 → ∀ sd sw : Bool, pex (daysTxt d wk sd sw) = some (exD d wk sd sw) := by decide +kernel
theorem exD_match (d wk : Nat) (sd sw : Bool) (n D y m dd : Int) (h1 : -1035593280 ≤ n) (h2 : n ≤ 4223371679) (hD : (n + 1035593280) / 1440 = D) (hd : IsDay D y m dd) :
    mt (exD d wk sd sw) n = (if sd && sw then true else if sd then decide ((D + 1) % 7 = wk) else if sw then decide (dd = d) else (decide (dd = d) || decide ((D + 1) % 7 = wk))) := by
  have a1 := hd.m1
  have a2 := hd.m12
  have a3 := hd.d1
  have a4 := hd.dd
  have a5 := (dm_bd y m).2
  have hd' := hd
  rw [← hD] at hd'
  rw [mt_at _ n y m dd h1 h2 hd', hD]
  simp only [exD, dayOk]
  rw [span_test 0 23 _ (by omega), span_test 0 59 _ (by omega), span_test 1 12 _ (by omega)]
  have e1 : decide (0 ≤ ((n + 1035593280) % 1440 / 60).toNat ∧ ((n + 1035593280) % 1440 / 60).toNat ≤ 23) = true := by simp; omega
  have e2 : decide (0 ≤ ((n + 1035593280) % 60).toNat ∧ ((n + 1035593280) % 60).toNat ≤ 59) = true := by simp; omega
  have e3 : decide (1 ≤ m.toNat ∧ m.toNat ≤ 12) = true := by simp; omega
  rw [e1, e2, e3]
  have f1 : (2 ^ d).testBit dd.toNat = decide (dd = d) := by
    rw [Nat.testBit_two_pow]
    by_cases c : dd = d
    · simp [c]
    · have : ¬ d = dd.toNat := by omega
      simp [c, this]
  have f2 : (2 ^ wk).testBit ((D + 1) % 7).toNat = decide ((D + 1) % 7 = wk) := by
    rw [Nat.testBit_two_pow]
    by_cases c : (D + 1) % 7 = wk
    · simp [c]
    · have : ¬ wk = ((D + 1) % 7).toNat := by omega
      simp [c, this]
  cases sd <;> cases sw <;> simp [f1, f2]
end Go.Proofs.YtdpaiaeaamokeaaDoor.Cron
