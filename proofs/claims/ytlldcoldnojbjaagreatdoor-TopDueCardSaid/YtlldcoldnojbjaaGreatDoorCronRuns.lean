/- What a cron field's text is: its runs, joined by commas: plain lists of bytes, no program in sight. -/
import Derived.Test.YtlldcoldnojbjaaGreatDoorCronSpec
import Derived.Lib.Join
import Derived.Lib.ItoaNum
namespace Go.Proofs.YtlldcoldnojbjaaGreatDoor.Cron
open Go.RowKit Go

/-- A number below a hundred, as digits. -/
def dec2 (n : Nat) : List UInt8 := if n < 10 then [UInt8.ofNat (48 + n)] else [UInt8.ofNat (48 + n / 10), UInt8.ofNat (48 + n % 10)]
theorem dec2_dig (n : Nat) (h : n < 100) : Lib.decDigits n = dec2 n := by
  unfold dec2
  split
  · exact Lib.decDigits_one ‹_›
  · exact Lib.decDigits_two ‹_› h
/-- Where the run that begins at n ends. -/
def runEnd (b hi : Nat) : Nat → Nat → Nat
  | 0, n => n
  | f + 1, n => if b.testBit (n + 1) then runEnd b hi f (n + 1) else n
def rEnd (b hi n : Nat) : Nat := runEnd b hi (hi - n) n
theorem rEnd_stop (b hi n : Nat) (h : ¬ n < hi) : rEnd b hi n = n := by
  unfold rEnd; rw [show hi - n = 0 by omega]; rfl
theorem rEnd_no (b hi n : Nat) (h : b.testBit (n + 1) = false) : rEnd b hi n = n := by
  unfold rEnd
  cases hi - n with
  | zero => rfl
  | succ k => rw [runEnd, h]; rfl
theorem rEnd_yes (b hi n : Nat) (h : n < hi) (hb : b.testBit (n + 1) = true) : rEnd b hi n = rEnd b hi (n + 1) := by
  unfold rEnd
  rw [show hi - n = (hi - (n + 1)) + 1 by omega, runEnd, if_pos hb]
theorem rEnd_ge (b hi : Nat) : ∀ f n, n ≤ runEnd b hi f n ∧ runEnd b hi f n ≤ n + f
  | 0, n => by simp [runEnd]
  | f + 1, n => by
    rw [runEnd]
    split
    · have := rEnd_ge b hi f (n + 1); omega
    · omega
theorem rEnd_bd (b hi n : Nat) (h : n ≤ hi) : n ≤ rEnd b hi n ∧ rEnd b hi n ≤ hi := by
  have := rEnd_ge b hi (hi - n) n
  unfold rEnd; omega
def runTxt (n e : Nat) : List UInt8 := if n < e then dec2 n ++ 45 :: dec2 e else dec2 n
def runsL (b hi : Nat) : Nat → Nat → List (List UInt8)
  | 0, _ => []
  | f + 1, n => if hi < n then [] else if b.testBit n then runTxt n (rEnd b hi n) :: runsL b hi f (rEnd b hi n + 1) else runsL b hi f (n + 1)
theorem runsL_fuel (b hi : Nat) : ∀ f g n, hi + 1 - n ≤ f → hi + 1 - n ≤ g → runsL b hi f n = runsL b hi g n
  | 0, 0, _, _, _ => rfl
  | 0, g + 1, n, h, _ => by rw [runsL, runsL, if_pos (by omega)]
  | f + 1, 0, n, _, h => by rw [runsL, runsL, if_pos (by omega)]
  | f + 1, g + 1, n, h1, h2 => by
    rw [runsL, runsL]
    by_cases hn : hi < n
    · rw [if_pos hn, if_pos hn]
    · rw [if_neg hn, if_neg hn]
      have := rEnd_bd b hi n (by omega)
      rw [runsL_fuel b hi f g (n + 1) (by omega) (by omega), runsL_fuel b hi f g (rEnd b hi n + 1) (by omega) (by omega)]
/-- The runs from n on. -/
def rRuns (b hi n : Nat) : List (List UInt8) := runsL b hi (hi + 1 - n) n
theorem rRuns_end (b hi n : Nat) (h : hi < n) : rRuns b hi n = [] := by
  unfold rRuns; rw [show hi + 1 - n = 0 by omega]; rfl
theorem rRuns_no (b hi n : Nat) (h : n ≤ hi) (hb : b.testBit n = false) : rRuns b hi n = rRuns b hi (n + 1) := by
  unfold rRuns
  rw [show hi + 1 - n = (hi + 1 - (n + 1)) + 1 by omega, runsL, if_neg (by omega), hb]; rfl
theorem rRuns_yes (b hi n : Nat) (h : n ≤ hi) (hb : b.testBit n = true) : rRuns b hi n = runTxt n (rEnd b hi n) :: rRuns b hi (rEnd b hi n + 1) := by
  have := rEnd_bd b hi n h
  unfold rRuns
  rw [show hi + 1 - n = (hi + 1 - (n + 1)) + 1 by omega, runsL, if_neg (by omega), if_pos hb, runsL_fuel b hi _ (hi + 1 - (rEnd b hi n + 1)) _ (by omega) (by omega)]
/-- A field's runs, joined. -/
def toldL (b lo hi : Nat) : List UInt8 := Lib.join (rRuns b hi lo) [44]
theorem dec2_len (n : Nat) : (dec2 n).length ≤ 2 := by unfold dec2; split <;> simp
theorem dec2_pos (n : Nat) : dec2 n ≠ [] := by unfold dec2; split <;> simp
theorem runTxt_len (n e : Nat) : (runTxt n e).length ≤ 5 := by
  have := dec2_len n; have := dec2_len e
  unfold runTxt; split
  · simp; omega
  · omega
theorem runTxt_pos (n e : Nat) : runTxt n e ≠ [] := by
  unfold runTxt; split
  · simp
  · exact dec2_pos n
theorem runsL_len (b hi : Nat) : ∀ f n, (runsL b hi f n).length ≤ f ∧ ∀ x ∈ runsL b hi f n, x.length ≤ 5 ∧ x ≠ []
  | 0, n => by simp [runsL]
  | f + 1, n => by
    rw [runsL]
    split
    · simp
    · split
      · have := runsL_len b hi f (rEnd b hi n + 1)
        refine ⟨by simp; omega, fun x hx => ?_⟩
        rcases List.mem_cons.1 hx with rfl | hx
        · exact ⟨runTxt_len _ _, runTxt_pos _ _⟩
        · exact this.2 x hx
      · have := runsL_len b hi f (n + 1)
        exact ⟨by omega, this.2⟩
theorem rRuns_len (b hi n : Nat) : (rRuns b hi n).length ≤ hi + 1 - n ∧ ∀ x ∈ rRuns b hi n, x.length ≤ 5 ∧ x ≠ [] := runsL_len b hi _ n
theorem join_len (sep : List UInt8) (m : Nat) : ∀ xs : List (List UInt8), (∀ x ∈ xs, x.length ≤ m) → (Lib.join xs sep).length ≤ xs.length * (m + sep.length)
  | [], _ => by simp [Lib.join]
  | [x], h => by
    have := h x (by simp)
    simp [Lib.join]; omega
  | x :: y :: r, h => by
    have ih := join_len sep m (y :: r) (fun z hz => h z (by simp at hz ⊢; right; exact hz))
    have hx := h x (by simp)
    have e : Lib.join (x :: y :: r) sep = x ++ sep ++ Lib.join (y :: r) sep := by simp [Lib.join]
    rw [e, List.length_append, List.length_append, List.length_cons, Nat.add_mul]
    omega
theorem toldL_len (b lo hi : Nat) (h : hi ≤ 62) : (toldL b lo hi).length ≤ 400 := by
  have h1 := rRuns_len b hi lo
  have h2 := join_len [44] 5 (rRuns b hi lo) (fun x hx => (h1.2 x hx).1)
  unfold toldL
  simp at h2
  omega
end Go.Proofs.YtlldcoldnojbjaaGreatDoor.Cron
