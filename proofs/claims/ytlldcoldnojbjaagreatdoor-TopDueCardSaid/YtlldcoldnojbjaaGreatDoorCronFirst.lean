/- The contracts of cron.first, cron.latest: the lowest bit from a number on, the highest up to one. -/
import Derived.Test.YtlldcoldnojbjaaGreatDoorCronBits
import Derived.Test.YtlldcoldnojbjaaGreatDoorCronFits
import Derived.Test.YtlldcoldnojbjaaGreatDoorCronSpan
namespace Go.Proofs.YtlldcoldnojbjaaGreatDoor.Cron
open Go.RowKit Go

/-- The lowest bit of b from a on; -1: there is none. -/
def IsFirst (b a : Nat) (r : Int) : Prop := (r = -1 ∧ ∀ i, a ≤ i → b.testBit i = false) ∨ (∃ n : Nat, r = n ∧ a ≤ n ∧ b.testBit n = true ∧ ∀ i, a ≤ i → i < n → b.testBit i = false)
/-- The highest bit of b up to z. -/
def IsLatest (b : Nat) (z : Int) (r : Int) : Prop := (r = -1 ∧ ∀ i : Nat, (i : Int) ≤ z → b.testBit i = false) ∨ (∃ n : Nat, r = n ∧ (n : Int) ≤ z ∧ b.testBit n = true ∧ ∀ i : Nat, n < i → (i : Int) ≤ z → b.testBit i = false)
def FirstPost (b a : Nat) (e : Ending) : Prop := ∃ r : Int, e = .returned (.int .i64 r) ∧ IsFirst b a r ∧ -1 ≤ r ∧ r < 64
def LatestPost (b : Nat) (z : Int) (e : Ending) : Prop := ∃ r : Int, e = .returned (.int .i64 r) ∧ IsLatest b z r ∧ -1 ≤ r ∧ r < 64

/-- What ctz is. -/
theorem ctz_bit (x : Nat) (h0 : x ≠ 0) (hx : x < 18446744073709551616) : x.testBit (Lib.ctz 64 x) = true ∧ (∀ i, i < Lib.ctz 64 x → x.testBit i = false) ∧ Lib.ctz 64 x < 64 := by
  rw [Lib.ctz, if_neg h0]
  obtain ⟨m, hm, hk⟩ := Lib.ctzFrom_spec 64 x (by omega) hx
  generalize Lib.ctzFrom 64 x = k at *
  have e : x = (2 * m + 1) <<< k := by rw [Nat.shiftLeft_eq, Nat.mul_comm]; exact hm
  refine ⟨?_, fun i hi => ?_, hk⟩
  · rw [e, Nat.testBit_shiftLeft]; simp [Nat.testBit_zero]
  · rw [e, Nat.testBit_shiftLeft]; simp; omega
theorem bitLen_bit (x : Nat) (h0 : x ≠ 0) (hx : x < 18446744073709551616) : 1 ≤ Lib.bitLen x ∧ Lib.bitLen x ≤ 64 ∧ x.testBit (Lib.bitLen x - 1) = true ∧ ∀ i, Lib.bitLen x ≤ i → x.testBit i = false := by
  have key : ∀ f x : Nat, x ≠ 0 → x < 2 ^ f → 1 ≤ Lib.bitLenAux f x ∧ Lib.bitLenAux f x ≤ f ∧ x.testBit (Lib.bitLenAux f x - 1) = true ∧ ∀ i, Lib.bitLenAux f x ≤ i → x.testBit i = false := by
    intro f
    induction f with
    | zero => intro x h0 hx; simp at hx; omega
    | succ f ih =>
      intro x h0 hx
      unfold Lib.bitLenAux
      rw [if_neg h0]
      by_cases h2 : x / 2 = 0
      · have h1 : x = 1 := by omega
        subst h1
        have hz : Lib.bitLenAux f (1 / 2) = 0 := by cases f <;> simp [Lib.bitLenAux]
        rw [hz]
        refine ⟨by omega, by omega, by decide, fun i hi => ?_⟩
        cases h : Nat.testBit 1 i with
        | false => rfl
        | true => exact absurd (Nat.testBit_one_eq_true_iff_self_eq_zero.1 h) (by omega)
      · obtain ⟨a, b, c, d⟩ := ih (x / 2) h2 (by rw [Nat.pow_succ] at hx; omega)
        refine ⟨by omega, by omega, ?_, fun i hi => ?_⟩
        · obtain ⟨j, hj⟩ : ∃ j, Lib.bitLenAux f (x / 2) = j + 1 := ⟨Lib.bitLenAux f (x / 2) - 1, by omega⟩
          rw [hj] at c ⊢
          rw [show 1 + (j + 1) - 1 = j + 1 by omega, Nat.testBit_succ]
          simpa using c
        · obtain ⟨j, rfl⟩ : ∃ j, i = j + 1 := ⟨i - 1, by omega⟩
          rw [Nat.testBit_succ]
          exact d j (by omega)
  exact key 64 x h0 hx

theorem high_bit (b i : Nat) (hb : b < 18446744073709551616) (hi : 64 ≤ i) : b.testBit i = false :=
  Nat.testBit_lt_two_pow (Nat.lt_of_lt_of_le hb (Nat.pow_le_pow_right (show 0 < 2 by omega) hi : 2 ^ 64 ≤ 2 ^ i))
/-- b without its bits below a. -/
def above (b a : Nat) : Nat := b &&& (18446744073709551615 - (2 ^ a - 1))
theorem above_test (b a i : Nat) (ha : a ≤ 63) (hb : b < 18446744073709551616) : (above b a).testBit i = (b.testBit i && decide (a ≤ i)) := by
  have h2 : 2 ^ a ≤ 2 ^ 63 := Nat.pow_le_pow_right (by omega) ha
  have h1 : 1 ≤ 2 ^ a := Nat.one_le_two_pow
  have e : 18446744073709551615 - (2 ^ a - 1) = 2 ^ 64 - ((2 ^ a - 1) + 1) := by omega
  rw [above, e, Nat.testBit_and, Nat.testBit_two_pow_sub_succ (by omega), Nat.testBit_two_pow_sub_one]
  by_cases h : i < 64
  · by_cases h3 : a ≤ i
    · simp [h, h3]
    · simp [h, h3]; omega
  · rw [high_bit b i hb (by omega)]; simp
theorem above_lt (b a : Nat) (hb : b < 18446744073709551616) : above b a < 18446744073709551616 := Nat.lt_of_le_of_lt Nat.and_le_left hb
theorem first_of (b a : Nat) (ha : a ≤ 63) (hb : b < 18446744073709551616) :
    (above b a = 0 → IsFirst b a (-1)) ∧ (above b a ≠ 0 → IsFirst b a (Lib.ctz 64 (above b a)) ∧ Lib.ctz 64 (above b a) < 64) := by
  have ht := fun i => above_test b a i ha hb
  have hl := above_lt b a hb
  generalize above b a = x at *
  constructor
  · rintro rfl
    refine .inl ⟨rfl, fun i hi => ?_⟩
    have := ht i
    rw [Nat.zero_testBit] at this
    simpa [hi] using this.symm
  · intro hx
    obtain ⟨h1, h2, h3⟩ := ctz_bit x hx hl
    refine ⟨.inr ⟨_, rfl, ?_, ?_, fun i h4 h5 => ?_⟩, h3⟩
    · have := ht (Lib.ctz 64 x)
      rw [h1] at this
      simp at this; exact this.2
    · have := ht (Lib.ctz 64 x)
      rw [h1] at this
      simp at this; exact this.1
    · have := ht i
      rw [h2 i h5] at this
      simpa [h4] using this.symm
/-- b's bits below k. -/
def under (b k : Nat) : Nat := b &&& (2 ^ k - 1)
theorem under_test (b k i : Nat) : (under b k).testBit i = (b.testBit i && decide (i < k)) := by
  rw [under, Nat.testBit_and, Nat.testBit_two_pow_sub_one]
theorem under_lt (b k : Nat) (hb : b < 18446744073709551616) : under b k < 18446744073709551616 := Nat.lt_of_le_of_lt Nat.and_le_left hb
theorem latest_of (b k : Nat) (hb : b < 18446744073709551616) : IsLatest b ((k : Int) - 1) ((Lib.bitLen (under b k) : Int) - 1) ∧ Lib.bitLen (under b k) ≤ 64 := by
  have ht := fun i => under_test b k i
  have hl := under_lt b k hb
  generalize under b k = x at *
  by_cases hx : x = 0
  · subst hx
    refine ⟨.inl ⟨rfl, fun i hi => ?_⟩, by decide⟩
    have := ht i
    rw [Nat.zero_testBit] at this
    have hk : i < k := by omega
    simpa [hk] using this.symm
  · obtain ⟨h1, h2, h3, h4⟩ := bitLen_bit x hx hl
    generalize Lib.bitLen x = n at *
    have h5 := ht (n - 1)
    rw [h3] at h5
    simp at h5
    refine ⟨.inr ⟨n - 1, by omega, by omega, h5.1, fun i h6 h7 => ?_⟩, h2⟩
    have := ht i
    rw [h4 i (by omega)] at this
    have hk : i < k := by omega
    simpa [hk] using this.symm

set_option maxRecDepth 100000 in
theorem first_any (b a : Nat) (w : World) (hb : b < 18446744073709551616) (ha : a ≤ 63) (hT : TabAt 2 Lib.deBruijn64tab w) :
    Calls Tryz.prog 47 #[.int .u64 b, .int .i64 a] w fun e w' => FirstPost b a e ∧ Below w.heap.size w w' := by
  obtain ⟨f0, f1⟩ := first_of b a ha hb
  have hx : bits BinOp.andNot IntKind.u64 b (IntKind.u64.wrap (IntKind.u64.wrap (2 ^ a) - 1)) = (above b a : Nat) := by
    rw [(wrap_pow a ha).2, u64_andNot_nat _ _ (by omega) (by have : 2 ^ a ≤ 2 ^ 63 := Nat.pow_le_pow_right (by omega) ha; omega)]; rfl
  have hl := above_lt b a hb
  generalize above b a = x at *
  by_cases hz : x = 0
  · have hz1 : ((x : Int) == 0) = true := by simp; exact hz
    have HF := Lib.hid (f0 hz)
    clear f0 f1 hz
    go_enter Tryz.func47, Tryz.ntmps47
    go_wp2
    go_ret
    exact ⟨⟨_, rfl, HF.out, by omega, by omega⟩, Below.refl _ _⟩
  · have hz1 : ((x : Int) == 0) = false := by simp; exact hz
    have HF := Lib.hid (f1 hz)
    clear f0 f1 hz
    go_enter Tryz.func47, Tryz.ntmps47
    go_wp2_with fail
    go_at_call 65
    refine (Tryz.bits_TrailingZeros64 x hl _ (fun _ => hT)).mono ?_
    rintro e w1 ⟨rfl, rfl⟩
    go_wp2
    go_ret
    exact ⟨⟨_, rfl, HF.out.1, by omega, by have := HF.out.2; omega⟩, Below.refl _ _⟩

end Go.Proofs.YtlldcoldnojbjaaGreatDoor.Cron
