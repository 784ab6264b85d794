/- Joined: CronBits, CronFirst, CronEarly. -/
import Derived.Shelf.Spec.TrailingZeros
import Derived.Test.YtdpaiaeaamokeaaDoorShelf
import Derived.Test.YtdpaiaeaamokeaaDoorCronA
namespace Go.Proofs
open Go.Shelf
def Tryd.laysT_ren : Go.Shelf.Ren := ⟨fun | 29 => 112 | n => n, fun | 0 => 0 | 3 => 3 | 4 => 4 | 5 => 5 | 22 => 33 | 25 => 129 | 54 => 155 | n => n, fun | 1 => 2 | n => n⟩
theorem Tryd.laysT29 : Lays7.n29 Tryd.prog Tryd.laysT_ren := {
  mixed := by kernel_rfl
  f29 := Tryd.func112.trans (congrArg some (by kernel_rfl))
  t0 := Tryd.underlying0
  a0 := Tryd.isAgg0
  z0 := Tryd.sizeOf0
  v0 := Tryd.zeroValue0
  i0 := by kernel_rfl
  t3 := Tryd.underlying3
  a3 := Tryd.isAgg3
  z3 := Tryd.sizeOf3
  v3 := Tryd.zeroValue3
  i3 := by kernel_rfl
  t4 := Tryd.underlying4
  a4 := Tryd.isAgg4
  z4 := Tryd.sizeOf4
  v4 := Tryd.zeroValue4
  i4 := by kernel_rfl
  t5 := Tryd.underlying5
  a5 := Tryd.isAgg5
  z5 := Tryd.sizeOf5
  v5 := Tryd.zeroValue5
  i5 := by kernel_rfl
  t22 := Tryd.underlying33
  a22 := Tryd.isAgg33
  z22 := Tryd.sizeOf33
  v22 := Tryd.zeroValue33
  i22 := by kernel_rfl
  t25 := Tryd.underlying129
  a25 := Tryd.isAgg129
  z25 := Tryd.sizeOf129
  v25 := Tryd.zeroValue129
  i25 := by kernel_rfl
  t54 := Tryd.underlying155
  a54 := Tryd.isAgg155
  z54 := Tryd.sizeOf155
  g1 := by kernel_rfl }
open Go.RowKit in
theorem Tryd.bits_TrailingZeros64 (x : Nat) (hx : x < 18446744073709551616) (w : World) (hT : x ≠ 0 → TabAt 2 Lib.deBruijn64tab w) :
    Calls Tryd.prog 112 #[.int .u64 x] w fun e w' => e = .returned (.int .i64 (Lib.ctz 64 x)) ∧ w' = w :=
  Any7.bits_TrailingZeros64 Tryd.laysT29 x hx w hT
end Go.Proofs

namespace Go.Proofs.YtdpaiaeaamokeaaDoor.Cron
open Go.RowKit Go

/-- The lowest bit of b from a on; -1: there is none. -/
def IsFirst (b a : Nat) (r : Int) : Prop := (r = -1 ∧ ∀ i, a ≤ i → b.testBit i = false) ∨ (∃ n : Nat, r = n ∧ a ≤ n ∧ b.testBit n = true ∧ ∀ i, a ≤ i → i < n → b.testBit i = false)
/-- The highest bit of b up to z. -/
def IsLatest (b : Nat) (z : Int) (r : Int) : Prop := (r = -1 ∧ ∀ i : Nat, (i : Int) ≤ z → b.testBit i = false) ∨ (∃ n : Nat, r = n ∧ (n : Int) ≤ z ∧ b.testBit n = true ∧ ∀ i : Nat, n < i → (i : Int) ≤ z → b.testBit i = false)
def FirstPost (b a : Nat) (e : Ending) : Prop := ∃ r : Int, e = .returned (.int .i64 r) ∧ IsFirst b a r ∧ -1 ≤ r ∧ r < 64
def LatestPost (b : Nat) (z : Int) (e : Ending) : Prop := ∃ r : Int, e = .returned (.int .i64 r) ∧ IsLatest b z r ∧ -1 ≤ r ∧ r < 64

/-- What ctz is. -/
theorem ctz_bit (x : Nat) (h0 : x ≠ 0) (hx : x < 18446744073709551616) : x.testBit (Lib.ctz 64 x) = true ∧ (∀ i, i < Lib.ctz 64 x → x.testBit i = false) ∧ Lib.ctz 64 x < 64 := by
  rw [Lib.ctz, if_neg h0]
  obtain ⟨m, hm, hk⟩ := Lib.ctzFrom_spec 64 x (by omega) hx
  generalize Lib.ctzFrom 64 x = k at *
  have e : x = (2 * m + 1) <<< k := by rw [Nat.shiftLeft_eq, Nat.mul_comm]; exact hm
  refine ⟨?_, fun i hi => ?_, hk⟩
  · rw [e, Nat.testBit_shiftLeft]; simp [Nat.testBit_zero]
  · rw [e, Nat.testBit_shiftLeft]; simp; omega
theorem bitLen_bit (x : Nat) (h0 : x ≠ 0) (hx : x < 18446744073709551616) : 1 ≤ Lib.bitLen x ∧ Lib.bitLen x ≤ 64 ∧ x.testBit (Lib.bitLen x - 1) = true ∧ ∀ i, Lib.bitLen x ≤ i → x.testBit i = false := by
  have key : ∀ f x : Nat, x ≠ 0 → x < 2 ^ f → 1 ≤ Lib.bitLenAux f x ∧ Lib.bitLenAux f x ≤ f ∧ x.testBit (Lib.bitLenAux f x - 1) = true ∧ ∀ i, Lib.bitLenAux f x ≤ i → x.testBit i = false := by
    intro f
    induction f with
    | zero => intro x h0 hx; simp at hx; omega
    | succ f ih =>
      intro x h0 hx
      unfold Lib.bitLenAux
      rw [if_neg h0]
      by_cases h2 : x / 2 = 0
      · have h1 : x = 1 := by omega
        subst h1
        have hz : Lib.bitLenAux f (1 / 2) = 0 := by cases f <;> simp [Lib.bitLenAux]
        rw [hz]
        refine ⟨by omega, by omega, by decide, fun i hi => ?_⟩
        cases h : Nat.testBit 1 i with
        | false => rfl
        | true => exact absurd (Nat.testBit_one_eq_true_iff_self_eq_zero.1 h) (by omega)
      · obtain ⟨a, b, c, d⟩ := ih (x / 2) h2 (by rw [Nat.pow_succ] at hx; omega)
        refine ⟨by omega, by omega, ?_, fun i hi => ?_⟩
        · obtain ⟨j, hj⟩ : ∃ j, Lib.bitLenAux f (x / 2) = j + 1 := ⟨Lib.bitLenAux f (x / 2) - 1, by omega⟩
          rw [hj] at c ⊢
          rw [show 1 + (j + 1) - 1 = j + 1 by omega, Nat.testBit_succ]
          simpa using c
        · obtain ⟨j, rfl⟩ : ∃ j, i = j + 1 := ⟨i - 1, by omega⟩
          rw [Nat.testBit_succ]
          exact d j (by omega)
  exact key 64 x h0 hx

theorem high_bit (b i : Nat) (hb : b < 18446744073709551616) (hi : 64 ≤ i) : b.testBit i = false :=
  Nat.testBit_lt_two_pow (Nat.lt_of_lt_of_le hb (Nat.pow_le_pow_right (show 0 < 2 by omega) hi : 2 ^ 64 ≤ 2 ^ i))
/-- b without its bits below a. -/
def above (b a : Nat) : Nat := b &&& (18446744073709551615 - (2 ^ a - 1))
theorem above_test (b a i : Nat) (ha : a ≤ 63) (hb : b < 18446744073709551616) : (above b a).testBit i = (b.testBit i && decide (a ≤ i)) := by
  have h2 : 2 ^ a ≤ 2 ^ 63 := Nat.pow_le_pow_right (by omega) ha
  have h1 : 1 ≤ 2 ^ a := Nat.one_le_two_pow
  have e : 18446744073709551615 - (2 ^ a - 1) = 2 ^ 64 - ((2 ^ a - 1) + 1) := by omega
  rw [above, e, Nat.testBit_and, Nat.testBit_two_pow_sub_succ (by omega), Nat.testBit_two_pow_sub_one]
  by_cases h : i < 64
  · by_cases h3 : a ≤ i
    · simp [h, h3]
    · simp [h, h3]; omega
  · rw [high_bit b i hb (by omega)]; simp
theorem above_lt (b a : Nat) (hb : b < 18446744073709551616) : above b a < 18446744073709551616 := Nat.lt_of_le_of_lt Nat.and_le_left hb
theorem first_of (b a : Nat) (ha : a ≤ 63) (hb : b < 18446744073709551616) :
    (above b a = 0 → IsFirst b a (-1)) ∧ (above b a ≠ 0 → IsFirst b a (Lib.ctz 64 (above b a)) ∧ Lib.ctz 64 (above b a) < 64) := by
  have ht := fun i => above_test b a i ha hb
  have hl := above_lt b a hb
  generalize above b a = x at *
  constructor
  · rintro rfl
    refine .inl ⟨rfl, fun i hi => ?_⟩
    have := ht i
    rw [Nat.zero_testBit] at this
    simpa [hi] using this.symm
  · intro hx
    obtain ⟨h1, h2, h3⟩ := ctz_bit x hx hl
    refine ⟨.inr ⟨_, rfl, ?_, ?_, fun i h4 h5 => ?_⟩, h3⟩
    · have := ht (Lib.ctz 64 x)
      rw [h1] at this
      simp at this; exact this.2
    · have := ht (Lib.ctz 64 x)
      rw [h1] at this
      simp at this; exact this.1
    · have := ht i
      rw [h2 i h5] at this
      simpa [h4] using this.symm
/-- b's bits below k. -/
def under (b k : Nat) : Nat := b &&& (2 ^ k - 1)
theorem under_test (b k i : Nat) : (under b k).testBit i = (b.testBit i && decide (i < k)) := by
  rw [under, Nat.testBit_and, Nat.testBit_two_pow_sub_one]
theorem under_lt (b k : Nat) (hb : b < 18446744073709551616) : under b k < 18446744073709551616 := Nat.lt_of_le_of_lt Nat.and_le_left hb
theorem latest_of (b k : Nat) (hb : b < 18446744073709551616) : IsLatest b ((k : Int) - 1) ((Lib.bitLen (under b k) : Int) - 1) ∧ Lib.bitLen (under b k) ≤ 64 := by
  have ht := fun i => under_test b k i
  have hl := under_lt b k hb
  generalize under b k = x at *
  by_cases hx : x = 0
  · subst hx
    refine ⟨.inl ⟨rfl, fun i hi => ?_⟩, by decide⟩
    have := ht i
    rw [Nat.zero_testBit] at this
    have hk : i < k := by omega
    simpa [hk] using this.symm
  · obtain ⟨h1, h2, h3, h4⟩ := bitLen_bit x hx hl
    generalize Lib.bitLen x = n at *
    have h5 := ht (n - 1)
    rw [h3] at h5
    simp at h5
    refine ⟨.inr ⟨n - 1, by omega, by omega, h5.1, fun i h6 h7 => ?_⟩, h2⟩
    have := ht i
    rw [h4 i (by omega)] at this
    have hk : i < k := by omega
    simpa [hk] using this.symm

set_option maxRecDepth 100000 in
theorem first_any (b a : Nat) (w : World) (hb : b < 18446744073709551616) (ha : a ≤ 63) (hT : TabAt 2 Lib.deBruijn64tab w) :
    Calls Tryd.prog 95 #[.int .u64 b, .int .i64 a] w fun e w' => FirstPost b a e ∧ Below w.heap.size w w' := by
  obtain ⟨f0, f1⟩ := first_of b a ha hb
  have hx : bits BinOp.andNot IntKind.u64 b (IntKind.u64.wrap (IntKind.u64.wrap (2 ^ a) - 1)) = (above b a : Nat) := by
    rw [(wrap_pow a ha).2, u64_andNot_nat _ _ (by omega) (by have : 2 ^ a ≤ 2 ^ 63 := Nat.pow_le_pow_right (by omega) ha; omega)]; rfl
  have hl := above_lt b a hb
  generalize above b a = x at *
  by_cases hz : x = 0
  · have hz1 : ((x : Int) == 0) = true := by simp; exact hz
    have HF := Lib.hid (f0 hz)
    clear f0 f1 hz
    go_enter Tryd.func95, Tryd.ntmps95
    go_wp2
    go_ret
    exact ⟨⟨_, rfl, HF.out, by omega, by omega⟩, Below.refl _ _⟩
  · have hz1 : ((x : Int) == 0) = false := by simp; exact hz
    have HF := Lib.hid (f1 hz)
    clear f0 f1 hz
    go_enter Tryd.func95, Tryd.ntmps95
    go_wp2_with fail
    go_at_call 112
    refine (Tryd.bits_TrailingZeros64 x hl _ (fun _ => hT)).mono ?_
    rintro e w1 ⟨rfl, rfl⟩
    go_wp2
    go_ret
    exact ⟨⟨_, rfl, HF.out.1, by omega, by have := HF.out.2; omega⟩, Below.refl _ _⟩

set_option maxRecDepth 100000 in
theorem latest_any (b k : Nat) (u : Int) (w : World) (hb : b < 18446744073709551616) (hk : k ≤ 63) (hu : u + 1 = k) :
    Calls Tryd.prog 102 #[.int .u64 b, .int .i64 u] w fun e w' => LatestPost b u e ∧ Below w.heap.size w w' := by
  obtain ⟨f0, f1⟩ := latest_of b k hb
  have hx : bits BinOp.and IntKind.u64 b (IntKind.u64.wrap (IntKind.u64.wrap (2 ^ k) - 1)) = (under b k : Nat) := by
    rw [(wrap_pow k hk).2, u64_and_nat _ _ (by omega) (by have : 2 ^ k ≤ 2 ^ 63 := Nat.pow_le_pow_right (by omega) hk; omega)]; rfl
  have hl := under_lt b k hb
  rw [show (k : Int) - 1 = u by omega] at f0
  generalize under b k = x at *
  have HF := Lib.hid f0
  clear f0
  have hub : -1 ≤ u ∧ u ≤ 62 := by omega
  go_enter Tryd.func102, Tryd.ntmps102
  go_wp2_with fail
  go_at_call 118
  refine (Tryd.bits_Len64 x _ (by omega) (by omega)).mono ?_
  rintro e w1 ⟨rfl, rfl⟩
  rw [Int.toNat_natCast]
  go_wp2
  go_ret
  exact ⟨⟨_, rfl, HF.out, by omega, by omega⟩, Below.refl _ _⟩
end Go.Proofs.YtdpaiaeaamokeaaDoor.Cron

namespace Go.Proofs.YtdpaiaeaamokeaaDoor.Cron
open Go.RowKit Go

/-- May the j-th minute of a day be? -/
def mOk (ho mi : Nat) (j : Nat) : Bool := ho.testBit (j / 60) && mi.testBit (j % 60)
/-- The first minute of a day from f on. -/
def IsEarly (ho mi f : Nat) (r : Int) : Prop := (r = -1 ∧ ∀ j, f ≤ j → j < 1440 → mOk ho mi j = false) ∨ (∃ n : Nat, r = n ∧ f ≤ n ∧ n < 1440 ∧ mOk ho mi n = true ∧ ∀ j, f ≤ j → j < n → mOk ho mi j = false)
/-- The last one up to u. -/
def IsLate (ho mi u : Nat) (r : Int) : Prop := (r = -1 ∧ ∀ j, j ≤ u → mOk ho mi j = false) ∨ (∃ n : Nat, r = n ∧ n ≤ u ∧ mOk ho mi n = true ∧ ∀ j, n < j → j ≤ u → mOk ho mi j = false)
def EarlyPost (ho mi f : Nat) (e : Ending) : Prop := ∃ r : Int, e = .returned (.int .i64 r) ∧ IsEarly ho mi f r
def LatePost (ho mi u : Nat) (e : Ending) : Prop := ∃ r : Int, e = .returned (.int .i64 r) ∧ IsLate ho mi u r

theorem cutH (ho i : Nat) : (ho &&& spanN 0 23).testBit i = (ho.testBit i && decide (i ≤ 23)) := by
  rw [Nat.testBit_and, span_test 0 23 i (by omega)]; simp
theorem cutM (mi i : Nat) : (mi &&& spanN 0 59).testBit i = (mi.testBit i && decide (i ≤ 59)) := by
  rw [Nat.testBit_and, span_test 0 59 i (by omega)]; simp
theorem mOk_cut (ho mi j : Nat) (hj : j < 1440) : mOk ho mi j = ((ho &&& spanN 0 23).testBit (j / 60) && (mi &&& spanN 0 59).testBit (j % 60)) := by
  rw [cutH, cutM, mOk]
  have h1 : j / 60 ≤ 23 := by omega
  have h2 : j % 60 ≤ 59 := by omega
  simp [h1, h2]
theorem first_bd (b a i : Nat) (r : Int) (h : IsFirst b a r) (hr : r = i) : a ≤ i ∧ b.testBit i = true ∧ ∀ j, a ≤ j → j < i → b.testBit j = false := by
  rcases h with ⟨h, -⟩ | ⟨n, h, h1, h2, h3⟩
  · omega
  · obtain rfl : n = i := by omega
    exact ⟨h1, h2, h3⟩
theorem first_no (b a : Nat) (r : Int) (h : IsFirst b a r) (hr : r < 0) : ∀ j, a ≤ j → b.testBit j = false := by
  rcases h with ⟨-, h⟩ | ⟨n, h, -⟩
  · exact h
  · omega
theorem latest_bd (b i : Nat) (z r : Int) (h : IsLatest b z r) (hr : r = i) : (i : Int) ≤ z ∧ b.testBit i = true ∧ ∀ j : Nat, i < j → (j : Int) ≤ z → b.testBit j = false := by
  rcases h with ⟨h, -⟩ | ⟨n, h, h1, h2, h3⟩
  · omega
  · obtain rfl : n = i := by omega
    exact ⟨h1, h2, h3⟩
theorem latest_no (b : Nat) (z r : Int) (h : IsLatest b z r) (hr : r < 0) : ∀ j : Nat, (j : Int) ≤ z → b.testBit j = false := by
  rcases h with ⟨-, h⟩ | ⟨n, h, -⟩
  · exact h
  · omega

section
variable {ho mi H M : Nat} (hH : ho &&& spanN 0 23 = H) (hM : mi &&& spanN 0 59 = M)
include hH hM
theorem mok (j : Nat) (hj : j < 1440) : mOk ho mi j = (H.testBit (j / 60) && M.testBit (j % 60)) := by rw [← hH, ← hM]; exact mOk_cut ho mi j hj
theorem early_hit (f a r m : Nat) (hf : f < 1440) (ha : f / 60 = a) (hr : f % 60 = r) (h1 : H.testBit a = true) (h2 : IsFirst M r m) : IsEarly ho mi f (60 * a + m) := by
  obtain ⟨p, q, s⟩ := first_bd M r m _ h2 rfl
  have hm : m ≤ 59 := by
    rw [← hM, cutM] at q; simp at q; exact q.2
  refine .inr ⟨60 * a + m, by omega, by omega, by omega, ?_, fun j h3 h4 => ?_⟩
  · rw [mok hH hM _ (by omega), show (60 * a + m) / 60 = a by omega, show (60 * a + m) % 60 = m by omega, h1, q]; rfl
  · rw [mok hH hM j (by omega), s (j % 60) (by omega) (by omega)]; simp
theorem early_miss (f a r : Nat) (hf : f < 1440) (ha : f / 60 = a) (hr : f % 60 = r) (m : Int) (h2 : IsFirst M r m) (hm : m < 0) : ∀ j, f ≤ j → j / 60 = a → mOk ho mi j = false := by
  intro j h3 h4
  rw [mok hH hM j (by omega), first_no M r m h2 hm (j % 60) (by omega)]; simp
theorem early_miss2 (f a : Nat) (hf : f < 1440) (ha : f / 60 = a) (h : Int) (h2 : IsFirst H a h) (hm : h ≠ a) : (∀ j, f ≤ j → j / 60 = a → mOk ho mi j = false) ∧ IsFirst H (a + 1) h := by
  have hb : H.testBit a = false := by
    rcases h2 with ⟨-, k⟩ | ⟨n, k, k1, k2, k3⟩
    · exact k a (Nat.le_refl _)
    · exact k3 a (Nat.le_refl _) (by omega)
  refine ⟨fun j h3 h4 => ?_, ?_⟩
  · rw [mok hH hM j (by omega), h4, hb]; simp
  · rcases h2 with ⟨k0, k⟩ | ⟨n, k, k1, k2, k3⟩
    · exact .inl ⟨k0, fun i hi => k i (by omega)⟩
    · exact .inr ⟨n, k, by omega, k2, fun i hi => k3 i (by omega)⟩
theorem early_none (f a : Nat) (hf : f < 1440) (ha : f / 60 = a) (hA : ∀ j, f ≤ j → j / 60 = a → mOk ho mi j = false) (h m : Int) (h1 : IsFirst H (a + 1) h) (h2 : IsFirst M 0 m) (hn : h < 0 ∨ m < 0) : IsEarly ho mi f (-1) := by
  refine .inl ⟨rfl, fun j h3 h4 => ?_⟩
  by_cases hj : j / 60 = a
  · exact hA j h3 hj
  · rw [mok hH hM j h4]
    rcases hn with hn | hn
    · rw [first_no H (a + 1) h h1 hn (j / 60) (by omega)]; rfl
    · rw [first_no M 0 m h2 hn (j % 60) (by omega)]; simp
theorem early_some (f a : Nat) (hf : f < 1440) (ha : f / 60 = a) (hA : ∀ j, f ≤ j → j / 60 = a → mOk ho mi j = false) (h m : Nat) (h1 : IsFirst H (a + 1) h) (h2 : IsFirst M 0 m) : IsEarly ho mi f (60 * h + m) := by
  obtain ⟨p1, q1, s1⟩ := first_bd H (a + 1) h _ h1 rfl
  obtain ⟨p2, q2, s2⟩ := first_bd M 0 m _ h2 rfl
  have hm : m ≤ 59 := by rw [← hM, cutM] at q2; simp at q2; exact q2.2
  have hh : h ≤ 23 := by rw [← hH, cutH] at q1; simp at q1; exact q1.2
  refine .inr ⟨60 * h + m, by omega, by omega, by omega, ?_, fun j h3 h4 => ?_⟩
  · rw [mok hH hM _ (by omega), show (60 * h + m) / 60 = h by omega, show (60 * h + m) % 60 = m by omega, q1, q2]; rfl
  · by_cases hj : j / 60 = a
    · exact hA j h3 hj
    · rw [mok hH hM j (by omega)]
      by_cases hj2 : j / 60 = h
      · rw [s2 (j % 60) (by omega) (by omega)]; simp
      · rw [s1 (j / 60) (by omega) (by omega)]; rfl
theorem late_hit (f a r m : Nat) (hf : f < 1440) (ha : f / 60 = a) (hr : f % 60 = r) (h1 : H.testBit a = true) (h2 : IsLatest M r m) : IsLate ho mi f (60 * a + m) := by
  obtain ⟨p, q, s⟩ := latest_bd M m _ _ h2 rfl
  refine .inr ⟨60 * a + m, by omega, by omega, ?_, fun j h3 h4 => ?_⟩
  · rw [mok hH hM _ (by omega), show (60 * a + m) / 60 = a by omega, show (60 * a + m) % 60 = m by omega, h1, q]; rfl
  · rw [mok hH hM j (by omega), s (j % 60) (by omega) (by omega)]; simp
theorem late_miss (f a r : Nat) (hf : f < 1440) (ha : f / 60 = a) (hr : f % 60 = r) (m : Int) (h2 : IsLatest M r m) (hm : m < 0) : ∀ j, j ≤ f → j / 60 = a → mOk ho mi j = false := by
  intro j h3 h4
  rw [mok hH hM j (by omega), latest_no M r m h2 hm (j % 60) (by omega)]; simp
theorem late_miss2 (f a : Nat) (hf : f < 1440) (ha : f / 60 = a) (h : Int) (h2 : IsLatest H a h) (hm : h ≠ a) : (∀ j, j ≤ f → j / 60 = a → mOk ho mi j = false) ∧ IsLatest H ((a : Int) - 1) h := by
  have hb : H.testBit a = false := by
    rcases h2 with ⟨-, k⟩ | ⟨n, k, k1, k2, k3⟩
    · exact k a (Int.le_refl _)
    · exact k3 a (by omega) (Int.le_refl _)
  refine ⟨fun j h3 h4 => ?_, ?_⟩
  · rw [mok hH hM j (by omega), h4, hb]; simp
  · rcases h2 with ⟨k0, k⟩ | ⟨n, k, k1, k2, k3⟩
    · exact .inl ⟨k0, fun i hi => k i (by omega)⟩
    · exact .inr ⟨n, k, by omega, k2, fun i hi hj => k3 i hi (by omega)⟩
theorem late_none (f a : Nat) (hf : f < 1440) (ha : f / 60 = a) (hA : ∀ j, j ≤ f → j / 60 = a → mOk ho mi j = false) (h m : Int) (h1 : IsLatest H ((a : Int) - 1) h) (h2 : IsLatest M 59 m) (hn : h < 0 ∨ m < 0) : IsLate ho mi f (-1) := by
  refine .inl ⟨rfl, fun j h3 => ?_⟩
  by_cases hj : j / 60 = a
  · exact hA j h3 hj
  · rw [mok hH hM j (by omega)]
    rcases hn with hn | hn
    · rw [latest_no H _ h h1 hn (j / 60) (by omega)]; rfl
    · rw [latest_no M _ m h2 hn (j % 60) (by omega)]; simp
theorem late_some (f a : Nat) (hf : f < 1440) (ha : f / 60 = a) (hA : ∀ j, j ≤ f → j / 60 = a → mOk ho mi j = false) (h m : Nat) (h1 : IsLatest H ((a : Int) - 1) h) (h2 : IsLatest M 59 m) : IsLate ho mi f (60 * h + m) := by
  obtain ⟨p1, q1, s1⟩ := latest_bd H h _ _ h1 rfl
  obtain ⟨p2, q2, s2⟩ := latest_bd M m _ _ h2 rfl
  refine .inr ⟨60 * h + m, by omega, by omega, ?_, fun j h3 h4 => ?_⟩
  · rw [mok hH hM _ (by omega), show (60 * h + m) / 60 = h by omega, show (60 * h + m) % 60 = m by omega, q1, q2]; rfl
  · by_cases hj : j / 60 = a
    · exact hA j h4 hj
    · rw [mok hH hM j (by omega)]
      by_cases hj2 : j / 60 = h
      · rw [s2 (j % 60) (by omega) (by omega)]; simp
      · rw [s1 (j / 60) (by omega) (by omega)]; rfl
end

theorem quiet_draw {P : Program} {f : FuncId} {args : Array Value} {w : World} {n : Nat} {v : Value}
    (h : Calls P f args (w.drewN n) fun e w' => e = .returned v ∧ ∃ m, w' = (w.drewN n).drewN m) : Calls P f args (w.drewN n) fun e w'' => e = .returned v ∧ ∃ m, w'' = w.drewN m :=
  h.mono fun _ _ ⟨he, m, hm⟩ => ⟨he, n + m, by rw [hm, World.drewN_drewN]⟩
theorem span_i (x y : Int) (w : World) (h : 0 ≤ x ∧ x ≤ y ∧ y ≤ 62) : Calls Tryd.prog 61 #[.int .i64 x, .int .i64 y] w fun e w' => e = .returned (.int .u64 (spanN x.toNat y.toNat : Nat)) ∧ ∃ n, w' = w.drewN n := by
  have := span_any x.toNat y.toNat w (by omega) (by omega)
  rw [Int.toNat_of_nonneg (by omega), Int.toNat_of_nonneg (by omega)] at this
  exact this

set_option maxRecDepth 100000 in
theorem floor_any (n : Int) (w : World) (h0 : -9000000000000000000 ≤ n) (h9 : n ≤ 9000000000000000000) :
    Calls Tryd.prog 70 #[.int .i64 n] w fun e w' => e = .returned (.int .i64 (n - n % 1440)) ∧ w' = w := by
  obtain ⟨p, q, r1, r2⟩ := tmod_within n 1440 (by omega)
  have hm : 0 ≤ n % 1440 ∧ n % 1440 < 1440 := by omega
  obtain ⟨k, hk⟩ : ∃ k, n % 1440 = k := ⟨_, rfl⟩
  rw [hk] at p q hm ⊢
  clear hk
  by_cases ht : n.tmod 1440 < 0
  · have e := p ht
    clear p q
    go_enter Tryd.func70, Tryd.ntmps70
    go_wp2
    go_ret
    exact ⟨ret_int (by first | rfl | (unfold wrap64; omega)), rfl⟩
  · have e := q ht
    clear p q
    go_enter Tryd.func70, Tryd.ntmps70
    go_wp2
    go_ret
    exact ⟨rfl, rfl⟩

theorem cell_lt {w : World} {b o : Nat} {v : Value} (h : w.cell? ⟨b, o, none⟩ = some v) : b < w.heap.size := by
  by_cases c : b < w.heap.size
  · exact c
  · simp [World.cell?, Array.getElem?_eq_none (Nat.le_of_not_lt c)] at h
theorem _root_.Go.Proofs.TabAt.below {g : Nat} {tab : List Nat} {w w' : World} (h : TabAt g tab w) (hb : Below w.heap.size w w') : TabAt g tab w' := fun j hj =>
  (hb.cell (p := ⟨g, j, none⟩) (cell_lt (h j hj))).trans (h j hj)

set_option maxHeartbeats 1000000 in
set_option maxRecDepth 100000 in
theorem early_any (e : Ex) (f : Nat) (w : World) (he : ExOk e) (hf : f < 1440) (hT : TabAt 2 Lib.deBruijn64tab w) :
    Calls Tryd.prog 69 #[exV e, .int .i64 f] w fun x w' => EarlyPost e.ho e.mi f x ∧ Below w.heap.size w w' := by
  obtain ⟨mi, ho, da, mo, wk, ad, aw⟩ := e
  obtain ⟨b1, b2, -, -, -⟩ := he
  dsimp only at b1 b2
  unfold exV
  dsimp only
  obtain ⟨a, ha⟩ : ∃ a : Nat, (f : Int) / 60 = a := ⟨f / 60, by omega⟩
  obtain ⟨r, hr⟩ : ∃ r : Nat, (f : Int) % 60 = r := ⟨f % 60, by omega⟩
  have HA : Hid (f / 60 = a) := by show _ = _; omega
  have HR : Hid (f % 60 = r) := by show _ = _; omega
  have hab : a ≤ 23 := by omega
  have hrb : r ≤ 59 := by omega
  have e1 : bits BinOp.and IntKind.u64 ho (spanN 0 23 : Nat) = (ho &&& spanN 0 23 : Nat) := u64_and_nat _ _ (by omega) (by have := span_lt 0 23 (by omega); omega)
  have e2 : bits BinOp.and IntKind.u64 mi (spanN 0 59 : Nat) = (mi &&& spanN 0 59 : Nat) := u64_and_nat _ _ (by omega) (by have := span_lt 0 59 (by omega); omega)
  have hHl : ho &&& spanN 0 23 < 18446744073709551616 := Nat.lt_of_le_of_lt Nat.and_le_left b2
  have hMl : mi &&& spanN 0 59 < 18446744073709551616 := Nat.lt_of_le_of_lt Nat.and_le_left b1
  obtain ⟨H, hH⟩ : ∃ H, ho &&& spanN 0 23 = H := ⟨_, rfl⟩
  obtain ⟨M, hM⟩ : ∃ M, mi &&& spanN 0 59 = M := ⟨_, rfl⟩
  rw [hH] at e1 hHl
  rw [hM] at e2 hMl
  have HH := Lib.hid hH
  have HM := Lib.hid hM
  clear hH hM
  go_enter Tryd.func69, Tryd.ntmps69
  go_wp2
  go_quiet ((go_at_call 61; exact quiet_draw (span_i _ _ _ (by omega))))
  go_wp2_with fail
  go_at_call 95
  refine (first_any H a _ hHl (by omega) (hT.below (below_alloc1 _ _ _))).mono ?_
  rintro x1 w1 ⟨⟨h, rfl, hI, hlo, hhi⟩, hb1⟩
  have hbel := bthen (below_alloc1 _ _ _) hb1
  have hT1 := hT.below hbel
  clear hb1 hT
  by_cases hh : h = a
  · subst hh
    have h1 : H.testBit a = true := (first_bd H a a _ hI rfl).2.1
    go_wp2_with fail
    go_at_call 95
    refine (first_any M r _ hMl (by omega) hT1).mono ?_
    rintro x2 w2 ⟨⟨m, rfl, hJ, hlo2, hhi2⟩, hb2⟩
    have hbel2 := bthen hbel hb2
    have hT2 := hT1.below hb2
    clear hb2 hT1 hbel
    by_cases hm : 0 ≤ m
    · obtain ⟨k, rfl⟩ : ∃ k : Nat, m = k := ⟨m.toNat, by omega⟩
      have HE := Lib.hid (early_hit HH.out HM.out f a r k hf HA.out HR.out h1 hJ)
      go_wp2
      go_ret
      exact ⟨⟨_, rfl, HE.out⟩, hbel2⟩
    · have hm2 : m < 0 := by omega
      have HA2 := Lib.hid (early_miss HH.out HM.out f a r hf HA.out HR.out m hJ hm2)
      clear hI hJ h1
      go_wp2_with fail
      go_at_call 95
      refine (first_any H (a + 1) _ hHl (by omega) hT2).mono ?_
      rintro x3 w3 ⟨⟨h3, rfl, hI, hlo, hhi⟩, hb3⟩
      have hbel3 := bthen hbel2 hb3
      have hT3 := hT2.below hb3
      clear hb3 hT2 hbel2 hm hm2 hlo2 hhi2
      go_wp2_with fail
      go_at_call 95
      refine (first_any M 0 _ hMl (by omega) hT3).mono ?_
      rintro x4 w4 ⟨⟨m4, rfl, hJ, hlo4, hhi4⟩, hb4⟩
      have hbel4 := bthen hbel3 hb4
      clear hb4 hbel3 hT3
      by_cases g1 : h3 < 0
      · have HE := Lib.hid (early_none HH.out HM.out f a hf HA.out HA2.out h3 m4 hI hJ (.inl g1))
        go_wp2
        go_ret
        exact ⟨⟨_, rfl, HE.out⟩, hbel4⟩
      · by_cases g2 : m4 < 0
        · have HE := Lib.hid (early_none HH.out HM.out f a hf HA.out HA2.out h3 m4 hI hJ (.inr g2))
          go_wp2
          go_ret
          exact ⟨⟨_, rfl, HE.out⟩, hbel4⟩
        · obtain ⟨kh, rfl⟩ : ∃ k : Nat, h3 = k := ⟨h3.toNat, by omega⟩
          obtain ⟨km, rfl⟩ : ∃ k : Nat, m4 = k := ⟨m4.toNat, by omega⟩
          have HE := Lib.hid (early_some HH.out HM.out f a hf HA.out HA2.out kh km hI hJ)
          go_wp2
          go_ret
          exact ⟨⟨_, rfl, HE.out⟩, hbel4⟩
  · have hq : (h == (a : Int)) = false := by simp; exact hh
    obtain ⟨hA2, hI2⟩ := early_miss2 HH.out HM.out f a hf HA.out h hI hh
    have HA2 := Lib.hid hA2
    clear hI hh hA2
    go_wp2_with fail
    go_at_call 95
    refine (first_any M 0 _ hMl (by omega) hT1).mono ?_
    rintro x4 w4 ⟨⟨m4, rfl, hJ, hlo4, hhi4⟩, hb4⟩
    have hbel4 := bthen hbel hb4
    clear hb4 hbel hT1
    by_cases g1 : h < 0
    · have HE := Lib.hid (early_none HH.out HM.out f a hf HA.out HA2.out h m4 hI2 hJ (.inl g1))
      go_wp2
      go_ret
      exact ⟨⟨_, rfl, HE.out⟩, hbel4⟩
    · by_cases g2 : m4 < 0
      · have HE := Lib.hid (early_none HH.out HM.out f a hf HA.out HA2.out h m4 hI2 hJ (.inr g2))
        go_wp2
        go_ret
        exact ⟨⟨_, rfl, HE.out⟩, hbel4⟩
      · obtain ⟨kh, rfl⟩ : ∃ k : Nat, h = k := ⟨h.toNat, by omega⟩
        obtain ⟨km, rfl⟩ : ∃ k : Nat, m4 = k := ⟨m4.toNat, by omega⟩
        have HE := Lib.hid (early_some HH.out HM.out f a hf HA.out HA2.out kh km hI2 hJ)
        go_wp2
        go_ret
        exact ⟨⟨_, rfl, HE.out⟩, hbel4⟩
set_option maxHeartbeats 1000000 in
set_option maxRecDepth 100000 in
theorem late_any (e : Ex) (f : Nat) (w : World) (he : ExOk e) (hf : f < 1440) :
    Calls Tryd.prog 77 #[exV e, .int .i64 f] w fun x w' => LatePost e.ho e.mi f x ∧ Below w.heap.size w w' := by
  obtain ⟨mi, ho, da, mo, wk, ad, aw⟩ := e
  obtain ⟨b1, b2, -, -, -⟩ := he
  dsimp only at b1 b2
  unfold exV
  dsimp only
  obtain ⟨a, ha⟩ : ∃ a : Nat, (f : Int) / 60 = a := ⟨f / 60, by omega⟩
  obtain ⟨r, hr⟩ : ∃ r : Nat, (f : Int) % 60 = r := ⟨f % 60, by omega⟩
  have HA : Hid (f / 60 = a) := by show _ = _; omega
  have HR : Hid (f % 60 = r) := by show _ = _; omega
  have hab : a ≤ 23 := by omega
  have hrb : r ≤ 59 := by omega
  have e1 : bits BinOp.and IntKind.u64 ho (spanN 0 23 : Nat) = (ho &&& spanN 0 23 : Nat) := u64_and_nat _ _ (by omega) (by have := span_lt 0 23 (by omega); omega)
  have e2 : bits BinOp.and IntKind.u64 mi (spanN 0 59 : Nat) = (mi &&& spanN 0 59 : Nat) := u64_and_nat _ _ (by omega) (by have := span_lt 0 59 (by omega); omega)
  have hHl : ho &&& spanN 0 23 < 18446744073709551616 := Nat.lt_of_le_of_lt Nat.and_le_left b2
  have hMl : mi &&& spanN 0 59 < 18446744073709551616 := Nat.lt_of_le_of_lt Nat.and_le_left b1
  obtain ⟨H, hH⟩ : ∃ H, ho &&& spanN 0 23 = H := ⟨_, rfl⟩
  obtain ⟨M, hM⟩ : ∃ M, mi &&& spanN 0 59 = M := ⟨_, rfl⟩
  rw [hH] at e1 hHl
  rw [hM] at e2 hMl
  have HH := Lib.hid hH
  have HM := Lib.hid hM
  clear hH hM
  go_enter Tryd.func77, Tryd.ntmps77
  go_wp2
  go_quiet ((go_at_call 61; exact quiet_draw (span_i _ _ _ (by omega))))
  go_wp2_with fail
  go_at_call 102
  refine (latest_any H (a + 1) (a : Int) _ hHl (by omega) (by omega)).mono ?_
  rintro x1 w1 ⟨⟨h, rfl, hI, hlo, hhi⟩, hb1⟩
  have hbel := bthen (below_alloc1 _ _ _) hb1
  clear hb1
  by_cases hh : h = a
  · subst hh
    have h1 : H.testBit a = true := (latest_bd H a _ _ hI rfl).2.1
    go_wp2_with fail
    go_at_call 102
    refine (latest_any M (r + 1) (r : Int) _ hMl (by omega) (by omega)).mono ?_
    rintro x2 w2 ⟨⟨m, rfl, hJ, hlo2, hhi2⟩, hb2⟩
    have hbel2 := bthen hbel hb2
    clear hb2 hbel
    by_cases hm : 0 ≤ m
    · obtain ⟨k, rfl⟩ : ∃ k : Nat, m = k := ⟨m.toNat, by omega⟩
      have HE := Lib.hid (late_hit HH.out HM.out f a r k hf HA.out HR.out h1 hJ)
      go_wp2
      go_ret
      exact ⟨⟨_, rfl, HE.out⟩, hbel2⟩
    · have hm2 : m < 0 := by omega
      have HA2 := Lib.hid (late_miss HH.out HM.out f a r hf HA.out HR.out m hJ hm2)
      clear hI hJ h1
      go_wp2_with fail
      go_at_call 102
      refine (latest_any H a ((a : Int) - 1) _ hHl (by omega) (by omega)).mono ?_
      rintro x3 w3 ⟨⟨h3, rfl, hI, hlo, hhi⟩, hb3⟩
      have hbel3 := bthen hbel2 hb3
      clear hb3 hbel2 hm hm2 hlo2 hhi2
      go_wp2_with fail
      go_at_call 102
      refine (latest_any M 60 59 _ hMl (by omega) (by omega)).mono ?_
      rintro x4 w4 ⟨⟨m4, rfl, hJ, hlo4, hhi4⟩, hb4⟩
      have hbel4 := bthen hbel3 hb4
      clear hb4 hbel3
      by_cases g1 : h3 < 0
      · have HE := Lib.hid (late_none HH.out HM.out f a hf HA.out HA2.out h3 m4 hI hJ (.inl g1))
        go_wp2
        go_ret
        exact ⟨⟨_, rfl, HE.out⟩, hbel4⟩
      · by_cases g2 : m4 < 0
        · have HE := Lib.hid (late_none HH.out HM.out f a hf HA.out HA2.out h3 m4 hI hJ (.inr g2))
          go_wp2
          go_ret
          exact ⟨⟨_, rfl, HE.out⟩, hbel4⟩
        · obtain ⟨kh, rfl⟩ : ∃ k : Nat, h3 = k := ⟨h3.toNat, by omega⟩
          obtain ⟨km, rfl⟩ : ∃ k : Nat, m4 = k := ⟨m4.toNat, by omega⟩
          have HE := Lib.hid (late_some HH.out HM.out f a hf HA.out HA2.out kh km hI hJ)
          go_wp2
          go_ret
          exact ⟨⟨_, rfl, HE.out⟩, hbel4⟩
  · have hq : (h == (a : Int)) = false := by simp; exact hh
    obtain ⟨hA2, hI2⟩ := late_miss2 HH.out HM.out f a hf HA.out h hI hh
    have HA2 := Lib.hid hA2
    clear hI hh hA2
    go_wp2_with fail
    go_at_call 102
    refine (latest_any M 60 59 _ hMl (by omega) (by omega)).mono ?_
    rintro x4 w4 ⟨⟨m4, rfl, hJ, hlo4, hhi4⟩, hb4⟩
    have hbel4 := bthen hbel hb4
    clear hb4 hbel
    by_cases g1 : h < 0
    · have HE := Lib.hid (late_none HH.out HM.out f a hf HA.out HA2.out h m4 hI2 hJ (.inl g1))
      go_wp2
      go_ret
      exact ⟨⟨_, rfl, HE.out⟩, hbel4⟩
    · by_cases g2 : m4 < 0
      · have HE := Lib.hid (late_none HH.out HM.out f a hf HA.out HA2.out h m4 hI2 hJ (.inr g2))
        go_wp2
        go_ret
        exact ⟨⟨_, rfl, HE.out⟩, hbel4⟩
      · obtain ⟨kh, rfl⟩ : ∃ k : Nat, h = k := ⟨h.toNat, by omega⟩
        obtain ⟨km, rfl⟩ : ∃ k : Nat, m4 = k := ⟨m4.toNat, by omega⟩
        have HE := Lib.hid (late_some HH.out HM.out f a hf HA.out HA2.out kh km hI2 hJ)
        go_wp2
        go_ret
        exact ⟨⟨_, rfl, HE.out⟩, hbel4⟩
end Go.Proofs.YtdpaiaeaamokeaaDoor.Cron

