/- The contracts of the reference's number, bits, lo, hi, field. -/
import Derived.Test.YtdpaiaeaamokeaaDoorRefTextP
import Derived.Test.YtdpaiaeaamokeaaDoorCronFits
import Derived.Test.YtdpaiaeaamokeaaDoorCronSpan
namespace Go.Proofs.YtdpaiaeaamokeaaDoor.Cron
open Go.RowKit Go

set_option maxHeartbeats 1000000 in
set_option maxRecDepth 100000 in
theorem rnumber6_any (s : ByteArray) (a : Nat) (w : World) (ha : a ≤ s.size) (hs : s.size ≤ 1000000) :
    Calls Tryd.prog 91 #[.string s, .int .i64 a] w fun e w' => (∃ (n : Int) (k : Nat), e = .returned (.tuple #[.int .i64 n, .int .i64 k]) ∧ NumAt s a k n ∧ a ≤ k ∧ k ≤ s.size) ∧ w = w' := by
  go_enter Tryd.func91, Tryd.ntmps91
  go_wp2
  go_loopg [6, 7] 2 (fun gk v kv wr => ∃ (j : Nat) (n : Int), v = .int .i64 n ∧ kv = .int .i64 ((a + j : Nat) : Int) ∧ ((j = 0 ∧ n = 0) ∨ (j = 1 ∧ ∃ h : a < s.size, isDig s[a] = true ∧ n = (s[a].toNat : Int) - 48) ∨ (j = 2 ∧ ∃ (h : a < s.size) (h2 : a + 1 < s.size), isDig s[a] = true ∧ isDig s[a + 1] = true ∧ n = 10 * ((s[a].toNat : Int) - 48) + ((s[a + 1].toNat : Int) - 48))) ∧ gk = 2 - j ∧ wr = w)
  case atStart => exact ⟨0, 0, rfl, rfl, .inl ⟨rfl, rfl⟩, rfl, rfl⟩
  case round =>
    obtain ⟨j, n, rfl, rfl, hj, hgk, rfl⟩ := hrel
    have HG := Lib.hid hgk
    clear hgk
    rcases hj with ⟨rfl, rfl⟩ | ⟨rfl, h, hd, rfl⟩ | ⟨rfl, h, h2, hd, hd2, rfl⟩
    · by_cases hlt : a < s.size
      · have h1 : ((a + 0 : Nat) : Int) < (s.size : Int) := by omega
        by_cases hd : isDig s[a] = true
        · have hc := (isDig_iff _).1 hd
          have h2 : 48 ≤ (s[a].toNat : Int) := by omega
          have h3 : (s[a].toNat : Int) ≤ 57 := by omega
          have HD := Lib.hid hd
          clear hd
          go_wp2
          go_roundg (2 - 1)
          case measure => have := HG.out; omega
          case rel => exact ⟨1, _, rfl, by congr 1, .inr (.inl ⟨rfl, hlt, HD.out, by omega⟩), rfl, rfl⟩
        · have hb : isDig s[a] = false := by simpa using hd
          have HN := Lib.hid (numAt_none s a (.inr ⟨hlt, hb⟩))
          have hq : (s[a]).toNat < 48 ∨ 57 < (s[a]).toNat := by
            have := isDig_iff s[a]; rw [hb] at this; simp at this; omega
          have e1 : ((a : Int) == (a : Int)) = true := by simp
          clear hb hd
          rcases hq with hq | hq
          · have hc0 : ¬ (48 : Int) ≤ (s[a].toNat : Int) := by omega
            go_wp2
            go_ret2
            exact ⟨⟨-1, a, rfl, HN.out, Nat.le_refl _, ha⟩, rfl⟩
          · have hc0 : (48 : Int) ≤ (s[a].toNat : Int) := by omega
            have hc1 : ¬ (s[a].toNat : Int) ≤ 57 := by omega
            go_wp2
            go_ret2
            exact ⟨⟨-1, a, rfl, HN.out, Nat.le_refl _, ha⟩, rfl⟩
      · have h1 : ¬ ((a + 0 : Nat) : Int) < (s.size : Int) := by omega
        have HN := Lib.hid (numAt_none s a (.inl (by omega)))
        have e1 : ((a : Int) == (a : Int)) = true := by simp
        go_wp2
        go_ret2
        exact ⟨⟨-1, a, rfl, HN.out, Nat.le_refl _, ha⟩, rfl⟩
    · have HD := Lib.hid hd
      have hc := (isDig_iff _).1 hd
      have g1 : 48 ≤ (s[a].toNat : Int) := by omega
      have g2 : (s[a].toNat : Int) ≤ 57 := by omega
      have e1 : (((a + 1 : Nat) : Int) == (a : Int)) = false := by simp only [beq_eq_false_iff_ne]; omega
      have e2 : ((a : Int) + 1 == (a : Int)) = false := by simp only [beq_eq_false_iff_ne]; omega
      clear hd
      by_cases hlt : a + 1 < s.size
      · by_cases hd2 : isDig s[a + 1] = true
        · have hc2 := (isDig_iff _).1 hd2
          have h2 : 48 ≤ (s[a + 1].toNat : Int) := by omega
          have h3 : (s[a + 1].toNat : Int) ≤ 57 := by omega
          have HD2 := Lib.hid hd2
          clear hd2
          go_wp2
          go_roundg (2 - 2)
          case measure => have := HG.out; omega
          case rel => exact ⟨2, _, rfl, by congr 1, .inr (.inr ⟨rfl, h, hlt, HD.out, HD2.out, by omega⟩), rfl, rfl⟩
        · have hb : isDig s[a + 1] = false := by simpa using hd2
          have HN := Lib.hid (numAt_one s a h HD.out (.inr ⟨hlt, hb⟩))
          have hq : (s[a + 1]).toNat < 48 ∨ 57 < (s[a + 1]).toNat := by
            have := isDig_iff s[a + 1]; rw [hb] at this; simp at this; omega
          clear hb hd2
          rcases hq with hq | hq
          · have hc0 : ¬ (48 : Int) ≤ (s[a + 1].toNat : Int) := by omega
            go_wp2
            go_ret2
            exact ⟨⟨_, a + 1, rfl, HN.out, by omega, by omega⟩, rfl⟩
          · have hc0 : (48 : Int) ≤ (s[a + 1].toNat : Int) := by omega
            have hc1 : ¬ (s[a + 1].toNat : Int) ≤ 57 := by omega
            go_wp2
            go_ret2
            exact ⟨⟨_, a + 1, rfl, HN.out, by omega, by omega⟩, rfl⟩
      · have HN := Lib.hid (numAt_one s a h HD.out (.inl (by omega)))
        go_wp2
        go_ret2
        exact ⟨⟨_, a + 1, rfl, HN.out, by omega, by omega⟩, rfl⟩
    · have HN := Lib.hid (numAt_two s a h hd h2 hd2)
      have hc := (isDig_iff _).1 hd
      have hc2 := (isDig_iff _).1 hd2
      have g1 : 48 ≤ (s[a].toNat : Int) := by omega
      have g2 : (s[a].toNat : Int) ≤ 57 := by omega
      have g3 : 48 ≤ (s[a + 1].toNat : Int) := by omega
      have g4 : (s[a + 1].toNat : Int) ≤ 57 := by omega
      have e1 : (((a + 2 : Nat) : Int) == (a : Int)) = false := by simp only [beq_eq_false_iff_ne]; omega
      have e2 : ((a : Int) + 2 == (a : Int)) = false := by simp only [beq_eq_false_iff_ne]; omega
      clear hd hd2
      by_cases hlt : a + 2 < s.size
      · go_wp2
        go_ret2
        exact ⟨⟨_, a + 2, rfl, HN.out, by omega, by omega⟩, rfl⟩
      · go_wp2
        go_ret2
        exact ⟨⟨_, a + 2, rfl, HN.out, by omega, by omega⟩, rfl⟩

def loN (f : Int) : Nat := if f = 2 ∨ f = 3 then 1 else 0
def hiN (f : Int) : Nat := if f = 0 then 59 else if f = 1 then 23 else if f = 2 then 31 else if f = 3 then 12 else 6
theorem lohi (f : Int) : loN f ≤ 1 ∧ hiN f ≤ 59 ∧ 6 ≤ hiN f := by
  unfold loN hiN
  split <;> split <;> first | omega | (split <;> first | omega | (split <;> first | omega | (split <;> omega)))
theorem index_a5 (w : World) (cs : Array Value) (i : Nat) (k : IntKind) (v : Int) (hi : i < 5) (h : cs[i]? = some (.int k v)) :
    (Instr.index 126 (.agg cs) (.int .i64 i)).run Tryd.prog w = .ok (.int k v) w := by
  have hz := Tryd.underlying3
  have hi2 : (0 : Int) ≤ i ∧ (i : Int) < 5 := by omega
  simp [Instr.index, run_underlying Tryd.underlying126, asIntOf, hi2, go_sem, part, isAgg, run_underlying hz, h]
  intro k; omega
theorem lo_index (w : World) (f : Int) (hf : 0 ≤ f ∧ f < 5) :
    (Instr.index 126 (.agg #[.int .i64 0, .int .i64 0, .int .i64 1, .int .i64 1, .int .i64 0]) (.int .i64 f)).run Tryd.prog w = .ok (.int .i64 (loN f)) w := by
  have h5 : f = (0 : Nat) ∨ f = (1 : Nat) ∨ f = (2 : Nat) ∨ f = (3 : Nat) ∨ f = (4 : Nat) := by omega
  rcases h5 with rfl | rfl | rfl | rfl | rfl
  all_goals exact index_a5 w _ _ _ _ (by decide) rfl
theorem hi_index (w : World) (f : Int) (hf : 0 ≤ f ∧ f < 5) :
    (Instr.index 126 (.agg #[.int .i64 59, .int .i64 23, .int .i64 31, .int .i64 12, .int .i64 6]) (.int .i64 f)).run Tryd.prog w = .ok (.int .i64 (hiN f)) w := by
  have h5 : f = (0 : Nat) ∨ f = (1 : Nat) ∨ f = (2 : Nat) ∨ f = (3 : Nat) ∨ f = (4 : Nat) := by omega
  rcases h5 with rfl | rfl | rfl | rfl | rfl
  all_goals exact index_a5 w _ _ _ _ (by decide) rfl
set_option maxRecDepth 100000 in
theorem rlo_any (f : Int) (w : World) (hf : 0 ≤ f ∧ f < 5) : Calls Tryd.prog 63 #[.int .i64 f] w fun e w' => e = .returned (.int .i64 (loN f)) ∧ w = w' := by
  have hx := fun w => lo_index w f hf
  generalize ((loN f : Nat) : Int) = n at *
  go_enter Tryd.func63, Tryd.ntmps63
  go_wp2
  go_ret
  exact ⟨rfl, rfl⟩
set_option maxRecDepth 100000 in
theorem rhi_any (f : Int) (w : World) (hf : 0 ≤ f ∧ f < 5) : Calls Tryd.prog 64 #[.int .i64 f] w fun e w' => e = .returned (.int .i64 (hiN f)) ∧ w = w' := by
  have hx := fun w => hi_index w f hf
  generalize ((hiN f : Nat) : Int) = n at *
  go_enter Tryd.func64, Tryd.ntmps64
  go_wp2
  go_ret
  exact ⟨rfl, rfl⟩

theorem pow_62 (k : Nat) (h : k ≤ 63) : 2 ^ k ≤ 9223372036854775808 := by
  have : 2 ^ k ≤ 2 ^ 63 := Nat.pow_le_pow_right (by omega) h
  omega
set_option maxHeartbeats 1000000 in
set_option maxRecDepth 100000 in
theorem rbits_any (a b : Nat) (w : World) (hab : a ≤ b) (hb : b ≤ 62) :
    Calls Tryd.prog 62 #[.int .i64 a, .int .i64 b] w fun e w' => e = .returned (.int .u64 (spanN a b : Nat)) ∧ w = w' := by
  go_enter Tryd.func62, Tryd.ntmps62
  go_wp2
  go_loopg [5, 6] (b + 1 - a) (fun gk v iv wr => ∃ i x : Nat, iv = .int .i64 i ∧ v = .int .u64 x ∧ a ≤ i ∧ i ≤ b + 1 ∧ x < 18446744073709551616 ∧ Hid (x = 2 ^ i - 2 ^ a) ∧ gk = b + 1 - i ∧ wr = w)
  case atStart => exact ⟨a, 0, rfl, rfl, by omega, by omega, by omega, by show _ = _; omega, rfl, rfl⟩
  case round =>
    obtain ⟨i, x, rfl, rfl, hi1, hi2, hx, HX, hgk, rfl⟩ := hrel
    have HG := Lib.hid hgk
    clear hgk
    by_cases hlt : i ≤ b
    · have h1 : (i : Int) ≤ (b : Int) := by omega
      have hp := pow_62 i (by omega)
      have e1 : IntKind.u64.wrap ((2 : Int) ^ i) = ((2 ^ i : Nat) : Int) := (wrap_pow i (by omega)).1
      have hor := bits_or_u64_nat x (2 ^ i) hx (by omega)
      have HN : Hid (x ||| 2 ^ i = 2 ^ (i + 1) - 2 ^ a) := by show _ = _; rw [HX.out]; exact span_more a i hi1 (by omega)
      have hxl : x ||| 2 ^ i < 18446744073709551616 := Nat.or_lt_two_pow (n := 64) hx (by omega)
      go_wp2
      go_roundg (b + 1 - (i + 1))
      case measure => have := HG.out; omega
      case rel => exact ⟨i + 1, x ||| 2 ^ i, rfl, by first | rfl | (congr 1; done) | (congr 1; rw [← hor]; rfl), by omega, by omega, hxl, HN, rfl, rfl⟩
    · have h1 : ¬ (i : Int) ≤ (b : Int) := by omega
      have HN : Hid (x = spanN a b) := by
        show _ = _
        rw [HX.out, show i = b + 1 by omega]; rfl
      go_wp2
      go_ret
      exact ⟨by rw [HN.out]; rfl, rfl⟩
theorem rbits_i (x y : Int) (w : World) (h : 0 ≤ x ∧ x ≤ y ∧ y ≤ 62) :
    Calls Tryd.prog 62 #[.int .i64 x, .int .i64 y] w fun e w' => e = .returned (.int .u64 (spanN x.toNat y.toNat : Nat)) ∧ w = w' := by
  have := rbits_any x.toNat y.toNat w (by omega) (by omega)
  rw [Int.toNat_of_nonneg (by omega), Int.toNat_of_nonneg (by omega)] at this
  exact this
end Go.Proofs.YtdpaiaeaamokeaaDoor.Cron
