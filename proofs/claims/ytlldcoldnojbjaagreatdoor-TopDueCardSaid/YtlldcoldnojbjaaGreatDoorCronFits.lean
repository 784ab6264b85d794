/- The contract of cron.Expr.fits: may a date's day be? -/
import Derived.Test.YtlldcoldnojbjaaGreatDoorCronSpec
import Derived.Test.YtlldcoldnojbjaaGreatDoorProg
import Derived.Test.YtlldcoldnojbjaaGreatDoorKit
namespace Go.Proofs.YtlldcoldnojbjaaGreatDoor.Cron
open Go.RowKit Go

/-- Bit n of a word, as the program asks it. -/
theorem bit_and (b n : Nat) (hb : b < 18446744073709551616) : bits BinOp.and IntKind.u64 ((b : Int) / 2 ^ n) 1 = if b.testBit n then 1 else 0 := by
  have e : (b : Int) / 2 ^ n = ((b / 2 ^ n : Nat) : Int) := by push_cast; rfl
  have hd : b / 2 ^ n ≤ b := Nat.div_le_self _ _
  rw [e]
  have := u64_and_nat (b / 2 ^ n) 1 (by omega) (by omega)
  rw [show ((1 : Nat) : Int) = 1 by rfl] at this
  rw [this, Nat.and_one_is_mod, Nat.testBit_eq_decide_div_mod_eq]
  by_cases h : b / 2 ^ n % 2 = 1
  · simp [h]
  · have : b / 2 ^ n % 2 = 0 := by omega
    simp [this]
theorem bit_yes (b n : Nat) (hb : b < 18446744073709551616) (h : b.testBit n = true) : bits BinOp.and IntKind.u64 ((b : Int) / 2 ^ n) 1 = 1 := by rw [bit_and b n hb, h]; rfl
theorem bit_no (b n : Nat) (hb : b < 18446744073709551616) (h : b.testBit n = false) : bits BinOp.and IntKind.u64 ((b : Int) / 2 ^ n) 1 = 0 := by rw [bit_and b n hb, h]; rfl

/-- May a day be: of month m, day d, weekday k? -/
def dayOk (da mo wk : Nat) (ad aw : Bool) (m d k : Nat) : Bool :=
  mo.testBit m && (if ad && aw then true else if ad then wk.testBit k else if aw then da.testBit d else da.testBit d || wk.testBit k)

theorem below_alloc2 (w : World) (o o2 : Obj) (n : Nat) : Below w.heap.size w (((w.alloc o).alloc o2).drewN n) :=
  below_drewN (((Below.refl _ _).alloc (Nat.le_refl _) _).alloc (by simp) _) _

set_option maxHeartbeats 1000000 in
set_option maxRecDepth 100000 in
theorem fits_any (mi ho da mo wk : Nat) (ad aw : Bool) (m d k : Nat) (y h i : Int) (w : World) (hm : m ≤ 12) (hd : d ≤ 31) (hk : k ≤ 6) (hda : da < 18446744073709551616) (hmo : mo < 18446744073709551616) (hwk : wk < 18446744073709551616) :
    Calls Tryz.prog 20 #[.agg #[.int .u64 mi, .int .u64 ho, .int .u64 da, .int .u64 mo, .int .u64 wk, .bool ad, .bool aw], .agg #[.int .i64 y, .int .i64 m, .int .i64 d, .int .i64 h, .int .i64 i, .int .i64 k]] w fun e w' =>
      e = .returned (.bool (dayOk da mo wk ad aw m d k)) ∧ Below w.heap.size w w' := by
  cases hM : mo.testBit m with
  | false =>
    have f1 := bit_no mo m hmo hM
    have H1 : Hid (dayOk da mo wk ad aw m d k = false) := by show _ = _; simp [dayOk, hM]
    clear hM
    go_enter Tryz.func20, Tryz.ntmps20
    go_wp2
    go_quiet (fail)
    go_wp2
    go_ret
    exact ⟨ret_bool H1.out.symm, below_alloc2 _ _ _ _⟩
  | true =>
    have f1 := bit_yes mo m hmo hM
    have H1 := Lib.hid hM
    clear hM
    cases hK : wk.testBit k with
    | false =>
      have f2 := bit_no wk k hwk hK
      cases hD : da.testBit d with
      | false =>
        have f3 := bit_no da d hda hD
        have H2 := Lib.hid hK
        have H3 := Lib.hid hD
        clear hK hD
        cases ad <;> cases aw
        all_goals
          go_enter Tryz.func20, Tryz.ntmps20
          go_wp2
          go_quiet (fail)
          go_wp2
          go_ret
          exact ⟨ret_bool (by simp [dayOk, H1.out, H2.out, H3.out]), below_alloc2 _ _ _ _⟩
      | true =>
        have f3 := bit_yes da d hda hD
        have H2 := Lib.hid hK
        have H3 := Lib.hid hD
        clear hK hD
        cases ad <;> cases aw
        all_goals
          go_enter Tryz.func20, Tryz.ntmps20
          go_wp2
          go_quiet (fail)
          go_wp2
          go_ret
          exact ⟨ret_bool (by simp [dayOk, H1.out, H2.out, H3.out]), below_alloc2 _ _ _ _⟩
    | true =>
      have f2 := bit_yes wk k hwk hK
      cases hD : da.testBit d with
      | false =>
        have f3 := bit_no da d hda hD
        have H2 := Lib.hid hK
        have H3 := Lib.hid hD
        clear hK hD
        cases ad <;> cases aw
        all_goals
          go_enter Tryz.func20, Tryz.ntmps20
          go_wp2
          go_quiet (fail)
          go_wp2
          go_ret
          exact ⟨ret_bool (by simp [dayOk, H1.out, H2.out, H3.out]), below_alloc2 _ _ _ _⟩
      | true =>
        have f3 := bit_yes da d hda hD
        have H2 := Lib.hid hK
        have H3 := Lib.hid hD
        clear hK hD
        cases ad <;> cases aw
        all_goals
          go_enter Tryz.func20, Tryz.ntmps20
          go_wp2
          go_quiet (fail)
          go_wp2
          go_ret
          exact ⟨ret_bool (by simp [dayOk, H1.out, H2.out, H3.out]), below_alloc2 _ _ _ _⟩
end Go.Proofs.YtlldcoldnojbjaaGreatDoor.Cron
