/- The contract of cron.span: the bits from one number to another one. -/
import Derived.Test.YtlldcoldnojbjaaGreatDoorProg
import Derived.Test.YtlldcoldnojbjaaGreatDoorKit
import Derived.Test.YtlldcoldnojbjaaGreatDoorCronSpec
namespace Go.Proofs.YtlldcoldnojbjaaGreatDoor.Cron
open Go.RowKit Go

theorem wrap_pow (k : Nat) (h : k ≤ 63) : IntKind.u64.wrap (2 ^ k) = ((2 ^ k : Nat) : Int) ∧ IntKind.u64.wrap (IntKind.u64.wrap (2 ^ k) - 1) = ((2 ^ k - 1 : Nat) : Int) := by
  have h1 : 2 ^ k ≤ 2 ^ 63 := Nat.pow_le_pow_right (by omega) h
  have h2 : 1 ≤ 2 ^ k := Nat.one_le_two_pow
  have e : (2 : Int) ^ k = ((2 ^ k : Nat) : Int) := by push_cast; rfl
  rw [e]
  generalize 2 ^ k = n at *
  have a : IntKind.u64.wrap (n : Int) = n := IntWalk.u64_in _ (by omega)
  refine ⟨a, ?_⟩
  rw [a, IntWalk.u64_in _ (by omega)]
  omega
theorem span_word (a b : Nat) (h : a ≤ b) (hb : b ≤ 62) :
    bits BinOp.andNot IntKind.u64 (IntKind.u64.wrap (IntKind.u64.wrap (2 ^ (b + 1)) - 1)) (IntKind.u64.wrap (IntKind.u64.wrap (2 ^ a) - 1)) = (spanN a b : Nat) := by
  rw [(wrap_pow (b + 1) (by omega)).2, (wrap_pow a (by omega)).2]
  have h1 : 2 ^ (b + 1) ≤ 2 ^ 63 := Nat.pow_le_pow_right (by omega) (by omega)
  have h2 : 2 ^ a ≤ 2 ^ 63 := Nat.pow_le_pow_right (by omega) (by omega)
  rw [u64_andNot_nat _ _ (by omega) (by omega), span_bits a b h (by omega)]

theorem span_any (a b : Nat) (w : World) (h : a ≤ b) (hb : b ≤ 62) :
    Calls Tryz.prog 41 #[.int .i64 a, .int .i64 b] w fun e w' => e = .returned (.int .u64 (spanN a b : Nat)) ∧ ∃ n, w' = w.drewN n := by
  go_enter Tryz.func41, Tryz.ntmps41
  go_wp2
  go_quiet (fail)
  go_wp2
  go_ret
  exact ⟨ret_int (span_word a b h hb), _, rfl⟩
theorem span_bel (a b : Nat) (w : World) (h : a ≤ b) (hb : b ≤ 62) :
    Calls Tryz.prog 41 #[.int .i64 a, .int .i64 b] w fun e w' => e = .returned (.int .u64 (spanN a b : Nat)) ∧ Below w.heap.size w w' :=
  (span_any a b w h hb).mono fun _ _ ⟨he, _, hw⟩ => ⟨he, hw ▸ below_drewN (Below.refl _ _) _⟩
end Go.Proofs.YtlldcoldnojbjaaGreatDoor.Cron
