/- The contract of math/bits.TrailingZeros64, laid at this program; what ctz and bitLen are, as the lowest and the highest bit. -/
import Derived.Shelf.Spec.TrailingZeros
import Derived.Test.YtlldcoldnojbjaaGreatDoorShelf
import Derived.Test.YtlldcoldnojbjaaGreatDoorCronSpec
namespace Go.Proofs
open Go.Shelf
def Tryz.laysT_ren : Go.Shelf.Ren := ⟨fun | 29 => 65 | n => n, fun | 0 => 0 | 3 => 3 | 4 => 4 | 5 => 5 | 22 => 23 | 25 => 183 | 54 => 191 | n => n, fun | 1 => 2 | n => n⟩
theorem Tryz.laysT29 : Lays7.n29 Tryz.prog Tryz.laysT_ren := {
  mixed := by kernel_rfl
  f29 := Tryz.func65.trans (congrArg some (by kernel_rfl))
  t0 := Tryz.underlying0
  a0 := Tryz.isAgg0
  z0 := Tryz.sizeOf0
  v0 := Tryz.zeroValue0
  i0 := by kernel_rfl
  t3 := Tryz.underlying3
  a3 := Tryz.isAgg3
  z3 := Tryz.sizeOf3
  v3 := Tryz.zeroValue3
  i3 := by kernel_rfl
  t4 := Tryz.underlying4
  a4 := Tryz.isAgg4
  z4 := Tryz.sizeOf4
  v4 := Tryz.zeroValue4
  i4 := by kernel_rfl
  t5 := Tryz.underlying5
  a5 := Tryz.isAgg5
  z5 := Tryz.sizeOf5
  v5 := Tryz.zeroValue5
  i5 := by kernel_rfl
  t22 := Tryz.underlying23
  a22 := Tryz.isAgg23
  z22 := Tryz.sizeOf23
  v22 := Tryz.zeroValue23
  i22 := by kernel_rfl
  t25 := Tryz.underlying183
  a25 := Tryz.isAgg183
  z25 := Tryz.sizeOf183
  v25 := Tryz.zeroValue183
  i25 := by kernel_rfl
  t54 := Tryz.underlying191
  a54 := Tryz.isAgg191
  z54 := Tryz.sizeOf191
  g1 := by kernel_rfl }
open Go.RowKit in
theorem Tryz.bits_TrailingZeros64 (x : Nat) (hx : x < 18446744073709551616) (w : World) (hT : x ≠ 0 → TabAt 2 Lib.deBruijn64tab w) :
    Calls Tryz.prog 65 #[.int .u64 x] w fun e w' => e = .returned (.int .i64 (Lib.ctz 64 x)) ∧ w' = w :=
  Any7.bits_TrailingZeros64 Tryz.laysT29 x hx w hT
end Go.Proofs
