/- The contract of math/bits.TrailingZeros64, laid at this program; what ctz and bitLen are, as the lowest and the highest bit. -/
import Derived.Shelf.Spec.TrailingZeros
import Derived.Test.YtdpaiaeaamokeaaDoorShelf
import Derived.Test.YtdpaiaeaamokeaaDoorCronSpec
namespace Go.Proofs
open Go.Shelf
def Tryd.laysT_ren : Go.Shelf.Ren := ⟨fun | 29 => 112 | n => n, fun | 0 => 0 | 3 => 3 | 4 => 4 | 5 => 5 | 22 => 33 | 25 => 129 | 54 => 155 | n => n, fun | 1 => 2 | n => n⟩
theorem Tryd.laysT29 : Lays7.n29 Tryd.prog Tryd.laysT_ren := {
  mixed := by kernel_rfl
  f29 := Tryd.func112.trans (congrArg some (by kernel_rfl))
  t0 := Tryd.underlying0
  a0 := Tryd.isAgg0
  z0 := Tryd.sizeOf0
  v0 := Tryd.zeroValue0
  i0 := by kernel_rfl
  t3 := Tryd.underlying3
  a3 := Tryd.isAgg3
  z3 := Tryd.sizeOf3
  v3 := Tryd.zeroValue3
  i3 := by kernel_rfl
  t4 := Tryd.underlying4
  a4 := Tryd.isAgg4
  z4 := Tryd.sizeOf4
  v4 := Tryd.zeroValue4
  i4 := by kernel_rfl
  t5 := Tryd.underlying5
  a5 := Tryd.isAgg5
  z5 := Tryd.sizeOf5
  v5 := Tryd.zeroValue5
  i5 := by kernel_rfl
  t22 := Tryd.underlying33
  a22 := Tryd.isAgg33
  z22 := Tryd.sizeOf33
  v22 := Tryd.zeroValue33
  i22 := by kernel_rfl
  t25 := Tryd.underlying129
  a25 := Tryd.isAgg129
  z25 := Tryd.sizeOf129
  v25 := Tryd.zeroValue129
  i25 := by kernel_rfl
  t54 := Tryd.underlying155
  a54 := Tryd.isAgg155
  z54 := Tryd.sizeOf155
  g1 := by kernel_rfl }
open Go.RowKit in
theorem Tryd.bits_TrailingZeros64 (x : Nat) (hx : x < 18446744073709551616) (w : World) (hT : x ≠ 0 → TabAt 2 Lib.deBruijn64tab w) :
    Calls Tryd.prog 112 #[.int .u64 x] w fun e w' => e = .returned (.int .i64 (Lib.ctz 64 x)) ∧ w' = w :=
  Any7.bits_TrailingZeros64 Tryd.laysT29 x hx w hT
end Go.Proofs
