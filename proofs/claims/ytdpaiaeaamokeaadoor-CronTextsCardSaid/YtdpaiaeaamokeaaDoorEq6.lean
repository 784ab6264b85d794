/- Equality of the document's expressions. -/
import Derived.Test.YtdpaiaeaamokeaaDoorRefTold
import Derived.DeepKeys
namespace Go.Proofs.YtdpaiaeaamokeaaDoor.Cron
open Go.RowKit Go Go.Proofs.YtdpaiaeaamokeaaDoor.Cal
theorem info_u64x : (Tryd.prog.info? 33).isSome = true := by kernel_rfl
theorem cells_u64x : Tryd.prog.cellsOf 33 = 1 := by kernel_rfl
theorem part_u64 (w : World) (xs : Array Value) (i : Nat) (k : IntKind) (v : Int) (h : xs[i]? = some (.int k v)) : (part 33 xs i).run Tryd.prog w = Result.ok (.int k v) w := by
  have hz := Tryd.underlying33
  simp [part, isAgg, run_underlying hz, h]
theorem eq_a5 (w : World) (a0 a1 a2 a3 a4 b0 b1 b2 b3 b4 : Int) :
    (Op.equalIn 9999 38 (.agg #[.int .u64 a0, .int .u64 a1, .int .u64 a2, .int .u64 a3, .int .u64 a4]) (.agg #[.int .u64 b0, .int .u64 b1, .int .u64 b2, .int .u64 b3, .int .u64 b4])).run Tryd.prog w
      = .ok (a0 == b0 && (a1 == b1 && (a2 == b2 && (a3 == b3 && a4 == b4)))) w := by
  obtain ⟨i, hi⟩ := Option.isSome_iff_exists.1 info_u64x
  have hr : List.range 5 = [0, 1, 2, 3, 4] := by decide
  rw [show 9999 = 9998 + 1 from rfl, run_equalIn_array w 9998 _ _ Tryd.underlying38 hi, cells_u64x, hr]
  have he : ∀ (a b : Int), (Op.equalIn 9998 33 (.int .u64 a) (.int .u64 b)).run Tryd.prog w = .ok (a == b) w := fun a b => run_equalIn_int w 9997 _ _ _ a b Tryd.underlying33
  have p : ∀ (xs : Array Value) (i : Nat) (v : Int), xs[i]? = some (.int .u64 v) → (part 33 xs i).run Tryd.prog w = Result.ok (.int .u64 v) w := fun xs i v h => part_u64 w xs i _ v h
  cases h0 : (a0 == b0) <;> cases h1 : (a1 == b1) <;> cases h2 : (a2 == b2) <;> cases h3 : (a3 == b3) <;> cases h4 : (a4 == b4) <;>
    simp only [Op.eqItems, Sem.run_bind] <;> simp [p, he, h0, h1, h2, h3, h4]
end Go.Proofs.YtdpaiaeaamokeaaDoor.Cron
