/- The contract of the statements' 'within': a number from 0 to n - 1. -/
import Derived.Test.YteojfhnlbdehoaaProg
import Derived.Test.YteojfhnlbdehoaaKit
namespace Go.Proofs.Yteojfhnlbdehoaa
open Go.RowKit Go

theorem within5_any (a n : Int) (w : World) (h1 : 0 < n) (h2 : n ≤ 4611686018427387904) :
    Calls Try.prog 9 #[.int .i64 a, .int .i64 n] w fun e w' => e = .returned (.int .i64 (a % n)) ∧ w = w' := by
  obtain ⟨t1, t2, t3, t4⟩ := tmod_within a n h1
  have hz : (n == 0) = false := by simp; omega
  by_cases c : a.tmod n < 0
  · have H := Lib.hid (t1 c)
    clear t1 t2
    go_enter Try.func9, Try.ntmps9
    go_wp2
    go_ret
    exact ⟨ret_int H.out, rfl⟩
  · have H := Lib.hid (t2 c)
    clear t1 t2
    go_enter Try.func9, Try.ntmps9
    go_wp2
    go_ret
    exact ⟨ret_int H.out, rfl⟩

end Go.Proofs.Yteojfhnlbdehoaa
