/- A date that comes in, opened to its six numbers. -/
import Derived.Test.YteojfhnlbdehoaaProg
import Derived.WalkKit
import Derived.ProofKit
import Derived.OpenShut
import Derived.KernelRfl
namespace Go.Proofs.Yteojfhnlbdehoaa
open Go.ChangeShapes Go.WideShapes Go.ChangeAt Go.RowKit Go

theorem cells_int : Try.prog.cellsOf 3 = 1 := by kernel_rfl
theorem cells_date : Try.prog.cellsOf 25 = 6 := by kernel_rfl

theorem open_date {H : Type} {enc : TypeId × Value → H} {w : World} {r : Reach} {b0 base : Nat} {spare : Nat → Bool} {held : Bool} {v : Value} {d : DataW H} {p : List MemPlace}
    (hv : Value.okWide Try.prog w r b0 25 v) (h : DataW.Trod enc Try.prog w base spare held 25 v d p) :
    ∃ a0 a1 a2 a3 a4 a5 : Int, v = .agg #[.int .i64 a0, .int .i64 a1, .int .i64 a2, .int .i64 a3, .int .i64 a4, .int .i64 a5] := by
  obtain ⟨cs, rfl, hsz⟩ := okWide_struct Try.underlying25 hv
  obtain ⟨l⟩ := cs
  match l, hsz.trans cells_date with
  | [c0, c1, c2, c3, c4, c5], _ =>
    obtain ⟨fuel, hf⟩ := h
    obtain ⟨xs, n, _, hx, _, hlen, hg⟩ := DataW.trod_struct Try.underlying25 hf
    match xs, hlen with
    | [y0, y1, y2, y3, y4, y5], _ =>
      have g0 := hg 0 _ rfl
      have g1 := hg 1 _ rfl
      have g2 := hg 2 _ rfl
      have g3 := hg 3 _ rfl
      have g4 := hg 4 _ rfl
      have g5 := hg 5 _ rfl
      simp [Value.cells, cells_int] at g0 g1 g2 g3 g4 g5
      obtain ⟨a0, e0, _, _⟩ := DataW.trod_int Try.underlying3 g0
      obtain ⟨a1, e1, _, _⟩ := DataW.trod_int Try.underlying3 g1
      obtain ⟨a2, e2, _, _⟩ := DataW.trod_int Try.underlying3 g2
      obtain ⟨a3, e3, _, _⟩ := DataW.trod_int Try.underlying3 g3
      obtain ⟨a4, e4, _, _⟩ := DataW.trod_int Try.underlying3 g4
      obtain ⟨a5, e5, _, _⟩ := DataW.trod_int Try.underlying3 g5
      simp at e0 e1 e2 e3 e4 e5
      subst e0 e1 e2 e3 e4 e5
      exact ⟨_, _, _, _, _, _, rfl⟩
end Go.Proofs.Yteojfhnlbdehoaa
