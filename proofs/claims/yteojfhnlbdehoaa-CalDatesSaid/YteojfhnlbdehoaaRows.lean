/-
  No cell of these rows narrows 'for every input' (looked for: loops, veiled, ifaces, maps, wideKeys, modest, calm, conditions, laid).
  DERIVED. THE GIVEN ROWS OF THIS SEAT. 5 by the template 'for every input the law returns true; each argument reads behind the call as it read before'; 0 by the template 'total and deterministic' (their statements: YteojfhnlbdehoaaTotals.lean).
  GIVEN WITH THE SEED: the statements are not yours to turn. If you find one false, say at which input.
  Laid BY PROGRAM, IN A SANDBOX (cutbox-rows.mjs): the forced cells as the released guide's own fill.sh prints them over the translation 2237c41b4f9bc833… (all of the seat's roots in one cut). By AI agents, Wed Nov 11 2026. No macro, syntax, notation, axiom, sorry.
-/
import Derived.Test.YteojfhnlbdehoaaChecked
import GoSem.Claim
import GoSem.ClaimJoined
import GoSem.ClaimMapViews
import Derived.JoinedTies
import Derived.KernelRfl
namespace Go.Proofs.Yteojfhnlbdehoaa
/- THE CELL 'sum', in the pinned program and in every row, IS THE sha256 OF THE DUMP (.gsa) THAT YteojfhnlbdehoaaProg.lean LOADS. Nothing in Lean hashes anything: it is a label: what it is worth is what the hold of that sum in a sandbox is worth. -/
noncomputable def Try.pinned : Pinned := { name := "yteojfhnlbdehoaa", sum := "2237c41b4f9bc833ebc957457902c4e1c5852afc13221bf7f7525d4b56bb8081", checked := Try.checked }
namespace Rows
def none {H : Type} : Left H := { results := [], args := [] }

/-- 'horologelaw5.CalWeeks': WHATEVER THE INPUT: true; the input reads as it did. -/
def calWeeksSpec : ChangeSpec := { name := "calWeeks", fn := fun _ => fun
  | [d1, d2] => { results := [.lit (.bool true)], args := [d1, d2] }
  | _ => none }
def calWeeksRow : OpenClaim := { program := "yteojfhnlbdehoaa", sum := "2237c41b4f9bc833ebc957457902c4e1c5852afc13221bf7f7525d4b56bb8081", func := "horologe/horologelaw5.CalWeeks", spec := "calWeeks", apart := false }
def CalWeeksSaid : Prop := calWeeksRow.holds Try.pinned (OpenSpec.ofChange calWeeksSpec)

/-- ITS FALSE NEIGHBOUR: 'it returns false'. Refute it at one input. -/
def calWeeksWrong : ChangeSpec := { name := "calWeeks", fn := fun _ => fun
  | [d1, d2] => { results := [.lit (.bool false)], args := [d1, d2] }
  | _ => none }
def CalWeeksWrongFalsely : Prop := calWeeksRow.holds Try.pinned (OpenSpec.ofChange calWeeksWrong)

/-- 'horologelaw5.CalDates': WHATEVER THE INPUT: true; the input reads as it did. -/
def calDatesSpec : ChangeSpec := { name := "calDates", fn := fun _ => fun
  | [d1, d2] => { results := [.lit (.bool true)], args := [d1, d2] }
  | _ => none }
def calDatesRow : OpenClaim := { program := "yteojfhnlbdehoaa", sum := "2237c41b4f9bc833ebc957457902c4e1c5852afc13221bf7f7525d4b56bb8081", func := "horologe/horologelaw5.CalDates", spec := "calDates", apart := false }
def CalDatesSaid : Prop := calDatesRow.holds Try.pinned (OpenSpec.ofChange calDatesSpec)

/-- ITS FALSE NEIGHBOUR: 'it returns false'. Refute it at one input. -/
def calDatesWrong : ChangeSpec := { name := "calDates", fn := fun _ => fun
  | [d1, d2] => { results := [.lit (.bool false)], args := [d1, d2] }
  | _ => none }
def CalDatesWrongFalsely : Prop := calDatesRow.holds Try.pinned (OpenSpec.ofChange calDatesWrong)

/-- 'horologelaw5.CalBack': WHATEVER THE INPUT: true; the input reads as it did. -/
def calBackSpec : ChangeSpec := { name := "calBack", fn := fun _ => fun
  | [d] => { results := [.lit (.bool true)], args := [d] }
  | _ => none }
def calBackRow : OpenClaim := { program := "yteojfhnlbdehoaa", sum := "2237c41b4f9bc833ebc957457902c4e1c5852afc13221bf7f7525d4b56bb8081", func := "horologe/horologelaw5.CalBack", spec := "calBack", apart := false }
def CalBackSaid : Prop := calBackRow.holds Try.pinned (OpenSpec.ofChange calBackSpec)

/-- ITS FALSE NEIGHBOUR: 'it returns false'. Refute it at one input. -/
def calBackWrong : ChangeSpec := { name := "calBack", fn := fun _ => fun
  | [d] => { results := [.lit (.bool false)], args := [d] }
  | _ => none }
def CalBackWrongFalsely : Prop := calBackRow.holds Try.pinned (OpenSpec.ofChange calBackWrong)

/-- 'horologelaw5.CalYears': WHATEVER THE INPUT: true; the input reads as it did. -/
def calYearsSpec : ChangeSpec := { name := "calYears", fn := fun _ => fun
  | [d] => { results := [.lit (.bool true)], args := [d] }
  | _ => none }
def calYearsRow : OpenClaim := { program := "yteojfhnlbdehoaa", sum := "2237c41b4f9bc833ebc957457902c4e1c5852afc13221bf7f7525d4b56bb8081", func := "horologe/horologelaw5.CalYears", spec := "calYears", apart := false }
def CalYearsSaid : Prop := calYearsRow.holds Try.pinned (OpenSpec.ofChange calYearsSpec)

/-- ITS FALSE NEIGHBOUR: 'it returns false'. Refute it at one input. -/
def calYearsWrong : ChangeSpec := { name := "calYears", fn := fun _ => fun
  | [d] => { results := [.lit (.bool false)], args := [d] }
  | _ => none }
def CalYearsWrongFalsely : Prop := calYearsRow.holds Try.pinned (OpenSpec.ofChange calYearsWrong)

/-- 'horologelaw5.CalBounds': WHATEVER THE INPUT: true; the input reads as it did. -/
def calBoundsSpec : ChangeSpec := { name := "calBounds", fn := fun _ => fun
  | [d1, d2, d3, d4] => { results := [.lit (.bool true)], args := [d1, d2, d3, d4] }
  | _ => none }
def calBoundsRow : OpenClaim := { program := "yteojfhnlbdehoaa", sum := "2237c41b4f9bc833ebc957457902c4e1c5852afc13221bf7f7525d4b56bb8081", func := "horologe/horologelaw5.CalBounds", spec := "calBounds", apart := false }
def CalBoundsSaid : Prop := calBoundsRow.holds Try.pinned (OpenSpec.ofChange calBoundsSpec)

/-- ITS FALSE NEIGHBOUR: 'it returns false'. Refute it at one input. -/
def calBoundsWrong : ChangeSpec := { name := "calBounds", fn := fun _ => fun
  | [d1, d2, d3, d4] => { results := [.lit (.bool false)], args := [d1, d2, d3, d4] }
  | _ => none }
def CalBoundsWrongFalsely : Prop := calBoundsRow.holds Try.pinned (OpenSpec.ofChange calBoundsWrong)

/- THE SECOND FORM. 'bulk': how many values and letters a reading holds, each counted each time it is reached (what is shared counts as often as it is met; a slice's spare places count too). A statement '..UptoSaid' is the law's where the arguments, and the package variables that the reading takes, are together of bulk at most 1048576: NARROWER than '..Said'. Prove '..Said' where nothing that the law and all that it calls make is longer than what came in: it says more and counts as full. Else prove '..UptoSaid'. A law counts once. -/
mutual
def uptoBulk {H : Type} : DataW H → Nat
  | .lit (.string bytes) => bytes.length + 1
  | .lit _ => 1
  | .nil => 1
  | .ptr d => uptoBulk d + 1
  | .slice elems spare => uptoBulkAll elems + uptoBulkAll spare + 1
  | .agg parts => uptoBulkAll parts + 1
  | .iface _ d => uptoBulk d + 1
  | .map entries => uptoBulkEntries entries + 1
  | .held _ => 1
def uptoBulkAll {H : Type} : List (DataW H) → Nat
  | [] => 0
  | d :: r => uptoBulk d + uptoBulkAll r
def uptoBulkEntries {H : Type} : List (Lit × DataW H) → Nat
  | [] => 0
  | x :: r => uptoBulkEntry x + uptoBulkEntries r
def uptoBulkEntry {H : Type} : Lit × DataW H → Nat
  | (.string bytes, d) => bytes.length + uptoBulk d + 1
  | (_, d) => uptoBulk d + 1
 end
def uptoSmall : (H : Type) → List (DataW H) → Bool := fun _ ds => decide (uptoBulkAll ds ≤ 1048576)
def OpenSpec.upto (s : _root_.Go.ChangeSpec) : _root_.Go.OpenSpec := { _root_.Go.OpenSpec.ofChange s with cond := some uptoSmall }

/-- 'horologelaw5.CalWeeks', WHERE WHAT IT READS IS OF BULK AT MOST 1048576: true; the input reads as it did. -/
def calWeeksUptoRow : OpenClaim := { program := "yteojfhnlbdehoaa", sum := "2237c41b4f9bc833ebc957457902c4e1c5852afc13221bf7f7525d4b56bb8081", func := "horologe/horologelaw5.CalWeeks", spec := "calWeeks", apart := false, narrowed := true }
def CalWeeksUptoSaid : Prop := calWeeksUptoRow.holds Try.pinned (OpenSpec.upto calWeeksSpec)

/-- 'horologelaw5.CalDates', WHERE WHAT IT READS IS OF BULK AT MOST 1048576: true; the input reads as it did. -/
def calDatesUptoRow : OpenClaim := { program := "yteojfhnlbdehoaa", sum := "2237c41b4f9bc833ebc957457902c4e1c5852afc13221bf7f7525d4b56bb8081", func := "horologe/horologelaw5.CalDates", spec := "calDates", apart := false, narrowed := true }
def CalDatesUptoSaid : Prop := calDatesUptoRow.holds Try.pinned (OpenSpec.upto calDatesSpec)

/-- 'horologelaw5.CalBack', WHERE WHAT IT READS IS OF BULK AT MOST 1048576: true; the input reads as it did. -/
def calBackUptoRow : OpenClaim := { program := "yteojfhnlbdehoaa", sum := "2237c41b4f9bc833ebc957457902c4e1c5852afc13221bf7f7525d4b56bb8081", func := "horologe/horologelaw5.CalBack", spec := "calBack", apart := false, narrowed := true }
def CalBackUptoSaid : Prop := calBackUptoRow.holds Try.pinned (OpenSpec.upto calBackSpec)

/-- 'horologelaw5.CalYears', WHERE WHAT IT READS IS OF BULK AT MOST 1048576: true; the input reads as it did. -/
def calYearsUptoRow : OpenClaim := { program := "yteojfhnlbdehoaa", sum := "2237c41b4f9bc833ebc957457902c4e1c5852afc13221bf7f7525d4b56bb8081", func := "horologe/horologelaw5.CalYears", spec := "calYears", apart := false, narrowed := true }
def CalYearsUptoSaid : Prop := calYearsUptoRow.holds Try.pinned (OpenSpec.upto calYearsSpec)

/-- 'horologelaw5.CalBounds', WHERE WHAT IT READS IS OF BULK AT MOST 1048576: true; the input reads as it did. -/
def calBoundsUptoRow : OpenClaim := { program := "yteojfhnlbdehoaa", sum := "2237c41b4f9bc833ebc957457902c4e1c5852afc13221bf7f7525d4b56bb8081", func := "horologe/horologelaw5.CalBounds", spec := "calBounds", apart := false, narrowed := true }
def CalBoundsUptoSaid : Prop := calBoundsUptoRow.holds Try.pinned (OpenSpec.upto calBoundsSpec)

end Rows
end Go.Proofs.Yteojfhnlbdehoaa
