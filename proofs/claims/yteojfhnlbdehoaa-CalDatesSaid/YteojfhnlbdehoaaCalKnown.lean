/- The chapter's examples hold: horologelaw5.known answers true; cal.Of's contract in the form that the statements use. -/
import Derived.Test.YteojfhnlbdehoaaWithin
import Derived.Test.YteojfhnlbdehoaaCalMinuteIn
namespace Go.Proofs.Yteojfhnlbdehoaa.Cal
open Go.RowKit Go

/-- cal.Of of a minute of the calendar: N its minute from the first one on. -/
theorem of_at (n : Int) (w : World) (h1 : -1035593280 ≤ n) (h2 : n ≤ 4223371679) :
    Calls Try.prog 10 #[.int .i64 n] w fun e w' => SomeDate ((n + 1035593280) / 1440) ((n + 1035593280) % 1440) ((n + 1035593280) % 60) e ∧ Below w.heap.size w w' :=
  of_in n _ _ _ w h1 h2 rfl rfl rfl

theorem of_lit (n D R M y m d : Int) (w : World) (h1 : -1035593280 ≤ n) (h2 : n ≤ 4223371679) (hD : (n + 1035593280) / 1440 = D) (hR : (n + 1035593280) % 1440 = R) (hM : (n + 1035593280) % 60 = M) (hd : IsDay D y m d) :
    Calls Try.prog 10 #[.int .i64 n] w fun e w' =>
      e = .returned (.tuple #[.agg #[.int .i64 y, .int .i64 m, .int .i64 d, .int .i64 (R / 60), .int .i64 M, .int .i64 ((D + 1) % 7)], .int .i64 0]) ∧ Below w.heap.size w w' := by
  refine (of_in n D R M w h1 h2 hD hR hM).mono ?_
  rintro e w' ⟨⟨y', m', d', he, hd'⟩, hb⟩
  obtain ⟨rfl, rfl, rfl⟩ := hd.uniq hd'
  exact ⟨he, hb⟩

theorem day1970 : IsDay 719162 1970 1 1 := ⟨by decide, by decide, by decide, by decide, by decide, by decide⟩
theorem day1969 : IsDay 719161 1969 12 31 := ⟨by decide, by decide, by decide, by decide, by decide, by decide⟩

set_option maxRecDepth 100000 in
theorem known5 (w : World) : Calls Try.prog 8 #[] w fun e w' => e = .returned (.bool true) ∧ Below w.heap.size w w' := by
  go_enter Try.func8, Try.ntmps8
  go_wp2_with fail
  go_at_call 10
  refine (of_lit 0 719162 0 0 1970 1 1 _ (by omega) (by omega) (by omega) (by omega) (by omega) day1970).mono ?_
  rintro e w1 ⟨rfl, hb1⟩
  go_wp2_with fail
  go_at_call 10
  refine (of_lit (-1) 719161 1439 59 1969 12 31 _ (by omega) (by omega) (by omega) (by omega) (by omega) day1969).mono ?_
  rintro e w2 ⟨rfl, hb2⟩
  obtain ⟨hc, hf⟩ := bcell hb2
  have hz : w1.heap.size < w2.heap.size := by have := hb2.size; simp at this; omega
  go_wp2
  go_ret
  exact ⟨rfl, bmore (bthen (bmore hb1 _) hb2) _⟩

end Go.Proofs.Yteojfhnlbdehoaa.Cal
