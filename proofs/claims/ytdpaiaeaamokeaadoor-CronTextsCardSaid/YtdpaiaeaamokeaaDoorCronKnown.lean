/- The chapter's example holds: horologelaw6.known answers true; within, minute. -/
import Derived.Test.YtdpaiaeaamokeaaDoorCronNext
import Derived.Test.YtdpaiaeaamokeaaDoorCronPrev
import Derived.Test.YtdpaiaeaamokeaaDoorCronText
import Derived.Test.YtdpaiaeaamokeaaDoorCronLeap
import Derived.Test.YtdpaiaeaamokeaaDoorCronDaysP
import Derived.Test.YtdpaiaeaamokeaaDoorCalMinuteIn
namespace Go.Proofs.YtdpaiaeaamokeaaDoor.Cron
open Go.RowKit Go Go.Proofs.YtdpaiaeaamokeaaDoor.Cal

/-- What the statements' start gives: the tables that the library reads. -/
structure Laid (w : World) : Prop where
  tabs : Tabs w
  max : MaxOk w
  db : TabAt 2 Lib.deBruijn64tab w
theorem Laid.below {w w' : World} (h : Laid w) (hb : Below w.heap.size w w') : Laid w' := ⟨h.tabs.below hb, h.max.below hb, h.db.below hb⟩

theorem pres_ok (s : ByteArray) : ExOk (pres s).1 := by
  have key : ∀ e, ExFit e → ExOk e := by
    intro e h
    have big : ∀ b lo hi, InBd b lo hi → hi < 64 → b < 18446744073709551616 := by
      intro b lo hi hb hh
      apply Nat.lt_of_not_le
      intro hc
      obtain ⟨i, hi1, hi2⟩ := Nat.exists_ge_and_testBit_of_ge_two_pow (n := 64) (x := b) hc
      have := hb i hi2
      omega
    exact ⟨big _ _ _ h.mi.1 (by omega), big _ _ _ h.ho.1 (by omega), big _ _ _ h.da.1 (by omega), big _ _ _ h.mo.1 (by omega), big _ _ _ h.wk.1 (by omega)⟩
  unfold pres
  split
  · exact ⟨by decide, by decide, by decide, by decide, by decide⟩
  · split
    · exact ⟨by decide, by decide, by decide, by decide, by decide⟩
    · exact key _ (pex_fit _ _ ‹_›)

theorem within6 (a n : Int) (w : World) (h1 : 0 < n) (h2 : n ≤ 4611686018427387904) :
    Calls Tryd.prog 21 #[.int .i64 a, .int .i64 n] w fun e w' => e = .returned (.int .i64 (a % n)) ∧ w = w' := by
  obtain ⟨t1, t2, t3, t4⟩ := tmod_within a n h1
  have hz : (n == 0) = false := by simp; omega
  by_cases c : a.tmod n < 0
  · have H := Lib.hid (t1 c)
    clear t1 t2
    go_enter Tryd.func21, Tryd.ntmps21
    go_wp2
    go_ret
    exact ⟨ret_int H.out, rfl⟩
  · have H := Lib.hid (t2 c)
    clear t1 t2
    go_enter Tryd.func21, Tryd.ntmps21
    go_wp2
    go_ret
    exact ⟨ret_int H.out, rfl⟩
theorem minute6 (n m : Int) (w : World) (hm : n % 5250000000 - 1035500000 = m) :
    Calls Tryd.prog 22 #[.int .i64 n] w fun e w' => e = .returned (.int .i64 m) ∧ w = w' := by
  obtain ⟨k, hk⟩ : ∃ k, n % 5250000000 = k := ⟨_, rfl⟩
  have hkb : 0 ≤ k ∧ k < 5250000000 := by omega
  rw [hk] at hm
  have HK := Lib.hid hk
  clear hk
  go_enter Tryd.func22, Tryd.ntmps22
  go_wp2_with fail
  go_at_call 21
  refine (within6 n 5250000000 _ (by omega) (by omega)).mono ?_
  rintro x w1 ⟨rfl, rfl⟩
  rw [HK.out]
  go_wp2
  go_ret
  exact ⟨rfl, rfl⟩
theorem minute_lit (y m d h mi wd v : Int) (w : World) (hv : okd y m d h mi) (e : -1035593280 + (ah y + d - 1 + cum y m) * 1440 + 60 * h + mi = v) :
    Calls Tryd.prog 54 #[.agg #[.int .i64 y, .int .i64 m, .int .i64 d, .int .i64 h, .int .i64 mi, .int .i64 wd]] w fun x w' =>
      x = .returned (.tuple #[.int .i64 v, .int .i64 0]) ∧ Below w.heap.size w w' := by subst e; exact minute_in y m d h mi wd w hv

theorem known_pres : pres ⟨#[48, 32, 48, 32, 50, 57, 32, 50, 32, 42]⟩ = (exL, 0) := by decide +kernel
theorem known_text : ((bytesOf (textL exL)).toList == [48, 32, 48, 32, 50, 57, 32, 50, 32, 42]) = true := by
  rw [Lib.toList_data]
  show ((textL exL) == _) = true
  decide +kernel

set_option maxHeartbeats 1000000 in
set_option maxRecDepth 100000 in
theorem known6 (w : World) (hL : Laid w) : Calls Tryd.prog 15 #[] w fun e w' => e = .returned (.bool true) ∧ Below w.heap.size w w' := by
  go_enter Tryd.func15, Tryd.ntmps15
  go_wp2_with fail
  go_at_call 16
  refine (parse_any _ _ hL.tabs hL.max (by decide)).mono ?_
  rintro x w1 ⟨hx, hb1⟩
  unfold ParPost at hx
  rw [known_pres] at hx
  have hOk : ExOk exL := by have := pres_ok ⟨#[48, 32, 48, 32, 50, 57, 32, 50, 32, 42]⟩; rw [known_pres] at this; exact this
  have ht := known_text
  have hN := known_next
  dsimp only at hx
  generalize exL = e at hx hOk ht hN
  obtain ⟨mi, ho, da, mo, wk, ad, aw⟩ := e
  unfold exV at hx
  subst hx
  have HOk : Hid (ExOk ⟨mi, ho, da, mo, wk, ad, aw⟩) := hOk
  have HN : Hid (NextIs ⟨mi, ho, da, mo, wk, ad, aw⟩ 66356640 70561440 0) := hN
  clear hOk hN
  have hbel := hb1
  clear hb1
  go_wp2_with fail
  go_at_call 54
  refine (minute_lit 2096 3 1 0 0 0 66356640 _ ⟨by decide, by decide, by decide, by decide, by decide, by decide, by decide, by decide⟩ (by decide)).mono ?_
  rintro x w2 ⟨rfl, hb2⟩
  have hB2 := keepN hb2
  have hz2 := size1 hb2
  have hbel2 := bthen (bmore hbel _) hb2
  clear hb2 hbel
  go_wp2_with fail
  go_at_call 54
  refine (minute_lit 2104 2 29 0 0 0 70561440 _ ⟨by decide, by decide, by decide, by decide, by decide, by decide, by decide, by decide⟩ (by decide)).mono ?_
  rintro x w3 ⟨rfl, hb3⟩
  have hB3 := fun o => (keep0 hb3 hz2 o).trans (hB2 o)
  have hz3 := Nat.lt_of_lt_of_le hz2 hb3.size
  have hbel3 := bthen hbel2 hb3
  clear hb3 hbel2 hB2 hz2
  go_wp2_with fail
  go_at_call 25
  refine (next_any ⟨mi, ho, da, mo, wk, ad, aw⟩ 66356640 _ HOk.out (hL.below hbel3).db).mono ?_
  rintro x w4 ⟨⟨r, c, rfl, hn⟩, hb4⟩
  obtain ⟨rfl, rfl⟩ := hn.uniq HN.out
  have hB4 := fun o => (keep0 hb4 hz3 o).trans (hB3 o)
  have hbel4 := bthen hbel3 hb4
  clear hb4 hbel3 hB3 hz3 hn
  go_wp2_with fail
  go_at_call 19
  refine (text_any ⟨mi, ho, da, mo, wk, ad, aw⟩ _ HOk.out).mono ?_
  rintro x w5 ⟨rfl, hb5⟩
  have hbel5 := bthen hbel4 hb5
  clear hb5 hbel4 hB4
  go_wp2
  go_ret
  exact ⟨rfl, hbel5⟩
end Go.Proofs.YtdpaiaeaamokeaaDoor.Cron
