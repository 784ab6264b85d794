/- CronNever, walked. -/
import Derived.Test.YtggcnbdpobbkaaaDoorCronKnown
import Derived.OpenShut
namespace Go.Proofs.YtggcnbdpobbkaaaDoor.Cron
open Go.RowKit Go Go.Proofs.YtggcnbdpobbkaaaDoor.Cal

theorem pres_exN : pres ⟨#[48, 32, 48, 32, 51, 48, 32, 50, 32, 42]⟩ = (exN, 0) := by decide +kernel
/-- What Next answers at the leap days' expression. -/
def NevAns (ym m n i : Int) : Prop := (i = 0 ∧ -1035593280 ≤ n ∧ n ≤ 4223371679 ∧ ∃ y, IsDay ((n + 1035593280) / 1440) y 2 29 ∧ lp y = true) ∨ (i = 28 ∧ n = 0 ∧ 9991 < ym)
theorem nev_ans {ym mm dd m n i : Int} (h1 : -1035593280 ≤ m) (h2 : m ≤ 4223371679) (hd : IsDay ((m + 1035593280) / 1440) ym mm dd) (h : NextIs exL m n i) : NevAns ym m n i := by
  rcases h with ⟨k, -⟩ | ⟨-, -, k3, k4, k5, k6, -⟩ | ⟨-, -, k3, k4, k5⟩
  · omega
  · obtain ⟨a, b, c, y, hy⟩ := (exL_match n).1 k6
    exact .inl ⟨k3, a, b, y, hy, (leap_day hy).1⟩
  · refine .inr ⟨k3, k4, ?_⟩
    by_cases c : 9991 < ym
    · exact c
    · obtain ⟨p, p1, p2, p3⟩ := leap_near m ym mm dd h1 hd (by omega)
      exact absurd p3 (k5 p p1 p2)

set_option maxHeartbeats 1000000 in
set_option maxRecDepth 100000 in
theorem never_walk (a0 : Int) (w0 : (Lit.int .i64 a0).wf = true) (w : World) (hL : Laid w) :
    Calls Tryd.prog 6 #[.int .i64 a0] w fun e w' => e = .returned (.bool true) ∧ Below w.heap.size w w' := by
  obtain ⟨m, hm⟩ : ∃ m, a0 % 5250000000 - 1035500000 = m := ⟨_, rfl⟩
  have hmb : -1035500000 ≤ m ∧ m ≤ 4214499999 := by omega
  obtain ⟨ym, mm, dd, hday⟩ := day_ex ((m + 1035593280) / 1440) (by omega)
  have HA : Hid (∀ n i, NextIs exL m n i → NevAns ym m n i) := fun n i h => nev_ans (by omega) (by omega) hday h
  have HM := Lib.hid hm
  have HD := Lib.hid hday
  clear hm hday
  have HN : Hid (NextIs exN m 0 28) := .inr (.inr ⟨by omega, by omega, rfl, rfl, fun k _ _ => exN_match k⟩)
  have HX1 := Lib.hid pres_exN
  have HX2 := Lib.hid known_pres
  have HO1 : Hid (ExOk exN) := by have h := pres_ok ⟨#[48, 32, 48, 32, 51, 48, 32, 50, 32, 42]⟩; rw [pres_exN] at h; exact h
  have HO2 : Hid (ExOk exL) := by have h := pres_ok ⟨#[48, 32, 48, 32, 50, 57, 32, 50, 32, 42]⟩; rw [known_pres] at h; exact h
  generalize exN = e1 at HN HX1 HO1
  generalize exL = e2 at HA HX2 HO2
  obtain ⟨mi, ho, da, mo, wk, ad, aw⟩ := e1
  obtain ⟨mi2, ho2, da2, mo2, wk2, ad2, aw2⟩ := e2
  go_enter Tryd.func6, Tryd.ntmps6
  go_wp2_with fail
  go_at_call 24
  refine (known6 _ hL).mono ?_
  rintro x wk0 ⟨rfl, hbel⟩
  have hL1 := hL.below hbel
  go_wp2_with fail
  go_at_call 25
  refine (parse_any _ _ hL1.tabs hL1.max (by decide)).mono ?_
  rintro x wp ⟨hx, hbp⟩
  unfold ParPost exV at hx
  rw [HX1.out] at hx
  subst hx
  have hbel2 := bthen hbel hbp
  clear hbel hbp hL1
  go_wp2
  have hc := alloc_new wp #[.int .u64 mi, .int .u64 ho, .int .u64 da, .int .u64 mo, .int .u64 wk, .bool ad, .bool aw] 37
  have hgl : wp.heap.size < (wp.alloc (.cells #[.int .u64 mi, .int .u64 ho, .int .u64 da, .int .u64 mo, .int .u64 wk, .bool ad, .bool aw] 37)).heap.size := by simp
  have hBW1 := Lib.hid (bmore hbel2 (.cells #[.int .u64 mi, .int .u64 ho, .int .u64 da, .int .u64 mo, .int .u64 wk, .bool ad, .bool aw] 37))
  clear hbel2
  generalize wp.alloc (.cells #[.int .u64 mi, .int .u64 ho, .int .u64 da, .int .u64 mo, .int .u64 wk, .bool ad, .bool aw] 37) = W1 at *
  have hbs : Below W1.heap.size W1 W1 := Below.refl _ _
  go_region_held3 (fun w' => (∀ o, w'.cell? ⟨wp.heap.size, o, none⟩ = (#[.int .u64 mi, .int .u64 ho, .int .u64 da, .int .u64 mo, .int .u64 wk, .bool ad, .bool aw] : Array Value)[o]?) ∧ Below W1.heap.size W1 w')
    (first
      | with_reducible exact txt_keep hc hgl hbs.drew
      | (with_reducible refine txt_keep hc hgl (bthen ?_ hb)
         first | assumption | exact hbs.drew | (go_split_ands; assumption))
      | go_keep)
    (first
      | (go_at_call 31; refine (minute6 a0 m _ HM.out).mono ?_; rintro e w4 ⟨rfl, rfl⟩)
      | (go_at_call 30; refine (next_any ⟨mi, ho, da, mo, wk, ad, aw⟩ m _ HO1.out (hL.below (bthen hBW1.out (by first | exact hbs.drew | assumption | (go_split_ands; assumption)))).db).mono ?_; rintro x w5 ⟨⟨r, c, rfl, hn⟩, hb⟩; obtain ⟨rfl, rfl⟩ := HN.out.uniq hn; clear hn))
  all_goals (
    rename_i hHeld1
    have hbel3 := bthen hBW1.out hHeld1.2
    clear hb hHeld1 hc hgl hbs
    have hL3 := hL.below hbel3
    go_wp2_with fail
    go_at_call 25
    refine (parse_any _ _ hL3.tabs hL3.max (by decide)).mono ?_
    rintro x w4 ⟨hx, hb4⟩
    unfold ParPost exV at hx
    rw [HX2.out] at hx
    subst hx
    have hbel4 := bthen hbel3 hb4
    clear hb4 hbel3 hL3
    go_wp2
    have hc := alloc_new w4 #[.int .u64 mi2, .int .u64 ho2, .int .u64 da2, .int .u64 mo2, .int .u64 wk2, .bool ad2, .bool aw2] 37
    have hgl : w4.heap.size < (w4.alloc (.cells #[.int .u64 mi2, .int .u64 ho2, .int .u64 da2, .int .u64 mo2, .int .u64 wk2, .bool ad2, .bool aw2] 37)).heap.size := by simp
    have hBW2 := Lib.hid (bmore hbel4 (.cells #[.int .u64 mi2, .int .u64 ho2, .int .u64 da2, .int .u64 mo2, .int .u64 wk2, .bool ad2, .bool aw2] 37))
    clear hbel4
    generalize w4.alloc (.cells #[.int .u64 mi2, .int .u64 ho2, .int .u64 da2, .int .u64 mo2, .int .u64 wk2, .bool ad2, .bool aw2] 37) = W2 at *
    have hbs : Below W2.heap.size W2 W2 := Below.refl _ _
    go_region_held3 (fun w' => (∀ o, w'.cell? ⟨w4.heap.size, o, none⟩ = (#[.int .u64 mi2, .int .u64 ho2, .int .u64 da2, .int .u64 mo2, .int .u64 wk2, .bool ad2, .bool aw2] : Array Value)[o]?) ∧ Below W2.heap.size W2 w')
      (first
        | with_reducible exact txt_keep hc hgl hbs.drew
        | (with_reducible refine txt_keep hc hgl (bthen ?_ hb)
           first | assumption | exact hbs.drew | (go_split_ands; assumption))
        | go_keep)
      (first
        | (go_at_call 31; refine (minute6 a0 m _ HM.out).mono ?_; rintro e w44 ⟨rfl, rfl⟩)
        | (go_at_call 30; refine (next_any ⟨mi2, ho2, da2, mo2, wk2, ad2, aw2⟩ m _ HO2.out (hL.below (bthen hBW2.out (by first | exact hbs.drew | assumption | (go_split_ands; assumption)))).db).mono ?_; rintro x w5 ⟨⟨n, i, rfl, hn⟩, hb⟩; have hans := HA.out n i hn; clear hn))
    all_goals (
      rename_i hHeld2
      have hbel6 := bthen hBW2.out hHeld2.2
      clear hb hHeld2 hc hgl hbs
      rcases hans with ⟨rfl, n1, n2, y, hy, hly⟩ | ⟨rfl, rfl, hbig⟩
      · have HLY := Lib.hid hly
        clear hly
        go_wp2_with fail
        go_at_call 32
        refine (of_in n _ _ _ _ n1 n2 rfl rfl rfl).mono ?_
        rintro x w7 ⟨⟨y', m', d', rfl, hd'⟩, hb7⟩
        obtain ⟨rfl, rfl, rfl⟩ := hy.uniq hd'
        have hbel7 := bthen hbel6 hb7
        clear hb7 hbel6 hd' hy
        go_wp2_with fail
        go_at_call 31
        refine (minute6 a0 m _ HM.out).mono ?_
        rintro x w8 ⟨rfl, rfl⟩
        go_wp2_with fail
        go_at_call 32
        refine (of_in m _ _ _ _ (by omega) (by omega) rfl rfl rfl).mono ?_
        rintro x w9 ⟨⟨y9, m9, d9, rfl, hd9⟩, hb9⟩
        obtain ⟨rfl, rfl, rfl⟩ := HD.out.uniq hd9
        have hc := keepN hb9
        have hz := size1 hb9
        have hbel9 := bthen (bmore hbel7 _) hb9
        clear hb9 hbel7 hd9
        by_cases hbig : 9991 < ym
        · go_wp2
          go_ret
          exact ⟨rfl, bmore hbel9 _⟩
        · have HL := HLY.out
          go_wp2_with fail
          go_at_call 33
          refine (leap_any _ _).mono ?_
          rintro x w10 ⟨rfl, rfl⟩
          rw [HL]
          go_wp2
          go_ret
          exact ⟨rfl, bmore hbel9 _⟩
      · go_wp2_with fail
        go_at_call 32
        refine (of_in 0 _ _ _ _ (by omega) (by omega) rfl rfl rfl).mono ?_
        rintro x w7 ⟨⟨y', m', d', rfl, hd'⟩, hb7⟩
        have hbel7 := bthen hbel6 hb7
        clear hb7 hbel6 hd'
        go_wp2_with fail
        go_at_call 31
        refine (minute6 a0 m _ HM.out).mono ?_
        rintro x w8 ⟨rfl, rfl⟩
        go_wp2_with fail
        go_at_call 32
        refine (of_in m _ _ _ _ (by omega) (by omega) rfl rfl rfl).mono ?_
        rintro x w9 ⟨⟨y9, m9, d9, rfl, hd9⟩, hb9⟩
        obtain ⟨rfl, rfl, rfl⟩ := HD.out.uniq hd9
        have hbel9 := bthen (bmore hbel7 _) hb9
        clear hb9 hbel7 hd9
        go_wp2
        go_ret
        exact ⟨rfl, bmore hbel9 _⟩))
end Go.Proofs.YtggcnbdpobbkaaaDoor.Cron
