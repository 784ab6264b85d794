/- CronEvery, walked. -/
import Derived.Test.YtggcnbdpobbkaaaDoorCronKnown
import Derived.OpenShut
namespace Go.Proofs.YtggcnbdpobbkaaaDoor.Cron
open Go.RowKit Go Go.Proofs.YtggcnbdpobbkaaaDoor.Cal

theorem pres_exA : pres ⟨#[42, 32, 42, 32, 42, 32, 42, 32, 42]⟩ = (exA, 0) := by decide +kernel

set_option maxRecDepth 100000 in
set_option maxHeartbeats 1000000 in
theorem every_walk (a0 : Int) (w0 : (Lit.int .i64 a0).wf = true) (a1 : Int) (w1 : (Lit.int .i64 a1).wf = true) (w : World) (hL : Laid w) :
    Calls Tryd.prog 16 #[.int .i64 a0, .int .i64 a1] w fun e w' => e = .returned (.bool true) ∧ Below w.heap.size w w' := by
  obtain ⟨m, hm⟩ : ∃ m, a0 % 5250000000 - 1035500000 = m := ⟨_, rfl⟩
  have hmb : -1035500000 ≤ m ∧ m ≤ 4214499999 := by omega
  obtain ⟨k, hk⟩ : ∃ k, a1 % 1000 = k := ⟨_, rfl⟩
  have hkb : 0 ≤ k ∧ k < 1000 := by omega
  have HM := Lib.hid hm
  have HK := Lib.hid hk
  clear hm hk
  have hN := exA_next m (by omega) (by omega)
  have hP := exA_prev m (m - 1 - k) (by omega) (by omega) (by omega)
  have hT := mt_true (exA_match m (by omega) (by omega))
  have hx0 := pres_exA
  have hOk := pres_ok ⟨#[42, 32, 42, 32, 42, 32, 42, 32, 42]⟩
  rw [hx0] at hOk
  dsimp only at hOk
  generalize exA = e at hN hP hT hx0 hOk
  obtain ⟨mi, ho, da, mo, wk, ad, aw⟩ := e
  have HN := Lib.hid hN
  have HP := Lib.hid hP
  have HT := Lib.hid hT
  have HX := Lib.hid hx0
  have HOk : Hid (ExOk ⟨mi, ho, da, mo, wk, ad, aw⟩) := hOk
  clear hN hP hT hx0 hOk
  go_enter Tryd.func16, Tryd.ntmps16
  go_wp2_with fail
  go_at_call 24
  refine (known6 _ hL).mono ?_
  rintro x wk0 ⟨rfl, hbel⟩
  have hL1 := hL.below hbel
  go_wp2_with fail
  go_at_call 25
  refine (parse_any _ _ hL1.tabs hL1.max (by decide)).mono ?_
  rintro x wp ⟨hx, hbp⟩
  unfold ParPost exV at hx
  rw [HX.out] at hx
  subst hx
  have hbel2 := bthen hbel hbp
  clear hbel hbp hL1
  go_wp2_with fail
  go_at_call 31
  refine (minute6 a0 m _ HM.out).mono ?_
  rintro x w2 ⟨rfl, rfl⟩
  go_wp2_with fail
  go_at_call 30
  refine (next_any ⟨mi, ho, da, mo, wk, ad, aw⟩ m _ HOk.out (hL.below (bmore hbel2 _)).db).mono ?_
  rintro x w3 ⟨⟨r, c, rfl, hn⟩, hb3⟩
  obtain ⟨rfl, rfl⟩ := HN.out.uniq hn
  have hc := keepN hb3
  have hgl := size1 hb3
  have HB := Lib.hid (bthen (bmore hbel2 _) hb3)
  clear hb3 hbel2 hn
  go_wp2
  have hwp : IntKind.i64.wrap (IntKind.i64.wrap (m - 1) - k) = m - 1 - k := by
    rw [show IntKind.i64.wrap (m - 1) = m - 1 by rw [IntKind.wrap_i64]; omega, IntKind.wrap_i64]; omega
  have hbs : Below w3.heap.size w3 w3 := Below.refl _ _
  go_region_held3 (fun w' => (∀ o, w'.cell? ⟨wp.heap.size, o, none⟩ = (#[.int .u64 mi, .int .u64 ho, .int .u64 da, .int .u64 mo, .int .u64 wk, .bool ad, .bool aw] : Array Value)[o]?) ∧ Below w3.heap.size w3 w')
    (first
      | with_reducible exact txt_keep hc hgl hbs.drew
      | (with_reducible refine txt_keep hc hgl (bthen ?_ hb)
         first | assumption | exact hbs.drew | (go_split_ands; assumption))
      | go_keep)
    (first
      | (go_at_call 34; refine (within6 a1 1000 _ (by omega) (by omega)).mono ?_; rintro e w4 ⟨rfl, rfl⟩; rw [HK.out])
      | (go_at_call 52; refine (prev_any ⟨mi, ho, da, mo, wk, ad, aw⟩ m (m - 1 - k) _ HOk.out (by omega)).mono ?_; rintro x w5 ⟨⟨r, c, rfl, hn⟩, hb⟩; obtain ⟨rfl, rfl⟩ := HP.out.uniq hn; clear hn))
  all_goals (
    clear hwp
    go_wp2_with fail
    go_at_call 35
    refine (matches_any ⟨mi, ho, da, mo, wk, ad, aw⟩ m _ HOk.out).mono ?_
    rw [HT.out]
    rintro x w6 ⟨rfl, hb6⟩
    go_wp2
    go_ret
    refine ⟨rfl, bthen (bthen HB.out ?_) hb6⟩
    go_split_ands
    assumption)
end Go.Proofs.YtggcnbdpobbkaaaDoor.Cron
