/- The contracts of both Checks, of the reference's Encode and EncodeRun. -/
import Derived.Test.YtdpaiaeaamokeaaDoorJobTextP
import Derived.Test.YtdpaiaeaamokeaaDoorRefName
import Derived.Test.YtdpaiaeaamokeaaDoorRefRuns
namespace Go.Proofs.YtdpaiaeaamokeaaDoor.Job
open Go.RowKit Go Go.Proofs.YtdpaiaeaamokeaaDoor.Cron

set_option maxHeartbeats 2000000 in
set_option maxRecDepth 100000 in
theorem check_any (nm cr : ByteArray) (p dl kp : Int) (sus : Bool) (w : World) (hL : Laid w) (hn : nm.size ≤ 140737488351232) (hcz : cr.size ≤ 140737488351232) :
    Calls Tryd.prog 37 #[jobV nm cr p dl kp sus] w fun x w' => x = .returned (.int .i64 (chk nm cr p dl kp)) ∧ Below w.heap.size w w' := by
  unfold jobV
  obtain ⟨nb, hnb⟩ : ∃ nb, nameB nm = nb := ⟨_, rfl⟩
  have HNB := Lib.hid hnb
  have HCK : Hid (chk nm cr p dl kp = if nb = true ∧ 0 ≤ p ∧ p ≤ 2 ∧ 1 ≤ dl ∧ dl ≤ 10080 ∧ 0 ≤ kp ∧ kp ≤ 20 then (pres cr).2 else 26) := by show _ = _; unfold chk; rw [hnb]
  obtain ⟨pe, hpe⟩ : ∃ pe, pres cr = pe := ⟨_, rfl⟩
  obtain ⟨⟨mi, ho, da, mo, wk, ad, aw⟩, c⟩ := pe
  rw [hpe] at HCK
  have HX := Lib.hid hpe
  clear hnb hpe
  go_enter Tryd.func37, Tryd.ntmps37
  go_wp2_with fail
  go_at_call 36
  refine (name_any nm _ (by omega)).mono ?_
  rw [HNB.out]
  rintro x w2 ⟨rfl, hb2⟩
  have hr2 := keepN hb2
  have hbel := bthen (bmore (Below.refl _ _) _) hb2
  clear hb2
  cases nb with
  | false =>
    have HF : Hid (chk nm cr p dl kp = 26) := by show _ = _; rw [HCK.out, if_neg (by simp)]
    clear HCK
    go_wp2
    go_ret
    exact ⟨by rw [HF.out]; rfl, hbel⟩
  | true =>
    by_cases k0 : p < 0
    · have HF : Hid (chk nm cr p dl kp = 26) := by show _ = _; rw [HCK.out, if_neg (by omega)]
      clear HCK
      go_wp2
      go_ret
      exact ⟨by rw [HF.out]; rfl, hbel⟩
    by_cases k1 : 2 < p
    · have HF : Hid (chk nm cr p dl kp = 26) := by show _ = _; rw [HCK.out, if_neg (by omega)]
      clear HCK
      go_wp2
      go_ret
      exact ⟨by rw [HF.out]; rfl, hbel⟩
    by_cases k2 : dl < 1
    · have HF : Hid (chk nm cr p dl kp = 26) := by show _ = _; rw [HCK.out, if_neg (by omega)]
      clear HCK
      go_wp2
      go_ret
      exact ⟨by rw [HF.out]; rfl, hbel⟩
    by_cases k3 : 10080 < dl
    · have HF : Hid (chk nm cr p dl kp = 26) := by show _ = _; rw [HCK.out, if_neg (by omega)]
      clear HCK
      go_wp2
      go_ret
      exact ⟨by rw [HF.out]; rfl, hbel⟩
    by_cases k4 : kp < 0
    · have HF : Hid (chk nm cr p dl kp = 26) := by show _ = _; rw [HCK.out, if_neg (by omega)]
      clear HCK
      go_wp2
      go_ret
      exact ⟨by rw [HF.out]; rfl, hbel⟩
    by_cases k5 : 20 < kp
    · have HF : Hid (chk nm cr p dl kp = 26) := by show _ = _; rw [HCK.out, if_neg (by omega)]
      clear HCK
      go_wp2
      go_ret
      exact ⟨by rw [HF.out]; rfl, hbel⟩
    have HF : Hid (chk nm cr p dl kp = c) := by show _ = _; rw [HCK.out, if_pos ⟨rfl, by omega, by omega, by omega, by omega, by omega, by omega⟩]
    clear HCK
    have hL2 := hL.below hbel
    go_wp2_with fail
    go_at_call 16
    refine (parse_any cr _ hL2.tabs hL2.max (by omega)).mono ?_
    rintro x w3 ⟨hx, hb3⟩
    unfold ParPost exV at hx
    rw [HX.out] at hx
    subst hx
    have hbel3 := bthen hbel hb3
    clear hb3 hbel
    dsimp only
    go_wp2
    go_ret
    exact ⟨by rw [HF.out]; rfl, bmore hbel3 _⟩

set_option maxHeartbeats 2000000 in
set_option maxRecDepth 100000 in
theorem rcheck_any (nm cr : ByteArray) (p dl kp : Int) (sus : Bool) (w : World) (hn : nm.size ≤ 140737488351232) (hcz : cr.size ≤ 140737488351232) :
    Calls Tryd.prog 38 #[jobV nm cr p dl kp sus] w fun x w' => x = .returned (.int .i64 (chk nm cr p dl kp)) ∧ Below w.heap.size w w' := by
  unfold jobV
  obtain ⟨nb, hnb⟩ : ∃ nb, nameB nm = nb := ⟨_, rfl⟩
  have HNB := Lib.hid hnb
  have HCK : Hid (chk nm cr p dl kp = if nb = true ∧ 0 ≤ p ∧ p ≤ 2 ∧ 1 ≤ dl ∧ dl ≤ 10080 ∧ 0 ≤ kp ∧ kp ≤ 20 then (pres cr).2 else 26) := by show _ = _; unfold chk; rw [hnb]
  obtain ⟨pe, hpe⟩ : ∃ pe, pres cr = pe := ⟨_, rfl⟩
  obtain ⟨⟨mi, ho, da, mo, wk, ad, aw⟩, c⟩ := pe
  rw [hpe] at HCK
  have HX := Lib.hid hpe
  clear hnb hpe
  go_enter Tryd.func38, Tryd.ntmps38
  go_wp2_with fail
  go_at_call 26
  refine (rname_any nm _ (by omega)).mono ?_
  rw [HNB.out]
  rintro x w2 ⟨rfl, hb2⟩
  have hr2 := keepN hb2
  have hbel := bthen (bmore (Below.refl _ _) _) hb2
  clear hb2
  cases nb with
  | false =>
    have HF : Hid (chk nm cr p dl kp = 26) := by show _ = _; rw [HCK.out, if_neg (by simp)]
    clear HCK
    go_wp2
    go_ret
    exact ⟨by rw [HF.out]; rfl, hbel⟩
  | true =>
    by_cases k0 : p < 0
    · have HF : Hid (chk nm cr p dl kp = 26) := by show _ = _; rw [HCK.out, if_neg (by omega)]
      clear HCK
      go_wp2
      go_ret
      exact ⟨by rw [HF.out]; rfl, hbel⟩
    by_cases k1 : 2 < p
    · have HF : Hid (chk nm cr p dl kp = 26) := by show _ = _; rw [HCK.out, if_neg (by omega)]
      clear HCK
      go_wp2
      go_ret
      exact ⟨by rw [HF.out]; rfl, hbel⟩
    by_cases k2 : dl < 1
    · have HF : Hid (chk nm cr p dl kp = 26) := by show _ = _; rw [HCK.out, if_neg (by omega)]
      clear HCK
      go_wp2
      go_ret
      exact ⟨by rw [HF.out]; rfl, hbel⟩
    by_cases k3 : 10080 < dl
    · have HF : Hid (chk nm cr p dl kp = 26) := by show _ = _; rw [HCK.out, if_neg (by omega)]
      clear HCK
      go_wp2
      go_ret
      exact ⟨by rw [HF.out]; rfl, hbel⟩
    by_cases k4 : kp < 0
    · have HF : Hid (chk nm cr p dl kp = 26) := by show _ = _; rw [HCK.out, if_neg (by omega)]
      clear HCK
      go_wp2
      go_ret
      exact ⟨by rw [HF.out]; rfl, hbel⟩
    by_cases k5 : 20 < kp
    · have HF : Hid (chk nm cr p dl kp = 26) := by show _ = _; rw [HCK.out, if_neg (by omega)]
      clear HCK
      go_wp2
      go_ret
      exact ⟨by rw [HF.out]; rfl, hbel⟩
    have HF : Hid (chk nm cr p dl kp = c) := by show _ = _; rw [HCK.out, if_pos ⟨rfl, by omega, by omega, by omega, by omega, by omega, by omega⟩]
    clear HCK
    go_wp2_with fail
    go_at_call 17
    refine (rparse_any cr _ (by omega)).mono ?_
    rintro x w3 ⟨hx, hb3⟩
    unfold ParPost exV at hx
    rw [HX.out] at hx
    subst hx
    have hbel3 := bthen hbel hb3
    clear hb3 hbel
    dsimp only
    go_wp2
    go_ret
    exact ⟨by rw [HF.out]; rfl, bmore hbel3 _⟩
end Go.Proofs.YtdpaiaeaamokeaaDoor.Job
