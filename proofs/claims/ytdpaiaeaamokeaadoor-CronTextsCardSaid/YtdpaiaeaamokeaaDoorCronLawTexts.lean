/- CronTexts, walked. -/
import Derived.Test.YtdpaiaeaamokeaaDoorCronKnown
import Derived.Test.YtdpaiaeaamokeaaDoorRefParse
import Derived.Test.YtdpaiaeaamokeaaDoorRefRuns
import Derived.Test.YtdpaiaeaamokeaaDoorEq6
namespace Go.Proofs.YtdpaiaeaamokeaaDoor.Cron
open Go.RowKit Go Go.Proofs.YtdpaiaeaamokeaaDoor.Cal

theorem cneT {c : Int} (h : c ≠ 0) : (c == 0) = false ∧ (c != 0) = true := by simp [h]
theorem pres_fit (s : ByteArray) (e : Ex) (h : pres s = (e, 0)) : ExFit e := by
  unfold pres at h
  split at h
  · simp at h
  · split at h
    · simp at h
    · rename_i e' he
      simp at h
      subst h
      exact pex_fit _ _ he
theorem pres_text (s T : ByteArray) (e : Ex) (h : pres s = (e, 0)) (hT : T.data.toList = textL e) : pres T = if 100 < T.size then (zeroEx, 5) else (e, 0) := by
  by_cases c : 100 < T.size
  · rw [if_pos c, pres, if_pos c]
  · rw [if_neg c]
    exact pres_some T e (by omega) (by rw [hT]; exact text_parse e (pres_fit s e h))
theorem textL_lenT (e : Ex) : (textL e).length ≤ 2005 := by
  have := join_len [32] 400 [starL (decide (e.mi = spanN 0 59)) e.mi 0 59, starL (decide (e.ho = spanN 0 23)) e.ho 0 23, starL e.ad e.da 1 31, starL (decide (e.mo = spanN 1 12)) e.mo 1 12, starL e.aw e.wk 0 6] (by
    simp [starL_len])
  simpa [textL] using this
theorem twoT_keep {b b2 : Nat} {C D : Array Value} {w W : World} (hc : ∀ o, w.cell? ⟨b, o, none⟩ = C[o]?) (hd : ∀ o, w.cell? ⟨b2, o, none⟩ = D[o]?) (hl : b < w.heap.size) (hl2 : b2 < w.heap.size) (hb : Below w.heap.size w W) :
    (∀ o, W.cell? ⟨b, o, none⟩ = C[o]?) ∧ (∀ o, W.cell? ⟨b2, o, none⟩ = D[o]?) ∧ Below w.heap.size w W :=
  ⟨fun o => (keep0 hb hl o).trans (hc o), fun o => (keep0 hb hl2 o).trans (hd o), hb⟩
theorem threeT_keep {b b2 b3 : Nat} {C D E : Array Value} {w W : World} (hc : ∀ o, w.cell? ⟨b, o, none⟩ = C[o]?) (hd : ∀ o, w.cell? ⟨b2, o, none⟩ = D[o]?) (he : ∀ o, w.cell? ⟨b3, o, none⟩ = E[o]?) (hl : b < w.heap.size) (hl2 : b2 < w.heap.size) (hl3 : b3 < w.heap.size) (hb : Below w.heap.size w W) :
    (∀ o, W.cell? ⟨b, o, none⟩ = C[o]?) ∧ (∀ o, W.cell? ⟨b2, o, none⟩ = D[o]?) ∧ (∀ o, W.cell? ⟨b3, o, none⟩ = E[o]?) ∧ Below w.heap.size w W :=
  ⟨fun o => (keep0 hb hl o).trans (hc o), fun o => (keep0 hb hl2 o).trans (hd o), fun o => (keep0 hb hl3 o).trans (he o), hb⟩

set_option maxHeartbeats 4000000 in
set_option maxRecDepth 100000 in
theorem texts_walk (s : ByteArray) (ws : s.size ≤ 140737488351232) (w : World) (hL : Laid w) :
    Calls Tryd.prog 4 #[.string s] w fun e w' => e = .returned (.bool true) ∧ Below w.heap.size w w' := by
  obtain ⟨pe, hpe⟩ : ∃ pe, pres s = pe := ⟨_, rfl⟩
  have HO : Hid (ExOk pe.1) := by have h := pres_ok s; rw [hpe] at h; exact h
  have HPT : Hid (pe.2 = 0 → ∀ T : ByteArray, T.data.toList = textL pe.1 → pres T = if 100 < T.size then (zeroEx, 5) else (pe.1, 0)) := by
    intro h0 T hT
    exact pres_text s T pe.1 (by rw [hpe, ← h0]) hT
  obtain ⟨⟨mi, ho, da, mo, wk, ad, aw⟩, c⟩ := pe
  have HX := Lib.hid hpe
  clear hpe
  go_enter Tryd.func4, Tryd.ntmps4
  go_wp2_with fail
  go_at_call 15
  refine (known6 _ hL).mono ?_
  rintro x wk0 ⟨rfl, hbel⟩
  by_cases hs : 1000 < s.size
  · have hsi : (1000 : Int) < (s.size : Int) := by omega
    go_wp2
    go_ret
    exact ⟨rfl, hbel⟩
  have hsi : ¬ (1000 : Int) < (s.size : Int) := by omega
  have hL1 := hL.below hbel
  go_wp2_with fail
  go_at_call 16
  refine (parse_any s _ hL1.tabs hL1.max (by omega)).mono ?_
  rintro x wp ⟨hx, hbp⟩
  unfold ParPost exV at hx
  rw [HX.out] at hx
  subst hx
  have hbel2 := bthen hbel hbp
  clear hbel hbp hL1
  go_wp2_with fail
  go_at_call 17
  refine (rparse_any s _ (by omega)).mono ?_
  rintro x w6 ⟨hx, hb6⟩
  unfold ParPost exV at hx
  rw [HX.out] at hx
  subst hx
  have hc6 := keepN hb6
  have hz6 := size1 hb6
  have hbel6 := bthen (bmore hbel2 _) hb6
  clear hb6 hbel2
  dsimp only
  have hne0 : ∀ x : Int, (x == x) = true := fun x => by simp
  have hne1 : ∀ x : Int, (x != x) = false := fun x => by simp
  have hne2 : ∀ x : Bool, (x == x) = true := fun x => by simp
  have he5 := fun w => eq_a5 w mi ho da mo wk mi ho da mo wk
  go_upto_region 7 with fail
  have hCa : ∀ o, (w6.alloc (.cells #[.int .u64 mi, .int .u64 ho, .int .u64 da, .int .u64 mo, .int .u64 wk, .bool ad, .bool aw] 40)).cell? ⟨wp.heap.size, o, none⟩ = (#[.int .u64 mi, .int .u64 ho, .int .u64 da, .int .u64 mo, .int .u64 wk, .bool ad, .bool aw] : Array Value)[o]? := fun o => (alloc_old _ _ hz6 o).trans (hc6 o)
  have hDa := alloc_new w6 #[.int .u64 mi, .int .u64 ho, .int .u64 da, .int .u64 mo, .int .u64 wk, .bool ad, .bool aw] 40
  have hza : w6.heap.size < (w6.alloc (.cells #[.int .u64 mi, .int .u64 ho, .int .u64 da, .int .u64 mo, .int .u64 wk, .bool ad, .bool aw] 40)).heap.size := by simp
  have hbela := bmore hbel6 (.cells #[.int .u64 mi, .int .u64 ho, .int .u64 da, .int .u64 mo, .int .u64 wk, .bool ad, .bool aw] 40)
  generalize w6.alloc (.cells #[.int .u64 mi, .int .u64 ho, .int .u64 da, .int .u64 mo, .int .u64 wk, .bool ad, .bool aw] 40) = wa at *
  have HBL := Lib.hid hbela
  clear hc6 hbel6 hbela
  have hzb := Nat.lt_trans hz6 hza
  have hbs : Below wa.heap.size wa wa := Below.refl _ _
  go_cut [32] (fun s32 wx => s32 = .bool false ∧ (∀ o, wx.cell? ⟨wp.heap.size, o, none⟩ = (#[.int .u64 mi, .int .u64 ho, .int .u64 da, .int .u64 mo, .int .u64 wk, .bool ad, .bool aw] : Array Value)[o]?) ∧ (∀ o, wx.cell? ⟨w6.heap.size, o, none⟩ = (#[.int .u64 mi, .int .u64 ho, .int .u64 da, .int .u64 mo, .int .u64 wk, .bool ad, .bool aw] : Array Value)[o]?) ∧ Below wa.heap.size wa wx)
  case first =>
    go_region_held3 (fun w' => (∀ o, w'.cell? ⟨wp.heap.size, o, none⟩ = (#[.int .u64 mi, .int .u64 ho, .int .u64 da, .int .u64 mo, .int .u64 wk, .bool ad, .bool aw] : Array Value)[o]?) ∧ (∀ o, w'.cell? ⟨w6.heap.size, o, none⟩ = (#[.int .u64 mi, .int .u64 ho, .int .u64 da, .int .u64 mo, .int .u64 wk, .bool ad, .bool aw] : Array Value)[o]?) ∧ Below wa.heap.size wa w')
      (first
        | with_reducible exact twoT_keep hCa hDa hzb hza hbs.drew
        | (with_reducible refine twoT_keep hCa hDa hzb hza (bthen ?_ hb)
           first | assumption | exact hbs.drew | (go_split_ands; assumption))
        | go_keep)
      ((go_at_call 18; refine (told6_any ⟨mi, ho, da, mo, wk, ad, aw⟩ _).mono ?_; unfold exV; rintro x wy ⟨rfl, hb⟩))
    all_goals (
      go_wp2_with fail
      go_meet
      refine ⟨rfl, ?_⟩
      assumption)
  case rest =>
    obtain ⟨rfl, hCx, hDx, hbx⟩ := hcut
    have hzx := Nat.lt_of_lt_of_le hza hbx.size
    have hbelx := bthen HBL.out hbx
    clear hCa hDa hza hzb HBL hbs hbx
    by_cases hc0 : c ≠ 0
    · obtain ⟨q1, q2⟩ := cneT hc0
      clear he5
      go_wp2
      go_ret
      exact ⟨rfl, hbelx⟩
    obtain rfl : c = 0 := by omega
    clear hc0
    obtain ⟨T, hT⟩ : ∃ T, bytesOf (textL ⟨mi, ho, da, mo, wk, ad, aw⟩) = T := ⟨_, rfl⟩
    have HTX : Hid (∀ w, Calls Tryd.prog 19 #[.agg #[.int .u64 mi, .int .u64 ho, .int .u64 da, .int .u64 mo, .int .u64 wk, .bool ad, .bool aw]] w fun x w' => x = .returned (.string T) ∧ Below w.heap.size w w') := by
      intro w; rw [← hT]; exact text_any ⟨mi, ho, da, mo, wk, ad, aw⟩ w HO.out
    have HRT : Hid (∀ w, Calls Tryd.prog 20 #[.agg #[.int .u64 mi, .int .u64 ho, .int .u64 da, .int .u64 mo, .int .u64 wk, .bool ad, .bool aw]] w fun x w' => x = .returned (.string T) ∧ Below w.heap.size w w') := by
      intro w; rw [← hT]; exact rtext_any ⟨mi, ho, da, mo, wk, ad, aw⟩ w HO.out
    have hTz : T.size ≤ 2005 := by
      have := textL_lenT ⟨mi, ho, da, mo, wk, ad, aw⟩
      rw [← hT]
      show (textL _).toArray.size ≤ _
      simpa using this
    have HPR := Lib.hid (HPT.out rfl T (by rw [← hT]; rfl))
    clear HPT hT
    go_wp2_with fail
    go_at_call 19
    refine (HTX.out _).mono ?_
    rintro x w7 ⟨rfl, hb7⟩
    have hC7 := fun o => (keep0 hb7 (Nat.lt_trans hz6 hzx) o).trans (hCx o)
    have hD7 := fun o => (keep0 hb7 hzx o).trans (hDx o)
    have hz7 := Nat.lt_of_lt_of_le hzx hb7.size
    have hbel7 := bthen hbelx hb7
    clear hb7 hbelx hCx hDx hzx
    have hL7 := hL.below hbel7
    go_wp2_with fail
    go_at_call 16
    refine (parse_any T _ hL7.tabs hL7.max (by omega)).mono ?_
    rintro x w8 ⟨hx, hb8⟩
    unfold ParPost at hx
    rw [HPR.out] at hx
    have hC8 := fun o => (keep0 hb8 (Nat.lt_trans hz6 hz7) o).trans (hC7 o)
    have hD8 := fun o => (keep0 hb8 hz7 o).trans (hD7 o)
    have hz8 := Nat.lt_of_lt_of_le hz7 hb8.size
    have hbel8 := bthen hbel7 hb8
    clear hb8 hbel7 hC7 hD7 hz7 hL7
    have hTT : (T.toList == T.toList) = true := by simp
    by_cases hT100 : 100 < T.size
    · rw [if_pos hT100] at hx
      unfold exV zeroEx at hx
      dsimp only at hx
      subst hx
      have hTi : (100 : Int) < (T.size : Int) := by omega
      clear hT100
      have hC9 := fun o => (alloc_old w8 (.cells #[.int .u64 0, .int .u64 0, .int .u64 0, .int .u64 0, .int .u64 0, .bool false, .bool false] 35) (Nat.lt_trans hz6 hz8) o).trans (hC8 o)
      have hD9 := fun o => (alloc_old w8 (.cells #[.int .u64 0, .int .u64 0, .int .u64 0, .int .u64 0, .int .u64 0, .bool false, .bool false] 35) hz8 o).trans (hD8 o)
      have hz9 : w6.heap.size < (w8.alloc (.cells #[.int .u64 0, .int .u64 0, .int .u64 0, .int .u64 0, .int .u64 0, .bool false, .bool false] 35)).heap.size := by simp; omega
      have hbel9 := bmore hbel8 (.cells #[.int .u64 0, .int .u64 0, .int .u64 0, .int .u64 0, .int .u64 0, .bool false, .bool false] 35)
      go_wp2_with fail
      go_at_call 19
      refine (HTX.out _).mono ?_
      rintro x wa2 ⟨rfl, hba⟩
      have hCa := fun o => (keep0 hba (Nat.lt_trans hz6 hz9) o).trans (hC9 o)
      have hDa := fun o => (keep0 hba hz9 o).trans (hD9 o)
      have hza := Nat.lt_of_lt_of_le hz9 hba.size
      have hzb := Nat.lt_trans hz6 hza
      have HBL := Lib.hid (bthen hbel9 hba)
      have hbs : Below wa2.heap.size wa2 wa2 := Below.refl _ _
      clear hba hbel9 hC9 hD9 hz9 hC8 hD8 hz8 hbel8
      go_upto_region 13 with fail
      go_region_held3 (fun w' => (∀ o, w'.cell? ⟨wp.heap.size, o, none⟩ = (#[.int .u64 mi, .int .u64 ho, .int .u64 da, .int .u64 mo, .int .u64 wk, .bool ad, .bool aw] : Array Value)[o]?) ∧ (∀ o, w'.cell? ⟨w6.heap.size, o, none⟩ = (#[.int .u64 mi, .int .u64 ho, .int .u64 da, .int .u64 mo, .int .u64 wk, .bool ad, .bool aw] : Array Value)[o]?) ∧ Below wa2.heap.size wa2 w')
        (first
          | with_reducible exact twoT_keep hCa hDa hzb hza hbs.drew
          | (with_reducible refine twoT_keep hCa hDa hzb hza (bthen ?_ hb)
             first | assumption | exact hbs.drew | (go_split_ands; assumption))
          | go_keep)
        (first
          | (go_at_call 19; refine (HTX.out _).mono ?_; rintro x wy ⟨rfl, hb⟩)
          | (go_at_call 20; refine (HRT.out _).mono ?_; rintro x wy ⟨rfl, hb⟩))
      all_goals (
        go_wp2_with fail
        go_ret
        refine ⟨rfl, bthen HBL.out ?_⟩
        go_split_ands
        assumption)
    · rw [if_neg hT100] at hx
      unfold exV at hx
      dsimp only at hx
      subst hx
      have hTi : ¬ (100 : Int) < (T.size : Int) := by omega
      clear hT100
      have hC9 := fun o => (alloc_old w8 (.cells #[.int .u64 mi, .int .u64 ho, .int .u64 da, .int .u64 mo, .int .u64 wk, .bool ad, .bool aw] 35) (Nat.lt_trans hz6 hz8) o).trans (hC8 o)
      have hD9 := fun o => (alloc_old w8 (.cells #[.int .u64 mi, .int .u64 ho, .int .u64 da, .int .u64 mo, .int .u64 wk, .bool ad, .bool aw] 35) hz8 o).trans (hD8 o)
      have hE9 := alloc_new w8 #[.int .u64 mi, .int .u64 ho, .int .u64 da, .int .u64 mo, .int .u64 wk, .bool ad, .bool aw] 35
      have hz9 : w8.heap.size < (w8.alloc (.cells #[.int .u64 mi, .int .u64 ho, .int .u64 da, .int .u64 mo, .int .u64 wk, .bool ad, .bool aw] 35)).heap.size := by simp
      have hbel9 := bmore hbel8 (.cells #[.int .u64 mi, .int .u64 ho, .int .u64 da, .int .u64 mo, .int .u64 wk, .bool ad, .bool aw] 35)
      go_wp2_with fail
      go_at_call 19
      refine (HTX.out _).mono ?_
      rintro x wa2 ⟨rfl, hba⟩
      have hz69 := Nat.lt_trans hz8 hz9
      have hCa := fun o => (keep0 hba (Nat.lt_trans hz6 hz69) o).trans (hC9 o)
      have hDa := fun o => (keep0 hba hz69 o).trans (hD9 o)
      have hEa := fun o => (keep0 hba hz9 o).trans (hE9 o)
      have hze := Nat.lt_of_lt_of_le hz9 hba.size
      have hza := Nat.lt_of_lt_of_le hz69 hba.size
      have hzb := Nat.lt_trans hz6 hza
      have HBL := Lib.hid (bthen hbel9 hba)
      have hbs : Below wa2.heap.size wa2 wa2 := Below.refl _ _
      clear hba hbel9 hC9 hD9 hE9 hz9 hz69 hC8 hD8 hz8 hbel8
      go_upto_region 14 with fail
      go_region_held3 (fun w' => (∀ o, w'.cell? ⟨wp.heap.size, o, none⟩ = (#[.int .u64 mi, .int .u64 ho, .int .u64 da, .int .u64 mo, .int .u64 wk, .bool ad, .bool aw] : Array Value)[o]?) ∧ (∀ o, w'.cell? ⟨w6.heap.size, o, none⟩ = (#[.int .u64 mi, .int .u64 ho, .int .u64 da, .int .u64 mo, .int .u64 wk, .bool ad, .bool aw] : Array Value)[o]?) ∧ (∀ o, w'.cell? ⟨w8.heap.size, o, none⟩ = (#[.int .u64 mi, .int .u64 ho, .int .u64 da, .int .u64 mo, .int .u64 wk, .bool ad, .bool aw] : Array Value)[o]?) ∧ Below wa2.heap.size wa2 w')
        (first
          | with_reducible exact threeT_keep hCa hDa hEa hzb hza hze hbs.drew
          | (with_reducible refine threeT_keep hCa hDa hEa hzb hza hze (bthen ?_ hb)
             first | assumption | exact hbs.drew | (go_split_ands; assumption))
          | go_keep)
        (first
          | (go_at_call 19; refine (HTX.out _).mono ?_; rintro x wy ⟨rfl, hb⟩)
          | (go_at_call 20; refine (HRT.out _).mono ?_; rintro x wy ⟨rfl, hb⟩))
      all_goals (
        go_wp2_with fail
        go_ret
        refine ⟨rfl, bthen HBL.out ?_⟩
        go_split_ands
        assumption)
end Go.Proofs.YtdpaiaeaamokeaaDoor.Cron
