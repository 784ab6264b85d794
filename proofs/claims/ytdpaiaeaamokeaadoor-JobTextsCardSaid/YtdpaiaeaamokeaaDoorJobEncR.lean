/- The contracts of the reference's EncodeRun and Encode. -/
import Derived.Test.YtdpaiaeaamokeaaDoorJobChk
namespace Go.Proofs.YtdpaiaeaamokeaaDoor.Job
open Go.RowKit Go Go.Proofs.YtdpaiaeaamokeaaDoor.Cron

def decS (a : Int) : ByteArray := bytesOf (Lib.itoa a)
theorem decS_any (a : Int) (w : World) (h : -9223372036854775808 ≤ a ∧ a ≤ 9223372036854775807) : Calls Tryd.prog 53 #[.int .i64 a] w fun e w' => e = .returned (.string (decS a)) ∧ Below w.heap.size w w' := dec17_any a w h.1 h.2
theorem decS_size (a : Int) (h : -9223372036854775808 ≤ a ∧ a ≤ 9223372036854775807) : (decS a).size ≤ 21 := by unfold decS; rw [bytes_size]; exact Lib.itoa_length_le a h.1 h.2
theorem decS_list (a : Int) : (decS a).data.toList = Lib.itoa a := rfl
set_option maxHeartbeats 2000000 in
set_option maxRecDepth 100000 in
theorem rencrun_any (nm : ByteArray) (a b c : Int) (w : World) (hn : nm.size ≤ 140737488351232)
    (hr1 : -9223372036854775808 ≤ a ∧ a ≤ 9223372036854775807) (hr2 : -9223372036854775808 ≤ b ∧ b ≤ 9223372036854775807) (hr3 : -9223372036854775808 ≤ c ∧ c ≤ 9223372036854775807) :
    Calls Tryd.prog 41 #[runV nm a b c] w fun x w' => (∃ S : ByteArray, x = .returned (.string S) ∧ S.data.toList = runL nm.data.toList a b c) ∧ Below w.heap.size w w' := by
  unfold runV
  have hAz := decS_size a hr1
  have hBz := decS_size b hr2
  have hCz := decS_size c hr3
  have HF : Hid ((nm ++ ⟨#[32]⟩ ++ decS a ++ ⟨#[32]⟩ ++ decS b ++ ⟨#[32]⟩ ++ decS c).data.toList = runL nm.data.toList a b c) := by
    show _ = _
    unfold runL minL
    simp [decS_list, Lib.join]
  have HR : Hid ((-9223372036854775808 ≤ a ∧ a ≤ 9223372036854775807) ∧ (-9223372036854775808 ≤ b ∧ b ≤ 9223372036854775807) ∧ (-9223372036854775808 ≤ c ∧ c ≤ 9223372036854775807)) := ⟨hr1, hr2, hr3⟩
  have k0 : ¬ 9223372036854775807 < nm.size + 1 := by omega
  have k1 : ¬ 9223372036854775807 < nm.size + 1 + (decS a).size := by omega
  have k2 : ¬ 9223372036854775807 < nm.size + 1 + (decS a).size + 1 := by omega
  have k3 : ¬ 9223372036854775807 < nm.size + 1 + (decS a).size + 1 + (decS b).size := by omega
  have k4 : ¬ 9223372036854775807 < nm.size + 1 + (decS a).size + 1 + (decS b).size + 1 := by omega
  have k5 : ¬ 9223372036854775807 < nm.size + 1 + (decS a).size + 1 + (decS b).size + 1 + (decS c).size := by omega
  obtain ⟨l1, u1⟩ := hr1
  obtain ⟨l2, u2⟩ := hr2
  obtain ⟨l3, u3⟩ := hr3
  go_enter Tryd.func41, Tryd.ntmps41
  go_wp2
  have hc := alloc_new w #[.string nm, .int .i64 a, .int .i64 b, .int .i64 c] 66
  have hgl : w.heap.size < (w.alloc (.cells #[.string nm, .int .i64 a, .int .i64 b, .int .i64 c] 66)).heap.size := by simp
  have hb0 : Below w.heap.size w (w.alloc (.cells #[.string nm, .int .i64 a, .int .i64 b, .int .i64 c] 66)) := bmore (Below.refl _ _) _
  generalize w.alloc (.cells #[.string nm, .int .i64 a, .int .i64 b, .int .i64 c] 66) = w2 at *
  have hbs : Below w2.heap.size w2 w2 := Below.refl _ _
  have HB0 := Lib.hid hb0
  clear hb0
  go_region_held3 (fun w' => (∀ o, w'.cell? ⟨w.heap.size, o, none⟩ = (#[.string nm, .int .i64 a, .int .i64 b, .int .i64 c] : Array Value)[o]?) ∧ Below w2.heap.size w2 w')
    (first
      | with_reducible exact txt_keep hc hgl hbs.drew
      | (with_reducible refine txt_keep hc hgl (bthen ?_ hb)
         first | assumption | exact hbs.drew | (go_split_ands; assumption))
      | go_keep)
    (first
      | (go_at_call 53; refine (decS_any _ _ (by omega)).mono ?_; rintro e w3 ⟨rfl, hb⟩))
  all_goals (
    go_wp2_with fail
    go_ret
    refine ⟨⟨_, rfl, HF.out⟩, bthen HB0.out ?_⟩
    go_split_ands
    assumption)

theorem twoR_keep {b b2 : Nat} {C D : Array Value} {w W : World} (hc : ∀ o, w.cell? ⟨b, o, none⟩ = C[o]?) (hd : ∀ o, w.cell? ⟨b2, o, none⟩ = D[o]?) (hl : b < w.heap.size) (hl2 : b2 < w.heap.size) (hb : Below w.heap.size w W) :
    (∀ o, W.cell? ⟨b, o, none⟩ = C[o]?) ∧ (∀ o, W.cell? ⟨b2, o, none⟩ = D[o]?) ∧ Below w.heap.size w W :=
  ⟨fun o => (keep0 hb hl o).trans (hc o), fun o => (keep0 hb hl2 o).trans (hd o), hb⟩
set_option maxHeartbeats 4000000 in
set_option maxRecDepth 100000 in
theorem rencode_any (nm cr : ByteArray) (p dl kp : Int) (sus : Bool) (w : World) (hn : nm.size ≤ 140737488351232) (hcz : cr.size ≤ 140737488351232)
    (hr1 : -9223372036854775808 ≤ p ∧ p ≤ 9223372036854775807) (hr2 : -9223372036854775808 ≤ dl ∧ dl ≤ 9223372036854775807) (hr3 : -9223372036854775808 ≤ kp ∧ kp ≤ 9223372036854775807) :
    Calls Tryd.prog 40 #[jobV nm cr p dl kp sus] w fun x w' => EncPost nm.data.toList (pres cr).1 p dl kp sus x ∧ Below w.heap.size w w' := by
  unfold jobV
  have hAz := decS_size p hr1
  have hBz := decS_size dl hr2
  have hCz := decS_size kp hr3
  obtain ⟨pe, hpe⟩ : ∃ pe, pres cr = pe := ⟨_, rfl⟩
  have HOk : ExOk pe.1 := by have h := pres_ok cr; rw [hpe] at h; exact h
  obtain ⟨⟨mi, ho, da, mo, wk, ad, aw⟩, c⟩ := pe
  rw [hpe]
  obtain ⟨T, hT⟩ : ∃ T, bytesOf (textL ⟨mi, ho, da, mo, wk, ad, aw⟩) = T := ⟨_, rfl⟩
  have fT : ∀ w, Calls Tryd.prog 20 #[.agg #[.int .u64 mi, .int .u64 ho, .int .u64 da, .int .u64 mo, .int .u64 wk, .bool ad, .bool aw]] w fun x w' => x = .returned (.string T) ∧ Below w.heap.size w w' := by
    intro w; rw [← hT]; exact rtext_any ⟨mi, ho, da, mo, wk, ad, aw⟩ w HOk
  have hTz : T.size ≤ 2005 := by rw [← hT, bytes_size]; exact textL_len _
  have hTl : T.data.toList = textL ⟨mi, ho, da, mo, wk, ad, aw⟩ := by rw [← hT]; rfl
  have HX := Lib.hid hpe
  clear hT hpe
  obtain ⟨U, hU⟩ : ∃ U : ByteArray, (if sus then ⟨#[49]⟩ else ⟨#[48]⟩ : ByteArray) = U := ⟨_, rfl⟩
  have hUz : U.size = 1 := by rw [← hU]; cases sus <;> rfl
  have hUl : U.data.toList = Lib.itoa (if sus then 1 else 0) := by
    rw [← hU]
    cases sus
    · rw [show Lib.itoa (if false = true then (1 : Int) else 0) = dec2 0 from itoa_small 0 (by omega)]; rfl
    · rw [show Lib.itoa (if true = true then (1 : Int) else 0) = dec2 1 from itoa_small 1 (by omega)]; rfl
  have HF : Hid ((nm ++ ⟨#[32]⟩ ++ decS p ++ ⟨#[32]⟩ ++ decS dl ++ ⟨#[32]⟩ ++ decS kp ++ ⟨#[32]⟩ ++ U ++ ⟨#[32]⟩ ++ T).data.toList = encL nm.data.toList ⟨mi, ho, da, mo, wk, ad, aw⟩ p dl kp sus) := by
    show _ = _
    unfold encL minL
    simp only [List.map_cons, List.map_nil, Lib.join]
    simp [decS_list, hUl, hTl]
  have HR : Hid ((-9223372036854775808 ≤ p ∧ p ≤ 9223372036854775807) ∧ (-9223372036854775808 ≤ dl ∧ dl ≤ 9223372036854775807) ∧ (-9223372036854775808 ≤ kp ∧ kp ≤ 9223372036854775807)) := ⟨hr1, hr2, hr3⟩
  have HT := Lib.hid fT
  have k0 : ¬ 9223372036854775807 < nm.size + 1 := by omega
  have k1 : ¬ 9223372036854775807 < nm.size + 1 + (decS p).size := by omega
  have k2 : ¬ 9223372036854775807 < nm.size + 1 + (decS p).size + 1 := by omega
  have k3 : ¬ 9223372036854775807 < nm.size + 1 + (decS p).size + 1 + (decS dl).size := by omega
  have k4 : ¬ 9223372036854775807 < nm.size + 1 + (decS p).size + 1 + (decS dl).size + 1 := by omega
  have k5 : ¬ 9223372036854775807 < nm.size + 1 + (decS p).size + 1 + (decS dl).size + 1 + (decS kp).size := by omega
  have k6 : ¬ 9223372036854775807 < nm.size + 1 + (decS p).size + 1 + (decS dl).size + 1 + (decS kp).size + 1 := by omega
  have k7 : ¬ 9223372036854775807 < nm.size + 1 + (decS p).size + 1 + (decS dl).size + 1 + (decS kp).size + 1 + U.size := by omega
  have k8 : ¬ 9223372036854775807 < nm.size + 1 + (decS p).size + 1 + (decS dl).size + 1 + (decS kp).size + 1 + U.size + 1 := by omega
  have k9 : ¬ 9223372036854775807 < nm.size + 1 + (decS p).size + 1 + (decS dl).size + 1 + (decS kp).size + 1 + U.size + 1 + T.size := by omega
  have HU := Lib.hid hU
  have HUZ := Lib.hid hUz
  obtain ⟨l1, u1'⟩ := hr1
  obtain ⟨l2, u2'⟩ := hr2
  obtain ⟨l3, u3'⟩ := hr3
  clear fT hTl hUl HOk hU
  go_enter Tryd.func40, Tryd.ntmps40
  go_wp2_with fail
  go_at_call 17
  refine (rparse_any cr _ (by omega)).mono ?_
  rintro x w1 ⟨hx, hb1⟩
  unfold ParPost exV at hx
  rw [HX.out] at hx
  subst hx
  have hr1 := keepN hb1
  have hz1 := size1 hb1
  have hbel1 := bthen (bmore (Below.refl _ _) _) hb1
  clear hb1
  dsimp only
  have hc := fun o => (alloc_old w1 (.cells #[.int .u64 mi, .int .u64 ho, .int .u64 da, .int .u64 mo, .int .u64 wk, .bool ad, .bool aw] 40) hz1 o).trans (hr1 o)
  have hd := alloc_new w1 #[.int .u64 mi, .int .u64 ho, .int .u64 da, .int .u64 mo, .int .u64 wk, .bool ad, .bool aw] 40
  have hl : w.heap.size < (w1.alloc (.cells #[.int .u64 mi, .int .u64 ho, .int .u64 da, .int .u64 mo, .int .u64 wk, .bool ad, .bool aw] 40)).heap.size := by simp; omega
  have hl2 : w1.heap.size < (w1.alloc (.cells #[.int .u64 mi, .int .u64 ho, .int .u64 da, .int .u64 mo, .int .u64 wk, .bool ad, .bool aw] 40)).heap.size := by simp
  have HB2 := Lib.hid (bmore hbel1 (.cells #[.int .u64 mi, .int .u64 ho, .int .u64 da, .int .u64 mo, .int .u64 wk, .bool ad, .bool aw] 40))
  clear hbel1
  cases sus with
  | false =>
    have e1 : (⟨#[48]⟩ : ByteArray) = U := HU.out
    subst e1
    have hUs : (⟨#[48]⟩ : ByteArray).size = 1 := rfl
    rw [hUs] at k7 k8 k9
    clear HU HUZ hUz hUs hr1 hz1
    go_upto_region 5 with fail
    generalize w1.alloc (.cells #[.int .u64 mi, .int .u64 ho, .int .u64 da, .int .u64 mo, .int .u64 wk, .bool ad, .bool aw] 40) = w2 at *
    have hbs : Below w2.heap.size w2 w2 := Below.refl _ _
    go_region_held3 (fun w' => (∀ o, w'.cell? ⟨w.heap.size, o, none⟩ = (#[.string nm, .string cr, .int .i64 p, .int .i64 dl, .int .i64 kp, .bool false] : Array Value)[o]?) ∧ (∀ o, w'.cell? ⟨w1.heap.size, o, none⟩ = (#[.int .u64 mi, .int .u64 ho, .int .u64 da, .int .u64 mo, .int .u64 wk, .bool ad, .bool aw] : Array Value)[o]?) ∧ Below w2.heap.size w2 w')
      (first
        | with_reducible exact twoR_keep hc hd hl hl2 hbs.drew
        | (with_reducible refine twoR_keep hc hd hl hl2 (bthen ?_ hb)
           first | assumption | exact hbs.drew | (go_split_ands; assumption))
        | go_keep)
      (first
        | (go_at_call 53; refine (decS_any _ _ (by omega)).mono ?_; rintro e w3 ⟨rfl, hb⟩)
        | (go_at_call 20; refine (HT.out _).mono ?_; rintro e w3 ⟨rfl, hb⟩))
    all_goals (
      go_wp2_with fail
      go_ret
      refine ⟨⟨_, rfl, HF.out⟩, bthen HB2.out ?_⟩
      go_split_ands
      assumption)
  | true =>
    have e1 : (⟨#[49]⟩ : ByteArray) = U := HU.out
    subst e1
    have hUs : (⟨#[49]⟩ : ByteArray).size = 1 := rfl
    rw [hUs] at k7 k8 k9
    clear HU HUZ hUz hUs hr1 hz1
    go_upto_region 5 with fail
    generalize w1.alloc (.cells #[.int .u64 mi, .int .u64 ho, .int .u64 da, .int .u64 mo, .int .u64 wk, .bool ad, .bool aw] 40) = w2 at *
    have hbs : Below w2.heap.size w2 w2 := Below.refl _ _
    go_region_held3 (fun w' => (∀ o, w'.cell? ⟨w.heap.size, o, none⟩ = (#[.string nm, .string cr, .int .i64 p, .int .i64 dl, .int .i64 kp, .bool true] : Array Value)[o]?) ∧ (∀ o, w'.cell? ⟨w1.heap.size, o, none⟩ = (#[.int .u64 mi, .int .u64 ho, .int .u64 da, .int .u64 mo, .int .u64 wk, .bool ad, .bool aw] : Array Value)[o]?) ∧ Below w2.heap.size w2 w')
      (first
        | with_reducible exact twoR_keep hc hd hl hl2 hbs.drew
        | (with_reducible refine twoR_keep hc hd hl hl2 (bthen ?_ hb)
           first | assumption | exact hbs.drew | (go_split_ands; assumption))
        | go_keep)
      (first
        | (go_at_call 53; refine (decS_any _ _ (by omega)).mono ?_; rintro e w3 ⟨rfl, hb⟩)
        | (go_at_call 20; refine (HT.out _).mono ?_; rintro e w3 ⟨rfl, hb⟩))
    all_goals (
      go_wp2_with fail
      go_ret
      refine ⟨⟨_, rfl, HF.out⟩, bthen HB2.out ?_⟩
      go_split_ands
      assumption)
end Go.Proofs.YtdpaiaeaamokeaaDoor.Job
