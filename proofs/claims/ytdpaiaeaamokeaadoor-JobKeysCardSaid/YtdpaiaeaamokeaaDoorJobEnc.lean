/- The contract of job.Encode; the chapter's example holds: horologelaw17.known answers true. -/
import Derived.Test.YtdpaiaeaamokeaaDoorJobMin
namespace Go.Proofs.YtdpaiaeaamokeaaDoor.Job
open Go.RowKit Go Go.Proofs.YtdpaiaeaamokeaaDoor.Cron

/-- A job as a value. -/
def jobV (nm cr : ByteArray) (p dl kp : Int) (sus : Bool) : Value := .agg #[.string nm, .string cr, .int .i64 p, .int .i64 dl, .int .i64 kp, .bool sus]
/-- A job's text. -/
def encL (nm : List UInt8) (e : Ex) (p dl kp : Int) (sus : Bool) : List UInt8 := nm ++ [32] ++ minL [p, dl, kp, if sus then 1 else 0] ++ [32] ++ textL e
def EncPost (nm : List UInt8) (e : Ex) (p dl kp : Int) (sus : Bool) (x : Ending) : Prop := ∃ S : ByteArray, x = .returned (.string S) ∧ S.data.toList = encL nm e p dl kp sus
theorem minL_len (xs : List Int) (h : ∀ x ∈ xs, -9223372036854775808 ≤ x ∧ x ≤ 9223372036854775807) : (minL xs).length ≤ xs.length * 22 := by
  have := join_len [32] 21 (xs.map Lib.itoa) (by
    intro y hy
    obtain ⟨x, hx, rfl⟩ := List.mem_map.1 hy
    exact Lib.itoa_length_le _ (h x hx).1 (h x hx).2)
  simpa [minL] using this
theorem textL_len (e : Ex) : (textL e).length ≤ 2005 := by
  have := join_len [32] 400 [starL (decide (e.mi = spanN 0 59)) e.mi 0 59, starL (decide (e.ho = spanN 0 23)) e.ho 0 23, starL e.ad e.da 1 31, starL (decide (e.mo = spanN 1 12)) e.mo 1 12, starL e.aw e.wk 0 6] (by
    simp [starL_len])
  simpa [textL] using this
theorem size_of (S : ByteArray) (l : List UInt8) (h : S.data.toList = l) : S.size = l.length := by rw [← h, Array.length_toList]; rfl

theorem min4 {X : World} {b : Nat} {p dl kp s : Int} (hc : ∀ j, X.cell? ⟨b, j, none⟩ = (#[.int .i64 p, .int .i64 dl, .int .i64 kp, .int .i64 s] : Array Value)[j]?) (hb : b < X.heap.size)
    (hr : (-9223372036854775808 ≤ p ∧ p ≤ 9223372036854775807) ∧ (-9223372036854775808 ≤ dl ∧ dl ≤ 9223372036854775807) ∧ (-9223372036854775808 ≤ kp ∧ kp ≤ 9223372036854775807) ∧ (-9223372036854775808 ≤ s ∧ s ≤ 9223372036854775807)) (hP : Pow X) :
    Calls Tryd.prog 13 #[.slice (some ⟨b, 0, none⟩) 4 4] X fun e w' => (∃ S : ByteArray, e = .returned (.string S) ∧ Hid (S.data.toList = minL [p, dl, kp, s]) ∧ S.size ≤ 100) ∧ Below X.heap.size X w' := by
  have h : SlOk X (some ⟨b, 0, none⟩) [p, dl, kp, s] := by
    intro i hi
    refine ⟨b, 0, rfl, hb, ?_, ?_, ?_⟩
    · rw [Nat.zero_add, hc i]
      match i, hi with
      | 0, _ => rfl
      | 1, _ => rfl
      | 2, _ => rfl
      | 3, _ => rfl
    · match i, hi with
      | 0, _ => exact hr.1.1
      | 1, _ => exact hr.2.1.1
      | 2, _ => exact hr.2.2.1.1
      | 3, _ => exact hr.2.2.2.1
    · match i, hi with
      | 0, _ => exact hr.1.2
      | 1, _ => exact hr.2.1.2
      | 2, _ => exact hr.2.2.1.2
      | 3, _ => exact hr.2.2.2.2
  refine (minutes_any (some ⟨b, 0, none⟩) 4 [p, dl, kp, s] X h (by simp) hP).mono fun e w' ⟨he, hw⟩ => ⟨⟨_, he, rfl, ?_⟩, hw⟩
  have := minL_len [p, dl, kp, s] (by simp [hr.1, hr.2.1, hr.2.2.1, hr.2.2.2])
  rw [size_of _ (minL [p, dl, kp, s]) rfl]
  simp at this
  omega
theorem text_s (e : Ex) (w : World) (he : ExOk e) :
    Calls Tryd.prog 19 #[exV e] w fun x w' => (∃ S : ByteArray, x = .returned (.string S) ∧ Hid (S.data.toList = textL e) ∧ S.size ≤ 2005) ∧ Below w.heap.size w w' :=
  (text_any e w he).mono fun _ _ ⟨h, hw⟩ => ⟨⟨_, h, rfl, by rw [size_of _ (textL e) rfl]; exact textL_len e⟩, hw⟩

theorem two_keep {b b2 : Nat} {C D : Array Value} {w W : World} (hc : ∀ o, w.cell? ⟨b, o, none⟩ = C[o]?) (hd : ∀ o, w.cell? ⟨b2, o, none⟩ = D[o]?) (hl : b < w.heap.size) (hl2 : b2 < w.heap.size) (hb : Below w.heap.size w W) :
    (∀ o, W.cell? ⟨b, o, none⟩ = C[o]?) ∧ (∀ o, W.cell? ⟨b2, o, none⟩ = D[o]?) ∧ Below w.heap.size w W := ⟨fun o => (keep0 hb hl o).trans (hc o), fun o => (keep0 hb hl2 o).trans (hd o), hb⟩
theorem two_alloc {b b2 : Nat} {C D : Array Value} {w W : World} {x : Obj} (hc : ∀ o, w.cell? ⟨b, o, none⟩ = C[o]?) (hd : ∀ o, w.cell? ⟨b2, o, none⟩ = D[o]?) (hl : b < w.heap.size) (hl2 : b2 < w.heap.size) (hb : Below w.heap.size w W) :
    (∀ o, (W.alloc x).cell? ⟨b, o, none⟩ = C[o]?) ∧ (∀ o, (W.alloc x).cell? ⟨b2, o, none⟩ = D[o]?) ∧ Below w.heap.size w (W.alloc x) := two_keep hc hd hl hl2 (bmore hb x)
theorem two_allocD {b b2 : Nat} {C D : Array Value} {w W : World} {x : Obj} (hc : ∀ o, w.cell? ⟨b, o, none⟩ = C[o]?) (hd : ∀ o, w.cell? ⟨b2, o, none⟩ = D[o]?) (hl : b < w.heap.size) (hl2 : b2 < w.heap.size) (hb : Below w.heap.size w W) :
    (∀ o, ((W.alloc x).drew).cell? ⟨b, o, none⟩ = C[o]?) ∧ (∀ o, ((W.alloc x).drew).cell? ⟨b2, o, none⟩ = D[o]?) ∧ Below w.heap.size w ((W.alloc x).drew) := two_keep hc hd hl hl2 (bmore hb x).drew
theorem alloc_newD (W : World) (c : Array Value) (t : TypeId) (o : Nat) : ((W.alloc (.cells c t)).drew).cell? ⟨W.heap.size, o, none⟩ = c[o]? := alloc_new W c t o

set_option maxHeartbeats 4000000 in
set_option maxRecDepth 100000 in
theorem encode_any (nm cr : ByteArray) (p dl kp : Int) (sus : Bool) (w : World) (hL : Laid w) (hP : Pow w) (hn : nm.size ≤ 140737488351232) (hcz : cr.size ≤ 140737488351232)
    (hr1 : -9223372036854775808 ≤ p ∧ p ≤ 9223372036854775807) (hr2 : -9223372036854775808 ≤ dl ∧ dl ≤ 9223372036854775807) (hr3 : -9223372036854775808 ≤ kp ∧ kp ≤ 9223372036854775807) :
    Calls Tryd.prog 39 #[jobV nm cr p dl kp sus] w fun x w' => EncPost nm.data.toList (pres cr).1 p dl kp sus x ∧ Below w.heap.size w w' := by
  obtain ⟨pe, hpe⟩ : ∃ pe, pres cr = pe := ⟨_, rfl⟩
  have HOk : Hid (ExOk pe.1) := by have h := pres_ok cr; rw [hpe] at h; exact h
  obtain ⟨⟨mi, ho, da, mo, wk, ad, aw⟩, c⟩ := pe
  have HX := Lib.hid hpe
  rw [hpe]
  clear hpe
  dsimp only
  unfold jobV
  obtain ⟨sv, hsv⟩ : ∃ sv : Int, (if sus then 1 else 0) = sv := ⟨_, rfl⟩
  have hsb : 0 ≤ sv ∧ sv ≤ 1 := by rw [← hsv]; cases sus <;> simp
  have HSV := Lib.hid hsv
  clear hsv
  go_enter Tryd.func39, Tryd.ntmps39
  go_wp2_with fail
  go_at_call 16
  refine (parse_any cr _ (hL.below (bmore (Below.refl _ _) _)).tabs (hL.below (bmore (Below.refl _ _) _)).max (by omega)).mono ?_
  rintro x w1 ⟨hx, hb1⟩
  unfold ParPost exV at hx
  rw [HX.out] at hx
  subst hx
  have hc1 := keepN hb1
  have hz1 := size1 hb1
  have hbel : Below w.heap.size w w1 := bthen (bmore (Below.refl _ _) _) hb1
  clear hb1
  have hc := fun o => (alloc_old w1 (.cells #[.int .u64 mi, .int .u64 ho, .int .u64 da, .int .u64 mo, .int .u64 wk, .bool ad, .bool aw] 35) hz1 o).trans (hc1 o)
  have hd := alloc_new w1 #[.int .u64 mi, .int .u64 ho, .int .u64 da, .int .u64 mo, .int .u64 wk, .bool ad, .bool aw] 35
  have hl : w.heap.size < (w1.alloc (.cells #[.int .u64 mi, .int .u64 ho, .int .u64 da, .int .u64 mo, .int .u64 wk, .bool ad, .bool aw] 35)).heap.size := by simp; omega
  have hl2 : w1.heap.size < (w1.alloc (.cells #[.int .u64 mi, .int .u64 ho, .int .u64 da, .int .u64 mo, .int .u64 wk, .bool ad, .bool aw] 35)).heap.size := by simp
  have hb2 := Lib.hid (bmore hbel (.cells #[.int .u64 mi, .int .u64 ho, .int .u64 da, .int .u64 mo, .int .u64 wk, .bool ad, .bool aw] 35))
  clear hbel
  cases sus
  · go_wp2
    generalize w1.alloc (.cells #[.int .u64 mi, .int .u64 ho, .int .u64 da, .int .u64 mo, .int .u64 wk, .bool ad, .bool aw] 35) = w2 at *
    have hbs : Below w2.heap.size w2 w2 := Below.refl _ _
    have hP2 := hP.below hb2.out
    have hq0 : ¬ 9223372036854775807 < nm.size + 1 := by omega
    go_region_held3 (fun w' => (∀ o, w'.cell? ⟨w.heap.size, o, none⟩ = (#[.string nm, .string cr, .int .i64 p, .int .i64 dl, .int .i64 kp, .bool false] : Array Value)[o]?) ∧ (∀ o, w'.cell? ⟨w1.heap.size, o, none⟩ = (#[.int .u64 mi, .int .u64 ho, .int .u64 da, .int .u64 mo, .int .u64 wk, .bool ad, .bool aw] : Array Value)[o]?) ∧ Below w2.heap.size w2 w')
      (first
        | with_reducible exact two_keep hc hd hl hl2 hbs.drew
        | (with_reducible refine two_alloc hc hd hl hl2 ?_
           first | assumption | exact hbs | exact hbs.drew | (go_split_ands; assumption))
        | (with_reducible refine two_allocD hc hd hl hl2 ?_
           first | assumption | exact hbs | exact hbs.drew | (go_split_ands; assumption))
        | (with_reducible refine two_keep hc hd hl hl2 (bthen ?_ hb)
           first | assumption | exact hbs.drew | (go_split_ands; assumption))
        | go_keep)
      (first
        | (go_at_call 13; refine (min4 (s := 0) (by first | exact alloc_new _ _ _ | exact alloc_newD _ _ _) (by simp) ⟨hr1, hr2, hr3, by omega, by omega⟩ (hP2.below (by first | assumption | (go_split_ands; assumption)))).mono ?_
           rintro x w3 ⟨⟨M, rfl, HM, hMz⟩, hb⟩
           have hq1 : ¬ 9223372036854775807 < nm.size + 1 + M.size := by omega
           have hq2 : ¬ 9223372036854775807 < nm.size + 1 + M.size + 1 := by omega)
        | (go_at_call 19; refine (text_s ⟨mi, ho, da, mo, wk, ad, aw⟩ _ HOk.out).mono ?_
           rintro x w4 ⟨⟨T, rfl, HT, hTz⟩, hb⟩
           have hq3 : ¬ 9223372036854775807 < nm.size + 1 + M.size + 1 + T.size := by omega))
    all_goals (
      go_wp2_with fail
      go_ret
      refine ⟨⟨_, rfl, by have h1 := HM.out; have h2 := HT.out; simp [encL, h1, h2]⟩, bthen hb2.out ?_⟩
      go_split_ands
      assumption)
  · go_wp2
    generalize w1.alloc (.cells #[.int .u64 mi, .int .u64 ho, .int .u64 da, .int .u64 mo, .int .u64 wk, .bool ad, .bool aw] 35) = w2 at *
    have hbs : Below w2.heap.size w2 w2 := Below.refl _ _
    have hP2 := hP.below hb2.out
    have hq0 : ¬ 9223372036854775807 < nm.size + 1 := by omega
    go_region_held3 (fun w' => (∀ o, w'.cell? ⟨w.heap.size, o, none⟩ = (#[.string nm, .string cr, .int .i64 p, .int .i64 dl, .int .i64 kp, .bool true] : Array Value)[o]?) ∧ (∀ o, w'.cell? ⟨w1.heap.size, o, none⟩ = (#[.int .u64 mi, .int .u64 ho, .int .u64 da, .int .u64 mo, .int .u64 wk, .bool ad, .bool aw] : Array Value)[o]?) ∧ Below w2.heap.size w2 w')
      (first
        | with_reducible exact two_keep hc hd hl hl2 hbs.drew
        | (with_reducible refine two_alloc hc hd hl hl2 ?_
           first | assumption | exact hbs | exact hbs.drew | (go_split_ands; assumption))
        | (with_reducible refine two_allocD hc hd hl hl2 ?_
           first | assumption | exact hbs | exact hbs.drew | (go_split_ands; assumption))
        | (with_reducible refine two_keep hc hd hl hl2 (bthen ?_ hb)
           first | assumption | exact hbs.drew | (go_split_ands; assumption))
        | go_keep)
      (first
        | (go_at_call 13; refine (min4 (s := 1) (by first | exact alloc_new _ _ _ | exact alloc_newD _ _ _) (by simp) ⟨hr1, hr2, hr3, by omega, by omega⟩ (hP2.below (by first | assumption | (go_split_ands; assumption)))).mono ?_
           rintro x w3 ⟨⟨M, rfl, HM, hMz⟩, hb⟩
           have hq1 : ¬ 9223372036854775807 < nm.size + 1 + M.size := by omega
           have hq2 : ¬ 9223372036854775807 < nm.size + 1 + M.size + 1 := by omega)
        | (go_at_call 19; refine (text_s ⟨mi, ho, da, mo, wk, ad, aw⟩ _ HOk.out).mono ?_
           rintro x w4 ⟨⟨T, rfl, HT, hTz⟩, hb⟩
           have hq3 : ¬ 9223372036854775807 < nm.size + 1 + M.size + 1 + T.size := by omega))
    all_goals (
      go_wp2_with fail
      go_ret
      refine ⟨⟨_, rfl, by have h1 := HM.out; have h2 := HT.out; simp [encL, h1, h2]⟩, bthen hb2.out ?_⟩
      go_split_ands
      assumption)

/-! ### The chapter's example -/
theorem itoa_small (n : Nat) (h : n < 100) : Lib.itoa (n : Int) = dec2 n := by rw [Lib.itoa_nonneg, dec2_dig n h]
def exK : Ex := ⟨32, spanN 0 23, spanN 1 31, spanN 1 12, spanN 0 6, true, true⟩
theorem pres_exK : pres ⟨#[53, 32, 42, 32, 32, 42, 32, 42, 32, 42]⟩ = (exK, 0) := by decide +kernel
theorem min_known : minL [1, 10, 3, 0] = [49, 32, 49, 48, 32, 51, 32, 48] := by
  unfold minL
  rw [List.map_cons, List.map_cons, List.map_cons, List.map_cons, List.map_nil]
  rw [show Lib.itoa 1 = dec2 1 from itoa_small 1 (by omega), show Lib.itoa 10 = dec2 10 from itoa_small 10 (by omega), show Lib.itoa 3 = dec2 3 from itoa_small 3 (by omega), show Lib.itoa 0 = dec2 0 from itoa_small 0 (by omega)]
  decide +kernel
theorem text_known : textL exK = [53, 32, 42, 32, 42, 32, 42, 32, 42] := by decide +kernel
theorem enc_known : encL [97] exK 1 10 3 false = [97, 32, 49, 32, 49, 48, 32, 51, 32, 48, 32, 53, 32, 42, 32, 42, 32, 42, 32, 42] := by
  unfold encL
  rw [show (if false = true then (1 : Int) else 0) = 0 by rfl, min_known, text_known]; rfl

set_option maxRecDepth 100000 in
theorem known17 (w : World) (hL : Laid w) (hP : Pow w) : Calls Tryd.prog 9 #[] w fun e w' => e = .returned (.bool true) ∧ Below w.heap.size w w' := by
  go_enter Tryd.func9, Tryd.ntmps9
  go_wp2_with fail
  go_at_call 39
  refine (encode_any ⟨#[97]⟩ ⟨#[53, 32, 42, 32, 32, 42, 32, 42, 32, 42]⟩ 1 10 3 false _ hL hP (by decide) (by decide) (by omega) (by omega) (by omega)).mono ?_
  rintro x w1 ⟨⟨T, rfl, hT⟩, hb⟩
  rw [pres_exK] at hT
  have hT2 : (T.toList == [97, 32, 49, 32, 49, 48, 32, 51, 32, 48, 32, 53, 32, 42, 32, 42, 32, 42, 32, 42]) = true := by
    rw [Lib.toList_data, hT]
    show (encL [97] exK 1 10 3 false == _) = true
    rw [enc_known]; rfl
  clear hT
  go_wp2
  go_ret
  exact ⟨rfl, hb⟩
end Go.Proofs.YtdpaiaeaamokeaaDoor.Job
