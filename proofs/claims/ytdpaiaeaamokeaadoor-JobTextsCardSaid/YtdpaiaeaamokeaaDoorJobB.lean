/- Joined: JobEnc, JobNamesK, JobRun, JobParseRun, JobBackK. -/
import Derived.Test.YtdpaiaeaamokeaaDoorJobA
import Derived.Test.YtdpaiaeaamokeaaDoorCronF
namespace Go.Proofs.YtdpaiaeaamokeaaDoor.Job
open Go.RowKit Go Go.Proofs.YtdpaiaeaamokeaaDoor.Cron

/-- A job as a value. -/
def jobV (nm cr : ByteArray) (p dl kp : Int) (sus : Bool) : Value := .agg #[.string nm, .string cr, .int .i64 p, .int .i64 dl, .int .i64 kp, .bool sus]
/-- A job's text. -/
def encL (nm : List UInt8) (e : Ex) (p dl kp : Int) (sus : Bool) : List UInt8 := nm ++ [32] ++ minL [p, dl, kp, if sus then 1 else 0] ++ [32] ++ textL e
def EncPost (nm : List UInt8) (e : Ex) (p dl kp : Int) (sus : Bool) (x : Ending) : Prop := ∃ S : ByteArray, x = .returned (.string S) ∧ S.data.toList = encL nm e p dl kp sus
theorem minL_len (xs : List Int) (h : ∀ x ∈ xs, -9223372036854775808 ≤ x ∧ x ≤ 9223372036854775807) : (minL xs).length ≤ xs.length * 22 := by
  have := join_len [32] 21 (xs.map Lib.itoa) (by
    intro y hy
    obtain ⟨x, hx, rfl⟩ := List.mem_map.1 hy
    exact Lib.itoa_length_le _ (h x hx).1 (h x hx).2)
  simpa [minL] using this
theorem textL_len (e : Ex) : (textL e).length ≤ 2005 := by
  have := join_len [32] 400 [starL (decide (e.mi = spanN 0 59)) e.mi 0 59, starL (decide (e.ho = spanN 0 23)) e.ho 0 23, starL e.ad e.da 1 31, starL (decide (e.mo = spanN 1 12)) e.mo 1 12, starL e.aw e.wk 0 6] (by
    simp [starL_len])
  simpa [textL] using this
theorem size_of (S : ByteArray) (l : List UInt8) (h : S.data.toList = l) : S.size = l.length := by rw [← h, Array.length_toList]; rfl

theorem min4 {X : World} {b : Nat} {p dl kp s : Int} (hc : ∀ j, X.cell? ⟨b, j, none⟩ = (#[.int .i64 p, .int .i64 dl, .int .i64 kp, .int .i64 s] : Array Value)[j]?) (hb : b < X.heap.size)
    (hr : (-9223372036854775808 ≤ p ∧ p ≤ 9223372036854775807) ∧ (-9223372036854775808 ≤ dl ∧ dl ≤ 9223372036854775807) ∧ (-9223372036854775808 ≤ kp ∧ kp ≤ 9223372036854775807) ∧ (-9223372036854775808 ≤ s ∧ s ≤ 9223372036854775807)) (hP : Pow X) :
    Calls Tryd.prog 13 #[.slice (some ⟨b, 0, none⟩) 4 4] X fun e w' => (∃ S : ByteArray, e = .returned (.string S) ∧ Hid (S.data.toList = minL [p, dl, kp, s]) ∧ S.size ≤ 100) ∧ Below X.heap.size X w' := by
  have h : SlOk X (some ⟨b, 0, none⟩) [p, dl, kp, s] := by
    intro i hi
    refine ⟨b, 0, rfl, hb, ?_, ?_, ?_⟩
    · rw [Nat.zero_add, hc i]
      match i, hi with
      | 0, _ => rfl
      | 1, _ => rfl
      | 2, _ => rfl
      | 3, _ => rfl
    · match i, hi with
      | 0, _ => exact hr.1.1
      | 1, _ => exact hr.2.1.1
      | 2, _ => exact hr.2.2.1.1
      | 3, _ => exact hr.2.2.2.1
    · match i, hi with
      | 0, _ => exact hr.1.2
      | 1, _ => exact hr.2.1.2
      | 2, _ => exact hr.2.2.1.2
      | 3, _ => exact hr.2.2.2.2
  refine (minutes_any (some ⟨b, 0, none⟩) 4 [p, dl, kp, s] X h (by simp) hP).mono fun e w' ⟨he, hw⟩ => ⟨⟨_, he, rfl, ?_⟩, hw⟩
  have := minL_len [p, dl, kp, s] (by simp [hr.1, hr.2.1, hr.2.2.1, hr.2.2.2])
  rw [size_of _ (minL [p, dl, kp, s]) rfl]
  simp at this
  omega
theorem text_s (e : Ex) (w : World) (he : ExOk e) :
    Calls Tryd.prog 19 #[exV e] w fun x w' => (∃ S : ByteArray, x = .returned (.string S) ∧ Hid (S.data.toList = textL e) ∧ S.size ≤ 2005) ∧ Below w.heap.size w w' :=
  (text_any e w he).mono fun _ _ ⟨h, hw⟩ => ⟨⟨_, h, rfl, by rw [size_of _ (textL e) rfl]; exact textL_len e⟩, hw⟩

theorem two_keep {b b2 : Nat} {C D : Array Value} {w W : World} (hc : ∀ o, w.cell? ⟨b, o, none⟩ = C[o]?) (hd : ∀ o, w.cell? ⟨b2, o, none⟩ = D[o]?) (hl : b < w.heap.size) (hl2 : b2 < w.heap.size) (hb : Below w.heap.size w W) :
    (∀ o, W.cell? ⟨b, o, none⟩ = C[o]?) ∧ (∀ o, W.cell? ⟨b2, o, none⟩ = D[o]?) ∧ Below w.heap.size w W := ⟨fun o => (keep0 hb hl o).trans (hc o), fun o => (keep0 hb hl2 o).trans (hd o), hb⟩
theorem two_alloc {b b2 : Nat} {C D : Array Value} {w W : World} {x : Obj} (hc : ∀ o, w.cell? ⟨b, o, none⟩ = C[o]?) (hd : ∀ o, w.cell? ⟨b2, o, none⟩ = D[o]?) (hl : b < w.heap.size) (hl2 : b2 < w.heap.size) (hb : Below w.heap.size w W) :
    (∀ o, (W.alloc x).cell? ⟨b, o, none⟩ = C[o]?) ∧ (∀ o, (W.alloc x).cell? ⟨b2, o, none⟩ = D[o]?) ∧ Below w.heap.size w (W.alloc x) := two_keep hc hd hl hl2 (bmore hb x)
theorem two_allocD {b b2 : Nat} {C D : Array Value} {w W : World} {x : Obj} (hc : ∀ o, w.cell? ⟨b, o, none⟩ = C[o]?) (hd : ∀ o, w.cell? ⟨b2, o, none⟩ = D[o]?) (hl : b < w.heap.size) (hl2 : b2 < w.heap.size) (hb : Below w.heap.size w W) :
    (∀ o, ((W.alloc x).drew).cell? ⟨b, o, none⟩ = C[o]?) ∧ (∀ o, ((W.alloc x).drew).cell? ⟨b2, o, none⟩ = D[o]?) ∧ Below w.heap.size w ((W.alloc x).drew) := two_keep hc hd hl hl2 (bmore hb x).drew
theorem alloc_newD (W : World) (c : Array Value) (t : TypeId) (o : Nat) : ((W.alloc (.cells c t)).drew).cell? ⟨W.heap.size, o, none⟩ = c[o]? := alloc_new W c t o

set_option maxHeartbeats 4000000 in
set_option maxRecDepth 100000 in
theorem encode_any (nm cr : ByteArray) (p dl kp : Int) (sus : Bool) (w : World) (hL : Laid w) (hP : Pow w) (hn : nm.size ≤ 140737488351232) (hcz : cr.size ≤ 140737488351232)
    (hr1 : -9223372036854775808 ≤ p ∧ p ≤ 9223372036854775807) (hr2 : -9223372036854775808 ≤ dl ∧ dl ≤ 9223372036854775807) (hr3 : -9223372036854775808 ≤ kp ∧ kp ≤ 9223372036854775807) :
    Calls Tryd.prog 39 #[jobV nm cr p dl kp sus] w fun x w' => EncPost nm.data.toList (pres cr).1 p dl kp sus x ∧ Below w.heap.size w w' := by
  obtain ⟨pe, hpe⟩ : ∃ pe, pres cr = pe := ⟨_, rfl⟩
  have HOk : Hid (ExOk pe.1) := by have h := pres_ok cr; rw [hpe] at h; exact h
  obtain ⟨⟨mi, ho, da, mo, wk, ad, aw⟩, c⟩ := pe
  have HX := Lib.hid hpe
  rw [hpe]
  clear hpe
  dsimp only
  unfold jobV
  obtain ⟨sv, hsv⟩ : ∃ sv : Int, (if sus then 1 else 0) = sv := ⟨_, rfl⟩
  have hsb : 0 ≤ sv ∧ sv ≤ 1 := by rw [← hsv]; cases sus <;> simp
  have HSV := Lib.hid hsv
  clear hsv
  go_enter Tryd.func39, Tryd.ntmps39
  go_wp2_with fail
  go_at_call 16
  refine (parse_any cr _ (hL.below (bmore (Below.refl _ _) _)).tabs (hL.below (bmore (Below.refl _ _) _)).max (by omega)).mono ?_
  rintro x w1 ⟨hx, hb1⟩
  unfold ParPost exV at hx
  rw [HX.out] at hx
  subst hx
  have hc1 := keepN hb1
  have hz1 := size1 hb1
  have hbel : Below w.heap.size w w1 := bthen (bmore (Below.refl _ _) _) hb1
  clear hb1
  have hc := fun o => (alloc_old w1 (.cells #[.int .u64 mi, .int .u64 ho, .int .u64 da, .int .u64 mo, .int .u64 wk, .bool ad, .bool aw] 35) hz1 o).trans (hc1 o)
  have hd := alloc_new w1 #[.int .u64 mi, .int .u64 ho, .int .u64 da, .int .u64 mo, .int .u64 wk, .bool ad, .bool aw] 35
  have hl : w.heap.size < (w1.alloc (.cells #[.int .u64 mi, .int .u64 ho, .int .u64 da, .int .u64 mo, .int .u64 wk, .bool ad, .bool aw] 35)).heap.size := by simp; omega
  have hl2 : w1.heap.size < (w1.alloc (.cells #[.int .u64 mi, .int .u64 ho, .int .u64 da, .int .u64 mo, .int .u64 wk, .bool ad, .bool aw] 35)).heap.size := by simp
  have hb2 := Lib.hid (bmore hbel (.cells #[.int .u64 mi, .int .u64 ho, .int .u64 da, .int .u64 mo, .int .u64 wk, .bool ad, .bool aw] 35))
  clear hbel
  cases sus
  · go_wp2
    generalize w1.alloc (.cells #[.int .u64 mi, .int .u64 ho, .int .u64 da, .int .u64 mo, .int .u64 wk, .bool ad, .bool aw] 35) = w2 at *
    have hbs : Below w2.heap.size w2 w2 := Below.refl _ _
    have hP2 := hP.below hb2.out
    have hq0 : ¬ 9223372036854775807 < nm.size + 1 := by omega
    go_region_held3 (fun w' => (∀ o, w'.cell? ⟨w.heap.size, o, none⟩ = (#[.string nm, .string cr, .int .i64 p, .int .i64 dl, .int .i64 kp, .bool false] : Array Value)[o]?) ∧ (∀ o, w'.cell? ⟨w1.heap.size, o, none⟩ = (#[.int .u64 mi, .int .u64 ho, .int .u64 da, .int .u64 mo, .int .u64 wk, .bool ad, .bool aw] : Array Value)[o]?) ∧ Below w2.heap.size w2 w')
      (first
        | with_reducible exact two_keep hc hd hl hl2 hbs.drew
        | (with_reducible refine two_alloc hc hd hl hl2 ?_
           first | assumption | exact hbs | exact hbs.drew | (go_split_ands; assumption))
        | (with_reducible refine two_allocD hc hd hl hl2 ?_
           first | assumption | exact hbs | exact hbs.drew | (go_split_ands; assumption))
        | (with_reducible refine two_keep hc hd hl hl2 (bthen ?_ hb)
           first | assumption | exact hbs.drew | (go_split_ands; assumption))
        | go_keep)
      (first
        | (go_at_call 13; refine (min4 (s := 0) (by first | exact alloc_new _ _ _ | exact alloc_newD _ _ _) (by simp) ⟨hr1, hr2, hr3, by omega, by omega⟩ (hP2.below (by first | assumption | (go_split_ands; assumption)))).mono ?_
           rintro x w3 ⟨⟨M, rfl, HM, hMz⟩, hb⟩
           have hq1 : ¬ 9223372036854775807 < nm.size + 1 + M.size := by omega
           have hq2 : ¬ 9223372036854775807 < nm.size + 1 + M.size + 1 := by omega)
        | (go_at_call 19; refine (text_s ⟨mi, ho, da, mo, wk, ad, aw⟩ _ HOk.out).mono ?_
           rintro x w4 ⟨⟨T, rfl, HT, hTz⟩, hb⟩
           have hq3 : ¬ 9223372036854775807 < nm.size + 1 + M.size + 1 + T.size := by omega))
    all_goals (
      go_wp2_with fail
      go_ret
      refine ⟨⟨_, rfl, by have h1 := HM.out; have h2 := HT.out; simp [encL, h1, h2]⟩, bthen hb2.out ?_⟩
      go_split_ands
      assumption)
  · go_wp2
    generalize w1.alloc (.cells #[.int .u64 mi, .int .u64 ho, .int .u64 da, .int .u64 mo, .int .u64 wk, .bool ad, .bool aw] 35) = w2 at *
    have hbs : Below w2.heap.size w2 w2 := Below.refl _ _
    have hP2 := hP.below hb2.out
    have hq0 : ¬ 9223372036854775807 < nm.size + 1 := by omega
    go_region_held3 (fun w' => (∀ o, w'.cell? ⟨w.heap.size, o, none⟩ = (#[.string nm, .string cr, .int .i64 p, .int .i64 dl, .int .i64 kp, .bool true] : Array Value)[o]?) ∧ (∀ o, w'.cell? ⟨w1.heap.size, o, none⟩ = (#[.int .u64 mi, .int .u64 ho, .int .u64 da, .int .u64 mo, .int .u64 wk, .bool ad, .bool aw] : Array Value)[o]?) ∧ Below w2.heap.size w2 w')
      (first
        | with_reducible exact two_keep hc hd hl hl2 hbs.drew
        | (with_reducible refine two_alloc hc hd hl hl2 ?_
           first | assumption | exact hbs | exact hbs.drew | (go_split_ands; assumption))
        | (with_reducible refine two_allocD hc hd hl hl2 ?_
           first | assumption | exact hbs | exact hbs.drew | (go_split_ands; assumption))
        | (with_reducible refine two_keep hc hd hl hl2 (bthen ?_ hb)
           first | assumption | exact hbs.drew | (go_split_ands; assumption))
        | go_keep)
      (first
        | (go_at_call 13; refine (min4 (s := 1) (by first | exact alloc_new _ _ _ | exact alloc_newD _ _ _) (by simp) ⟨hr1, hr2, hr3, by omega, by omega⟩ (hP2.below (by first | assumption | (go_split_ands; assumption)))).mono ?_
           rintro x w3 ⟨⟨M, rfl, HM, hMz⟩, hb⟩
           have hq1 : ¬ 9223372036854775807 < nm.size + 1 + M.size := by omega
           have hq2 : ¬ 9223372036854775807 < nm.size + 1 + M.size + 1 := by omega)
        | (go_at_call 19; refine (text_s ⟨mi, ho, da, mo, wk, ad, aw⟩ _ HOk.out).mono ?_
           rintro x w4 ⟨⟨T, rfl, HT, hTz⟩, hb⟩
           have hq3 : ¬ 9223372036854775807 < nm.size + 1 + M.size + 1 + T.size := by omega))
    all_goals (
      go_wp2_with fail
      go_ret
      refine ⟨⟨_, rfl, by have h1 := HM.out; have h2 := HT.out; simp [encL, h1, h2]⟩, bthen hb2.out ?_⟩
      go_split_ands
      assumption)

/-! ### The chapter's example -/
theorem itoa_small (n : Nat) (h : n < 100) : Lib.itoa (n : Int) = dec2 n := by rw [Lib.itoa_nonneg, dec2_dig n h]
def exK : Ex := ⟨32, spanN 0 23, spanN 1 31, spanN 1 12, spanN 0 6, true, true⟩
theorem pres_exK : pres ⟨#[53, 32, 42, 32, 32, 42, 32, 42, 32, 42]⟩ = (exK, 0) := by decide +kernel
theorem min_known : minL [1, 10, 3, 0] = [49, 32, 49, 48, 32, 51, 32, 48] := by
  unfold minL
  rw [List.map_cons, List.map_cons, List.map_cons, List.map_cons, List.map_nil]
  rw [show Lib.itoa 1 = dec2 1 from itoa_small 1 (by omega), show Lib.itoa 10 = dec2 10 from itoa_small 10 (by omega), show Lib.itoa 3 = dec2 3 from itoa_small 3 (by omega), show Lib.itoa 0 = dec2 0 from itoa_small 0 (by omega)]
  decide +kernel
theorem text_known : textL exK = [53, 32, 42, 32, 42, 32, 42, 32, 42] := by decide +kernel
theorem enc_known : encL [97] exK 1 10 3 false = [97, 32, 49, 32, 49, 48, 32, 51, 32, 48, 32, 53, 32, 42, 32, 42, 32, 42, 32, 42] := by
  unfold encL
  rw [show (if false = true then (1 : Int) else 0) = 0 by rfl, min_known, text_known]; rfl

set_option maxRecDepth 100000 in
theorem known17 (w : World) (hL : Laid w) (hP : Pow w) : Calls Tryd.prog 9 #[] w fun e w' => e = .returned (.bool true) ∧ Below w.heap.size w w' := by
  go_enter Tryd.func9, Tryd.ntmps9
  go_wp2_with fail
  go_at_call 39
  refine (encode_any ⟨#[97]⟩ ⟨#[53, 32, 42, 32, 32, 42, 32, 42, 32, 42]⟩ 1 10 3 false _ hL hP (by decide) (by decide) (by omega) (by omega) (by omega)).mono ?_
  rintro x w1 ⟨⟨T, rfl, hT⟩, hb⟩
  rw [pres_exK] at hT
  have hT2 : (T.toList == [97, 32, 49, 32, 49, 48, 32, 51, 32, 48, 32, 53, 32, 42, 32, 42, 32, 42, 32, 42]) = true := by
    rw [Lib.toList_data, hT]
    show (encL [97] exK 1 10 3 false == _) = true
    rw [enc_known]; rfl
  clear hT
  go_wp2
  go_ret
  exact ⟨rfl, hb⟩
end Go.Proofs.YtdpaiaeaamokeaaDoor.Job

namespace Go.Proofs.YtdpaiaeaamokeaaDoor.Job
open Go.RowKit Go Go.Proofs.YtdpaiaeaamokeaaDoor.Cron

theorem within17 (a n : Int) (w : World) (h1 : 0 < n) (h2 : n ≤ 4611686018427387904) :
    Calls Tryd.prog 10 #[.int .i64 a, .int .i64 n] w fun e w' => e = .returned (.int .i64 (a % n)) ∧ w = w' := by
  obtain ⟨t1, t2, t3, t4⟩ := tmod_within a n h1
  have hz : (n == 0) = false := by simp; omega
  by_cases c : a.tmod n < 0
  · have H := Lib.hid (t1 c)
    clear t1 t2
    go_enter Tryd.func10, Tryd.ntmps10
    go_wp2
    go_ret
    exact ⟨ret_int H.out, rfl⟩
  · have H := Lib.hid (t2 c)
    clear t1 t2
    go_enter Tryd.func10, Tryd.ntmps10
    go_wp2
    go_ret
    exact ⟨ret_int H.out, rfl⟩
theorem within17n (a n : Int) (w : World) (h1 : 0 < n) (h2 : n ≤ 4611686018427387904) :
    Calls Tryd.prog 10 #[.int .i64 a, .int .i64 n] w fun e w' => (∃ q : Nat, e = .returned (.int .i64 q) ∧ (q : Int) < n ∧ Hid (a % n = q)) ∧ w = w' :=
  (within17 a n w h1 h2).mono fun _ _ ⟨he, hw⟩ => ⟨⟨(a % n).toNat, by rw [he, Int.toNat_of_nonneg (Int.emod_nonneg _ (by omega))], by have := Int.emod_lt_of_pos a h1; omega, by show _ = _; rw [Int.toNat_of_nonneg (Int.emod_nonneg _ (by omega))]⟩, hw⟩

def signs : ByteArray := ⟨#[97, 98, 99, 100, 101, 102, 103, 104, 105, 106, 107, 108, 109, 110, 111, 112, 113, 114, 115, 116, 117, 118, 119, 120, 121, 122, 48, 49, 50, 51, 52, 53, 54, 55, 56, 57, 45]⟩
def bads : ByteArray := ⟨#[65, 95, 47, 32, 46, 0, 255]⟩
/-- A sign of names, at whatever place but the first. -/
def sgn (c : UInt8) : Bool := nch 1 c
theorem signs_at : ∀ q (h : q < signs.size), sgn signs[q] = true := by decide
theorem bads_at : ∀ q (h : q < bads.size), sgn bads[q] = false ∧ bads[q] ≠ 45 := by decide
theorem sgn_first (c : UInt8) : nch 0 c = (sgn c && decide (c ≠ 45)) := by
  rw [Bool.eq_iff_iff, Bool.and_eq_true, sgn, nch_iff, nch_iff]
  have : c ≠ 45 ↔ c.toNat ≠ 45 := ⟨fun h k => h (UInt8.toNat.inj (by simpa using k)), fun h k => h (by rw [k]; rfl)⟩
  simp only [decide_eq_true_eq, this]
  omega
theorem nch_later (i : Nat) (h : i ≠ 0) (c : UInt8) : nch i c = sgn c := by
  rw [Bool.eq_iff_iff, sgn, nch_iff, nch_iff]; omega
def AllSgn (T : ByteArray) : Prop := ∀ c ∈ T.data.toList, sgn c = true
theorem names_is (T : ByteArray) (h : AllSgn T) (h1 : 1 ≤ T.size) : nameB T = (decide (T[0] ≠ 45) && decide (T.size ≤ 30)) := by
  have hm : ∀ i (hi : i < T.size), sgn T[i] = true := fun i hi => h _ (by rw [← list_get T i hi]; exact List.getElem_mem _)
  rw [Bool.eq_iff_iff, nameB_iff, Bool.and_eq_true, decide_eq_true_eq, decide_eq_true_eq]
  constructor
  · rintro ⟨a, _, c⟩
    have := a 0 (by omega) (by omega)
    rw [sgn_first, Bool.and_eq_true, decide_eq_true_eq] at this
    exact ⟨this.2, c⟩
  · rintro ⟨a, b⟩
    refine ⟨fun i hi _ => ?_, h1, b⟩
    by_cases e : i = 0
    · subst e; rw [sgn_first, hm 0 hi]; simp [a]
    · rw [nch_later i e]; exact hm i hi
theorem name_hole (T E : ByteArray) (k : Nat) (c : UInt8) (hk : k < T.size) (hE : E.data.toList = [c]) (h1 : sgn c = false) (h2 : c ≠ 45) : nameB (T.extract 0 k ++ E ++ T.extract (k + 1) T.size) = false := by
  have hl : (T.extract 0 k ++ E ++ T.extract (k + 1) T.size).data.toList = (T.extract 0 k).data.toList ++ (c :: (T.extract (k + 1) T.size).data.toList) := by simp [hE]
  have hz : (T.extract 0 k).data.toList.length = k := by rw [Array.length_toList]; show (T.extract 0 k).size = k; simp; omega
  have hs : k < (T.extract 0 k ++ E ++ T.extract (k + 1) T.size).size := by
    have := congrArg List.length hl
    rw [Array.length_toList, List.length_append, hz] at this
    show k < (T.extract 0 k ++ E ++ T.extract (k + 1) T.size).data.size
    rw [this]; first | (simp; done) | (simp; omega)
  refine nameB_bad _ k hs ?_
  have hg : (T.extract 0 k ++ E ++ T.extract (k + 1) T.size)[k] = c := by
    have h3 : (T.extract 0 k ++ E ++ T.extract (k + 1) T.size).data.toList[k]? = some c := by
      rw [hl, List.getElem?_append_right (by omega), hz, Nat.sub_self]; rfl
    obtain ⟨_, h4⟩ := List.getElem?_eq_some_iff.1 h3
    exact h4
  rw [hg]
  by_cases e : k = 0
  · subst e; rw [sgn_first, h1]; rfl
  · rw [nch_later k e, h1]
theorem name_empty : nameB ⟨#[]⟩ = false := by
  rw [Bool.eq_false_iff, Ne, nameB_iff]
  intro h
  have := h.2.1
  exact absurd this (by decide)

theorem bel_k {w W : World} (hb : Below w.heap.size w W) : Below w.heap.size w W := hb

end Go.Proofs.YtdpaiaeaamokeaaDoor.Job

namespace Go.Proofs.YtdpaiaeaamokeaaDoor.Job
open Go.RowKit Go Go.Proofs.YtdpaiaeaamokeaaDoor.Cron Go.Proofs.YtdpaiaeaamokeaaDoor.Cal

def runV (nm : ByteArray) (a b c : Int) : Value := .agg #[.string nm, .int .i64 a, .int .i64 b, .int .i64 c]
def runL (nm : List UInt8) (a b c : Int) : List UInt8 := nm ++ [32] ++ minL [a, b, c]
theorem min3 {X : World} {b : Nat} {p dl kp : Int} (hc : ∀ j, X.cell? ⟨b, j, none⟩ = (#[.int .i64 p, .int .i64 dl, .int .i64 kp] : Array Value)[j]?) (hb : b < X.heap.size)
    (hr : (-9223372036854775808 ≤ p ∧ p ≤ 9223372036854775807) ∧ (-9223372036854775808 ≤ dl ∧ dl ≤ 9223372036854775807) ∧ (-9223372036854775808 ≤ kp ∧ kp ≤ 9223372036854775807)) (hP : Pow X) :
    Calls Tryd.prog 13 #[.slice (some ⟨b, 0, none⟩) 3 3] X fun e w' => (∃ S : ByteArray, e = .returned (.string S) ∧ Hid (S.data.toList = minL [p, dl, kp]) ∧ S.size ≤ 100) ∧ Below X.heap.size X w' := by
  have h : SlOk X (some ⟨b, 0, none⟩) [p, dl, kp] := by
    intro i hi
    refine ⟨b, 0, rfl, hb, ?_, ?_, ?_⟩
    · rw [Nat.zero_add, hc i]
      match i, hi with
      | 0, _ => rfl
      | 1, _ => rfl
      | 2, _ => rfl
    · match i, hi with
      | 0, _ => exact hr.1.1
      | 1, _ => exact hr.2.1.1
      | 2, _ => exact hr.2.2.1
    · match i, hi with
      | 0, _ => exact hr.1.2
      | 1, _ => exact hr.2.1.2
      | 2, _ => exact hr.2.2.2
  refine (minutes_any (some ⟨b, 0, none⟩) 3 [p, dl, kp] X h (by simp) hP).mono fun e w' ⟨he, hw⟩ => ⟨⟨_, he, rfl, ?_⟩, hw⟩
  have := minL_len [p, dl, kp] (by simp [hr.1, hr.2.1, hr.2.2])
  rw [size_of _ (minL [p, dl, kp]) rfl]
  simp at this
  omega

set_option maxHeartbeats 2000000 in
set_option maxRecDepth 100000 in
theorem encrun_any (nm : ByteArray) (a b c : Int) (w : World) (hP : Pow w) (hn : nm.size ≤ 140737488351232)
    (hr1 : -9223372036854775808 ≤ a ∧ a ≤ 9223372036854775807) (hr2 : -9223372036854775808 ≤ b ∧ b ≤ 9223372036854775807) (hr3 : -9223372036854775808 ≤ c ∧ c ≤ 9223372036854775807) :
    Calls Tryd.prog 42 #[runV nm a b c] w fun x w' => (∃ S : ByteArray, x = .returned (.string S) ∧ S.data.toList = runL nm.data.toList a b c) ∧ Below w.heap.size w w' := by
  unfold runV
  go_enter Tryd.func42, Tryd.ntmps42
  go_wp2
  have hc := alloc_new w #[.string nm, .int .i64 a, .int .i64 b, .int .i64 c] 66
  have hgl : w.heap.size < (w.alloc (.cells #[.string nm, .int .i64 a, .int .i64 b, .int .i64 c] 66)).heap.size := by simp
  have hb0 := Lib.hid (bmore (Below.refl w.heap.size w) (.cells #[.string nm, .int .i64 a, .int .i64 b, .int .i64 c] 66))
  generalize w.alloc (.cells #[.string nm, .int .i64 a, .int .i64 b, .int .i64 c] 66) = w2 at *
  have hbs : Below w2.heap.size w2 w2 := Below.refl _ _
  have hP2 := hP.below hb0.out
  have hq0 : ¬ 9223372036854775807 < nm.size + 1 := by omega
  go_region_held3 (fun w' => (∀ o, w'.cell? ⟨w.heap.size, o, none⟩ = (#[.string nm, .int .i64 a, .int .i64 b, .int .i64 c] : Array Value)[o]?) ∧ Below w2.heap.size w2 w')
    (first
      | with_reducible exact txt_keep hc hgl hbs.drew
      | (with_reducible refine txt_alloc hc hgl ?_
         first | assumption | exact hbs | exact hbs.drew | (go_split_ands; assumption))
      | (with_reducible refine txt_allocD hc hgl ?_
         first | assumption | exact hbs | exact hbs.drew | (go_split_ands; assumption))
      | (with_reducible refine txt_keep hc hgl (bthen ?_ hb)
         first | assumption | exact hbs.drew | (go_split_ands; assumption))
      | go_keep)
    ((go_at_call 13; refine (min3 (by first | exact alloc_new _ _ _ | exact alloc_newD _ _ _) (by simp) ⟨hr1, hr2, hr3⟩ (hP2.below (by first | assumption | (go_split_ands; assumption)))).mono ?_
      rintro x w3 ⟨⟨M, rfl, HM, hMz⟩, hb⟩
      have hq1 : ¬ 9223372036854775807 < nm.size + 1 + M.size := by omega))
  all_goals (
    go_wp2_with fail
    go_ret
    refine ⟨⟨_, rfl, by have h1 := HM.out; simp [runL, h1]⟩, bthen hb0.out ?_⟩
    go_split_ands
    assumption)
end Go.Proofs.YtdpaiaeaamokeaaDoor.Job

namespace Go.Proofs.YtdpaiaeaamokeaaDoor.Job
open Go.RowKit Go Go.Proofs.YtdpaiaeaamokeaaDoor.Cron Go.Proofs.YtdpaiaeaamokeaaDoor.Cal

/-- A run's text says these. -/
def RunIs (N : ByteArray) (R : List UInt8) (a b c : Int) : Prop := told R = some [a, b, c] ∧ nameB N = true ∧ (-1035593280 ≤ a ∧ a ≤ 4223371679) ∧ (0 ≤ b ∧ b ≤ 3) ∧ 0 ≤ c ∧ c ≤ 1073741823
def cutN (s : ByteArray) : ByteArray := ⟨(cut1 32 s.data.toList).1.toArray⟩
def cutR (s : ByteArray) : List UInt8 := (cut1 32 s.data.toList).2.1
def PrunPost (s : ByteArray) (x : Ending) : Prop :=
  (∃ a b c, RunIs (cutN s) (cutR s) a b c ∧ x = .returned (.tuple #[runV (cutN s) a b c, .int .i64 0])) ∨ ((¬ ∃ a b c, RunIs (cutN s) (cutR s) a b c) ∧ x = .returned (.tuple #[runV ⟨#[]⟩ 0 0 0, .int .i64 11]))
theorem cut32 (s : ByteArray) (w : World) (hm : MaxOk w) (hs : s.size < 4294967281) :
    Calls Tryd.prog 73 #[.string s, .string ⟨#[32]⟩] w fun e w' => e = .returned (.tuple #[.string (cutN s), .string ⟨(cutR s).toArray⟩, .bool (cut1 32 s.data.toList).2.2]) ∧ Below w.heap.size w w' := by
  obtain ⟨m, hm⟩ := hm
  refine (Tryd.strings_Cut s ⟨#[32]⟩ m w hs hm).mono ?_
  rintro e w' ⟨he, k, rfl⟩
  have ec : Lib.cut s.data.toList (⟨#[32]⟩ : ByteArray).data.toList = cut1 32 s.data.toList := cut_one 32 s.data.toList
  rw [ec] at he
  exact ⟨he, below_drewN (Below.refl _ _) _⟩
theorem set4_cells {w3 : World} {q : Nat} {z0 z1 z2 z3 u0 u1 u2 u3 : Value} (hN : ∀ o, w3.cell? ⟨q, o, none⟩ = (#[z0, z1, z2, z3] : Array Value)[o]?) :
    ∀ w4, w4 = (World.setCell (World.setCell (World.setCell (World.setCell w3 ⟨q, 0, none⟩ u0) ⟨q, 1, none⟩ u1) ⟨q, 2, none⟩ u2) ⟨q, 3, none⟩ u3) →
    w4.cell? ⟨q, 0, none⟩ = some u0 ∧ w4.cell? ⟨q, 1, none⟩ = some u1 ∧ w4.cell? ⟨q, 2, none⟩ = some u2 ∧ w4.cell? ⟨q, 3, none⟩ = some u3 := by
  rintro w4 rfl
  have hss := isSome_setCell
  have hcs := cell_same
  have hne : ∀ (W : World) (i j : Nat) (v : Value), i ≠ j → (W.setCell ⟨q, i, none⟩ v).cell? ⟨q, j, none⟩ = W.cell? ⟨q, j, none⟩ := fun W i j v h => by
    apply World.cell?_setCell_other
    simp [h]
  refine ⟨?_, ?_, ?_, ?_⟩
  all_goals
    repeat rw [hne _ _ _ _ (by decide)]
    rw [hcs]
    simp only [hss, hN]
    rfl
theorem set4_alloc {w3 : World} {q : Nat} {z0 z1 z2 z3 u0 u1 u2 u3 : Value} (hN : ∀ o, w3.cell? ⟨q, o, none⟩ = (#[z0, z1, z2, z3] : Array Value)[o]?) (hq : q < w3.heap.size) (x : Obj) :
    ∀ w4, w4 = (World.setCell (World.setCell (World.setCell (World.setCell w3 ⟨q, 0, none⟩ u0) ⟨q, 1, none⟩ u1) ⟨q, 2, none⟩ u2) ⟨q, 3, none⟩ u3).alloc x →
    w4.cell? ⟨q, 0, none⟩ = some u0 ∧ w4.cell? ⟨q, 1, none⟩ = some u1 ∧ w4.cell? ⟨q, 2, none⟩ = some u2 ∧ w4.cell? ⟨q, 3, none⟩ = some u3 := by
  rintro w4 rfl
  obtain ⟨a, b, c, d⟩ := set4_cells (u0 := u0) (u1 := u1) (u2 := u2) (u3 := u3) hN _ rfl
  have hs : q < (World.setCell (World.setCell (World.setCell (World.setCell w3 ⟨q, 0, none⟩ u0) ⟨q, 1, none⟩ u1) ⟨q, 2, none⟩ u2) ⟨q, 3, none⟩ u3).heap.size := by
    simp [World.setCell]; exact hq
  exact ⟨(alloc_old _ x hs 0).trans a, (alloc_old _ x hs 1).trans b, (alloc_old _ x hs 2).trans c, (alloc_old _ x hs 3).trans d⟩
theorem zset4 {W w3 : World} {z0 z1 z2 z3 : Value} (h : Below W.heap.size W w3) :
    Below W.heap.size W (World.setCell (World.setCell (World.setCell (World.setCell w3 ⟨W.heap.size, 0, none⟩ z0) ⟨W.heap.size, 1, none⟩ z1) ⟨W.heap.size, 2, none⟩ z2) ⟨W.heap.size, 3, none⟩ z3) :=
  bset (bset (bset (bset h (Nat.le_refl _) _) (Nat.le_refl _) _) (Nat.le_refl _) _) (Nat.le_refl _) _
theorem run_ret (b : Nat) (tmps : Array Value) (wf : World) (u0 u1 u2 u3 : Value) (n : Int) {post : Ending → World → Prop} (h2 : tmps[2]?.getD undef = .pointer (some ⟨b, 0, none⟩)) (h3 : tmps[3]?.getD undef = .int .i64 n)
    (S4 : wf.cell? ⟨b, 0, none⟩ = some u0 ∧ wf.cell? ⟨b, 1, none⟩ = some u1 ∧ wf.cell? ⟨b, 2, none⟩ = some u2 ∧ wf.cell? ⟨b, 3, none⟩ = some u3)
    (hp : post (.returned (.tuple #[.agg #[u0, u1, u2, u3], .int .i64 n])) wf) : bodyPost Tryd.prog Tryd.f34 post .ret ⟨tmps, []⟩ wf := by
  obtain ⟨s0, s1, s2, s3⟩ := S4
  exact bodyPost_ret (v := .tuple #[.agg #[u0, u1, u2, u3], .int .i64 n]) (by simp [results, Tryd.results34, go_sem, h2, h3, s0, s1, s2, s3]) rfl hp

set_option maxHeartbeats 4000000 in
set_option maxRecDepth 100000 in
theorem parserun_any (s : ByteArray) (w : World) (hm : MaxOk w) (hs : s.size ≤ 1000000) :
    Calls Tryd.prog 34 #[.string s] w fun x w' => PrunPost s x ∧ Below w.heap.size w w' := by
  have hcl := cut1_le 32 s.data.toList
  have hsl : s.data.toList.length = s.size := by rw [Array.length_toList]; rfl
  obtain ⟨N, hN⟩ : ∃ N, cutN s = N := ⟨_, rfl⟩
  obtain ⟨R, hR⟩ : ∃ R : ByteArray, (⟨(cutR s).toArray⟩ : ByteArray) = R := ⟨_, rfl⟩
  have hRl : R.data.toList = cutR s := by rw [← hR]
  have hNz : N.size ≤ 1000000 := by rw [← hN]; show (cut1 32 s.data.toList).1.toArray.size ≤ _; simp; omega
  have hRz : R.size ≤ 1000000 := by rw [← hR]; show (cut1 32 s.data.toList).2.1.toArray.size ≤ _; simp; omega
  obtain ⟨cb, hcb⟩ : ∃ cb, (cut1 32 s.data.toList).2.2 = cb := ⟨_, rfl⟩
  have HN := Lib.hid hN
  have HR := Lib.hid hR
  have HRL := Lib.hid hRl
  have HCB := Lib.hid hcb
  clear hcl hN hR hRl hcb
  have hBAD : Hid ((¬ ∃ a b c, RunIs N R.data.toList a b c) → PrunPost s (.returned (.tuple #[runV ⟨#[]⟩ 0 0 0, .int .i64 11]))) := by
    intro h
    refine .inr ⟨?_, rfl⟩
    rw [HN.out, ← HRL.out]; exact h
  have hGOOD : Hid (∀ a b c, RunIs N R.data.toList a b c → PrunPost s (.returned (.tuple #[runV N a b c, .int .i64 0]))) := by
    intro a b c h
    refine .inl ⟨a, b, c, ?_, ?_⟩
    · rw [HN.out, ← HRL.out]; exact h
    · rw [HN.out]
  go_enter Tryd.func34, Tryd.ntmps34
  go_wp2_with fail
  go_at_call 73
  refine (cut32 s _ (hm.below (bmore (Below.refl _ _) _)) (by omega)).mono ?_
  rw [HN.out, HR.out, HCB.out]
  rintro x w1 ⟨rfl, hb1⟩
  have hB1 := keepN hb1
  have hF1 := keepF hb1
  have hz1 := size1 hb1
  have hbel1 : Below w.heap.size w w1 := bthen (bmore (Below.refl _ _) _) hb1
  clear hb1
  go_wp2_with fail
  go_at_call 11
  refine (told_any R _ (hm.below hbel1) hRz).mono ?_
  obtain ⟨o, ho⟩ : ∃ o, told R.data.toList = o := ⟨_, rfl⟩
  rw [ho]
  have HO := Lib.hid ho
  clear ho
  rintro x w2 ⟨hx, hb2⟩
  have hB2 := fun o => (keep0 hb2 hz1 o).trans (hB1 o)
  have hF2 := fun o => (keepF0 hb2 hz1 o).trans (hF1 o)
  have hz2 := Nat.lt_of_lt_of_le hz1 hb2.size
  have hbel2 := bthen hbel1 hb2
  clear hb2 hbel1 hB1 hF1 hz1
  have hsS := isSome_setCell
  have hsC := cell_same
  have hsT := setCell_twice
  cases o with
  | none =>
    have HP := Lib.hid (hBAD.out (by rintro ⟨a, b, c, h, -⟩; rw [HO.out] at h; cases h))
    obtain rfl : x = _ := hx
    go_wp2
    have S4 := set4_cells hB2 (u0 := .string ⟨#[]⟩) (u1 := .int .i64 0) (u2 := .int .i64 0) (u3 := .int .i64 0) _ rfl
    exact run_ret w.heap.size _ _ _ _ _ _ _ rfl rfl S4 ⟨HP.out, zset4 hbel2⟩
  | some ns =>
    obtain ⟨v, rfl, hown⟩ : ∃ v, x = .returned (.tuple #[v, .int .i64 0]) ∧ w2.ownsRow w1.heap.size 3 1 v ns.length (ns.map (Value.int .i64)) := hx
    by_cases h3 : ns.length = 3
    case neg =>
      have HP := Lib.hid (hBAD.out (by rintro ⟨a, b, c, h, -⟩; rw [HO.out] at h; have := Option.some.inj h; rw [this] at h3; exact h3 rfl))
      have h3i : ((ns.length : Int) == 3) = false := by simp; omega
      rcases hown.2 with ⟨rfl, hz⟩ | ⟨g, cap, cur, rfl, -⟩
      · clear hown
        go_wp2
        have S4 := set4_cells hB2 (u0 := .string ⟨#[]⟩) (u1 := .int .i64 0) (u2 := .int .i64 0) (u3 := .int .i64 0) _ rfl
        exact run_ret w.heap.size _ _ _ _ _ _ _ rfl rfl S4 ⟨HP.out, zset4 hbel2⟩
      · clear hown
        generalize ns.length = n at *
        go_wp2
        have S4 := set4_cells hB2 (u0 := .string ⟨#[]⟩) (u1 := .int .i64 0) (u2 := .int .i64 0) (u3 := .int .i64 0) _ rfl
        exact run_ret w.heap.size _ _ _ _ _ _ _ rfl rfl S4 ⟨HP.out, zset4 hbel2⟩
    case pos =>
    match ns, h3, hown, HO with
    | [a, b, c], _, hown, HO =>
      obtain ⟨g, cap, rfl, hgB, hgl⟩ := hown.form (by simp)
      have c0 : w2.cell? ⟨g, 0, none⟩ = some (.int .i64 a) := hown.cellAt 0 (by simp)
      have c1 : w2.cell? ⟨g, 1, none⟩ = some (.int .i64 b) := hown.cellAt 1 (by simp)
      have c2 : w2.cell? ⟨g, 2, none⟩ = some (.int .i64 c) := hown.cellAt 2 (by simp)
      clear hown
      simp only [List.length_cons, List.length_nil]
      obtain ⟨nb, hnb⟩ : ∃ nb, nameB N = nb := ⟨_, rfl⟩
      have HNB := Lib.hid hnb
      clear hnb
      go_wp2_with fail
      go_at_call 36
      refine (name_any N _ (by omega)).mono ?_
      rw [HNB.out]
      rintro x w3 ⟨rfl, hb3⟩
      have hB3 := fun o => (keep0 hb3 hz2 o).trans (hB2 o)
      have hF3 := fun o => (keepF0 hb3 hz2 o).trans (hF2 o)
      have d0 := (keep0 hb3 hgl 0).trans c0
      have d1 := (keep0 hb3 hgl 1).trans c1
      have d2 := (keep0 hb3 hgl 2).trans c2
      have hz3 := Nat.lt_of_lt_of_le hz2 hb3.size
      have hgl3 := Nat.lt_of_lt_of_le hgl hb3.size
      have hbel3 := bthen hbel2 hb3
      clear hb3 hbel2 hB2 hF2 hz2 c0 c1 c2 hgl
      cases nb with
      | false =>
        have HP := Lib.hid (hBAD.out (by rintro ⟨a, b, c, -, h, -⟩; rw [HNB.out] at h; cases h))
        go_wp2
        have S4 := set4_cells hB3 (u0 := .string ⟨#[]⟩) (u1 := .int .i64 0) (u2 := .int .i64 0) (u3 := .int .i64 0) _ rfl
        exact run_ret w.heap.size _ _ _ _ _ _ _ rfl rfl S4 ⟨HP.out, zset4 hbel3⟩
      | true =>
        have hbs : Below w3.heap.size w3 w3 := Below.refl _ _
        go_upto_region 5 with fail
        go_cut [9] (fun s9 wx => ∃ q, s9 = .pointer (some ⟨q, 0, none⟩) ∧ w3.heap.size ≤ q ∧ q < wx.heap.size ∧ Below w3.heap.size w3 wx ∧ ∀ o, wx.cell? ⟨q, o, none⟩ = (#[.string N, .int .i64 a, .int .i64 b, .int .i64 c] : Array Value)[o]?)
        case first =>
          go_region
          all_goals (
            go_wp2_with fail
            go_meet
            first
              | exact ⟨_, rfl, Nat.le_refl _, by simp, (bmore hbs _).drew, alloc_newD _ _ _⟩
              | exact ⟨_, rfl, Nat.le_refl _, by simp, bmore hbs _, alloc_new _ _ _⟩
              | trace_state)
        case rest =>
          obtain ⟨q, rfl, hq, hql, hbx, hcx⟩ := hcut
          have hB4 := fun o => (keep0 hbx hz3 o).trans (hB3 o)
          have hF4 := fun o => (keepF0 hbx hz3 o).trans (hF3 o)
          have hz4 := Nat.lt_of_lt_of_le hz3 hbx.size
          have hbel4 := bthen hbel3 hbx
          clear hbx hbel3 hB3 hF3 hz3 d0 d1 d2 hgl3 hbs
          by_cases hra : a < -1035593280 ∨ 4223371679 < a
          · have HP := Lib.hid (hBAD.out (by rintro ⟨a', b', c', h, -, h1, h2, h3⟩; rw [HO.out] at h; simp only [Option.some.injEq, List.cons.injEq] at h; omega))
            go_wp2_with fail
            go_at_call 23
            refine (of_out a _ hra).mono ?_
            rintro x w5 ⟨rfl, hb5⟩
            have hB5 := fun o => (keep0 hb5 hz4 o).trans (hB4 o)
            have hF5 := fun o => (keepF0 hb5 hz4 o).trans (hF4 o)
            have hz5 := Nat.lt_of_lt_of_le hz4 hb5.size
            have hbel5 := bthen hbel4 hb5
            clear hb5 hbel4 hB4 hF4 hz4 hcx
            go_wp2
            exact run_ret w.heap.size _ _ (.string ⟨#[]⟩) (.int .i64 0) (.int .i64 0) (.int .i64 0) _ rfl rfl (set4_alloc hB5 hz5 _ _ rfl) ⟨HP.out, bmore (zset4 hbel5) _⟩
          · go_wp2_with fail
            go_at_call 23
            refine (of_in a _ _ _ _ (by omega) (by omega) rfl rfl rfl).mono ?_
            rintro x w5 ⟨⟨y, m, d, rfl, hd⟩, hb5⟩
            have hB5 := fun o => (keep0 hb5 hz4 o).trans (hB4 o)
            have hF5 := fun o => (keepF0 hb5 hz4 o).trans (hF4 o)
            have hc5 := fun o => (keep0 hb5 hql o).trans (hcx o)
            have hz5 := Nat.lt_of_lt_of_le hz4 hb5.size
            have hql5 := Nat.lt_of_lt_of_le hql hb5.size
            have hbel5 := bthen hbel4 hb5
            clear hb5 hbel4 hB4 hF4 hz4 hcx hd
            by_cases k1 : b < 0
            · have HP := Lib.hid (hBAD.out (by rintro ⟨a', b', c', h, -, h1, h2, h3⟩; rw [HO.out] at h; simp only [Option.some.injEq, List.cons.injEq] at h; omega))
              go_wp2
              exact run_ret w.heap.size _ _ (.string ⟨#[]⟩) (.int .i64 0) (.int .i64 0) (.int .i64 0) _ rfl rfl (set4_alloc hB5 hz5 _ _ rfl) ⟨HP.out, bmore (zset4 hbel5) _⟩
            · by_cases k2 : 3 < b
              · have HP := Lib.hid (hBAD.out (by rintro ⟨a', b', c', h, -, h1, h2, h3⟩; rw [HO.out] at h; simp only [Option.some.injEq, List.cons.injEq] at h; omega))
                go_wp2
                exact run_ret w.heap.size _ _ (.string ⟨#[]⟩) (.int .i64 0) (.int .i64 0) (.int .i64 0) _ rfl rfl (set4_alloc hB5 hz5 _ _ rfl) ⟨HP.out, bmore (zset4 hbel5) _⟩
              · by_cases k3 : c < 0
                · have HP := Lib.hid (hBAD.out (by rintro ⟨a', b', c', h, -, h1, h2, h3⟩; rw [HO.out] at h; simp only [Option.some.injEq, List.cons.injEq] at h; omega))
                  go_wp2
                  exact run_ret w.heap.size _ _ (.string ⟨#[]⟩) (.int .i64 0) (.int .i64 0) (.int .i64 0) _ rfl rfl (set4_alloc hB5 hz5 _ _ rfl) ⟨HP.out, bmore (zset4 hbel5) _⟩
                · by_cases k4 : 1073741823 < c
                  · have HP := Lib.hid (hBAD.out (by rintro ⟨a', b', c', h, -, h1, h2, h3⟩; rw [HO.out] at h; simp only [Option.some.injEq, List.cons.injEq] at h; omega))
                    go_wp2
                    exact run_ret w.heap.size _ _ (.string ⟨#[]⟩) (.int .i64 0) (.int .i64 0) (.int .i64 0) _ rfl rfl (set4_alloc hB5 hz5 _ _ rfl) ⟨HP.out, bmore (zset4 hbel5) _⟩
                  · have HP := Lib.hid (hGOOD.out a b c ⟨HO.out, HNB.out, by omega, by omega, by omega⟩)
                    go_wp2
                    exact run_ret w.heap.size _ _ (.string N) (.int .i64 a) (.int .i64 b) (.int .i64 c) _ rfl rfl (set4_alloc hB5 hz5 _ _ rfl) ⟨HP.out, bmore (zset4 hbel5) _⟩
end Go.Proofs.YtdpaiaeaamokeaaDoor.Job

namespace Go.Proofs.YtdpaiaeaamokeaaDoor.Job
open Go.RowKit Go Go.Proofs.YtdpaiaeaamokeaaDoor.Cron Go.Proofs.YtdpaiaeaamokeaaDoor.Cal

theorem cut1_spec2 : ∀ l : List UInt8, ((cut1 32 l).2.2 = true → l = (cut1 32 l).1 ++ 32 :: (cut1 32 l).2.1) ∧ (∀ c ∈ (cut1 32 l).1, c ≠ 32) ∧ ((cut1 32 l).2.2 = false → (cut1 32 l).2.1 = [])
  | [] => by simp [cut1]
  | c :: l => by
    rw [cut1]
    by_cases h : c = 32
    · subst h; simp
    · rw [if_neg h]
      obtain ⟨a, b, d⟩ := cut1_spec2 l
      refine ⟨fun k => ?_, ?_, fun k => d k⟩
      · have := a k; simp; exact this
      · intro x hx
        simp at hx
        rcases hx with rfl | hx
        · exact h
        · exact b x hx
/-! ### What was written is read; what is read was so written -/
theorem itoa_free (n : Int) : ∀ c ∈ Lib.itoa n, c ≠ 32 := by
  have key : ∀ u : Nat, ∀ c ∈ Lib.decDigits u, c ≠ 32 := by
    intro u c hc e
    have := List.all_eq_true.1 (dec_dig u) c hc
    rw [e] at this
    exact absurd this (by decide)
  intro c hc
  unfold Lib.itoa at hc
  split at hc
  · rcases List.mem_cons.1 hc with rfl | hc
    · decide
    · exact key _ c hc
  · exact key _ c hc
theorem told_minL (a b c : Int) (ha : -1000000000000000000 < a ∧ a < 1000000000000000000) (hb : -1000000000000000000 < b ∧ b < 1000000000000000000) (hc : -1000000000000000000 < c ∧ c < 1000000000000000000) : told (minL [a, b, c]) = some [a, b, c] := by
  have hp : pieces 32 (minL [a, b, c]) = [Lib.itoa a, Lib.itoa b, Lib.itoa c] := by
    unfold minL
    rw [pieces_join 32 _ (by simp) (by
      intro x hx
      simp at hx
      rcases hx with rfl | rfl | rfl
      · exact itoa_free a
      · exact itoa_free b
      · exact itoa_free c)]
    rfl
  have hne : minL [a, b, c] ≠ [] := by
    intro e
    rw [e] at hp
    simp [pieces] at hp
  rw [told, if_neg hne, hp]
  exact jall_some _ _ (by simp [jnum_itoa a ha.1 ha.2, jnum_itoa b hb.1 hb.2, jnum_itoa c hc.1 hc.2])
theorem pieces_ne (sep : UInt8) : ∀ l : List UInt8, pieces sep l ≠ []
  | [] => by simp [pieces]
  | d :: r => by
    rw [pieces]
    split
    · simp
    · split <;> simp
theorem join_pieces (sep : UInt8) : ∀ l : List UInt8, Lib.join (pieces sep l) [sep] = l
  | [] => by simp [pieces, Lib.join]
  | c :: l => by
    have ih := join_pieces sep l
    rw [pieces]
    split
    · rename_i h
      subst h
      match hp : pieces c l with
      | [] => exact absurd hp (pieces_ne c l)
      | x :: r => rw [join_cons2, ← hp, ih]; rfl
    · match hp : pieces sep l with
      | [] => exact absurd hp (pieces_ne sep l)
      | x :: r =>
        rw [hp] at ih
        dsimp only
        cases r with
        | nil => rw [join_single] at ih ⊢; rw [ih]
        | cons y t => rw [join_cons2] at ih ⊢; rw [List.cons_append, ih]
theorem jall_itoa : ∀ (ps : List (List UInt8)) (ns : List Int), jall ps = some ns → ns.map Lib.itoa = ps ∧ ∀ n ∈ ns, -1000000000000000000 < n ∧ n < 1000000000000000000
  | [], ns, h => by simp [jall] at h; subst h; simp
  | p :: ps, ns, h => by
    rw [jall] at h
    cases hp : jnum p with
    | none => rw [hp] at h; cases h
    | some n =>
      cases hps : jall ps with
      | none => rw [hp, hps] at h; cases h
      | some ms =>
        rw [hp, hps] at h
        obtain rfl := Option.some.inj h
        obtain ⟨a, b⟩ := jall_itoa ps ms hps
        obtain ⟨c, d⟩ := itoa_jnum p n hp
        refine ⟨by rw [List.map_cons, a, c], fun m hm => ?_⟩
        rcases List.mem_cons.1 hm with rfl | hm
        · exact d
        · exact b m hm
theorem told_back (l : List UInt8) (a b c : Int) (h : told l = some [a, b, c]) : minL [a, b, c] = l ∧ (-1000000000000000000 < a ∧ a < 1000000000000000000) ∧ (-1000000000000000000 < b ∧ b < 1000000000000000000) ∧ -1000000000000000000 < c ∧ c < 1000000000000000000 := by
  unfold told at h
  split at h
  · cases h
  · obtain ⟨e, f⟩ := jall_itoa _ _ h
    refine ⟨?_, f a (by simp), f b (by simp), f c (by simp)⟩
    unfold minL
    rw [e, join_pieces]
/-- A text that is a run's is the run's text. -/
theorem run_back (s : ByteArray) (a b c : Int) (h : told (cutR s) = some [a, b, c]) : runL (cutN s).data.toList a b c = s.data.toList := by
  have h1 := (told_back _ a b c h).1
  have h2 := (cut1_spec2 s.data.toList)
  unfold runL
  rw [h1]
  have hc : (cut1 32 s.data.toList).2.2 = true := by
    cases hq : (cut1 32 s.data.toList).2.2 with
    | true => rfl
    | false =>
      exfalso
      have h3 := h2.2.2 hq
      have : cutR s = [] := h3
      rw [this] at h
      simp [told] at h
  have := h2.1 hc
  show (cut1 32 s.data.toList).1 ++ [32] ++ (cut1 32 s.data.toList).2.1 = _
  rw [List.append_assoc]
  exact this.symm
theorem name_size (N : ByteArray) (h : nameB N = true) : N.size ≤ 30 := ((nameB_iff N).1 h).2.2
theorem name_free (N : ByteArray) (h : nameB N = true) : ∀ c ∈ N.data.toList, c ≠ 32 := by
  intro c hc e
  subst e
  obtain ⟨i, hi, he⟩ := List.getElem_of_mem hc
  have hi2 : i < N.size := by rw [Array.length_toList] at hi; exact hi
  have := ((nameB_iff N).1 h).1 i hi2 hi2
  rw [show N[i] = 32 from he, nch_iff] at this
  simp at this
theorem prun_good (N S : ByteArray) (a b c : Int) (x : Ending) (hS : S.data.toList = runL N.data.toList a b c) (hN : nameB N = true) (ha : -1035593280 ≤ a ∧ a ≤ 4223371679) (hb : 0 ≤ b ∧ b ≤ 3) (hc : 0 ≤ c ∧ c ≤ 1073741823) (h : PrunPost S x) :
    x = .returned (.tuple #[runV N a b c, .int .i64 0]) := by
  have hcut : cut1 32 S.data.toList = (N.data.toList, minL [a, b, c], true) := by
    rw [hS]; unfold runL
    rw [List.append_assoc]
    exact cut1_app 32 _ _ (name_free N hN)
  have e1 : cutN S = N := by
    unfold cutN; rw [hcut]
  have e2 : cutR S = minL [a, b, c] := by unfold cutR; rw [hcut]
  have ht := told_minL a b c (by omega) (by omega) (by omega)
  rcases h with ⟨a', b', c', ⟨h1, -⟩, h2⟩ | ⟨h1, -⟩
  · rw [e2, ht] at h1
    simp only [Option.some.injEq, List.cons.injEq] at h1
    obtain ⟨rfl, rfl, rfl, -⟩ := h1
    rw [e1] at h2
    exact h2
  · exact absurd ⟨a, b, c, by rw [e2]; exact ht, by rw [e1]; exact hN, ha, hb, hc⟩ h1
theorem runL_len (N : ByteArray) (a b c : Int) (hN : N.size ≤ 30) (ha : -1035593280 ≤ a ∧ a ≤ 4223371679) (hb : 0 ≤ b ∧ b ≤ 3) (hc : 0 ≤ c ∧ c ≤ 1073741823) : (runL N.data.toList a b c).length ≤ 200 := by
  have h1 := minL_len [a, b, c] (by simp; omega)
  have h2 : N.data.toList.length = N.size := by rw [Array.length_toList]; rfl
  simp at h1
  simp [runL]
  omega

end Go.Proofs.YtdpaiaeaamokeaaDoor.Job

