/- CronDays, walked. -/
import Derived.Test.YtggcnbdpobbkaaaDoorCronKnown
import Derived.OpenShut
import Derived.Laws.IdiomStrings
namespace Go.Proofs.YtggcnbdpobbkaaaDoor.Cron
open Go.RowKit Go Go.Proofs.YtggcnbdpobbkaaaDoor.Cal

theorem bel_keep {w W : World} (hb : Below w.heap.size w W) : Below w.heap.size w W := hb
theorem bel_alloc {w W : World} {x : Obj} (hb : Below w.heap.size w W) : Below w.heap.size w (W.alloc x) := bmore hb x
theorem bel_allocD {w W : World} {x : Obj} (hb : Below w.heap.size w W) : Below w.heap.size w ((W.alloc x).drew) := (bmore hb x).drew
theorem bel_alloc2 {w W : World} {x y : Obj} (hb : Below w.heap.size w W) : Below w.heap.size w ((W.alloc x).alloc y) := bmore (bmore hb x) y
theorem bel_alloc2D {w W : World} {x y : Obj} (hb : Below w.heap.size w W) : Below w.heap.size w (((W.alloc x).alloc y).drew) := (bmore (bmore hb x) y).drew

theorem days_size (T : ByteArray) (d k : Nat) (sd sw : Bool) (h : T.data.toList = daysTxt d k sd sw) : T.size ≤ 100 := by
  have h4 := congrArg List.length h
  rw [Array.length_toList] at h4
  show T.data.size ≤ 100
  rw [h4]
  unfold daysTxt dayTxt wkTxt
  cases sd <;> cases sw <;> simp
theorem days_pres (T : ByteArray) (d k : Nat) (sd sw : Bool) (h : T.data.toList = daysTxt d k sd sw) (h1 : 1 ≤ d) (h2 : d ≤ 31) (h3 : k < 7) : pres T = (exD d k sd sw, 0) := by
  rw [pres_some T _ (days_size T d k sd sw h) (by rw [h]; exact days_pex d (by omega) h1 k h3 sd sw)]
theorem days_txt (A B : ByteArray) (d k : Nat) (sd sw : Bool) (hA : A.data.toList = dayTxt d sd) (hB : B.data.toList = wkTxt k sw) : ((⟨#[42, 32, 42, 32]⟩ : ByteArray) ++ A ++ ⟨#[32, 42, 32]⟩ ++ B).data.toList = daysTxt d k sd sw := by
  simp [daysTxt, hA, hB]
/-- string([]byte{x, y}), string([]byte{x}). -/
theorem conv2 (w : World) (x y : Int) (b cap : Nat) (h0 : w.cell? ⟨b, 0, none⟩ = some (.int .u8 x)) (h1 : w.cell? ⟨b, 1, none⟩ = some (.int .u8 y)) :
    (convert 55 9 (.slice (some ⟨b, 0, none⟩) 2 cap)).run Tryd.prog w = .ok (.string ⟨#[UInt8.ofNat x.toNat, UInt8.ofNat y.toNat]⟩) w := by
  rw [run_convert_bytes_string w _ _ _ _ _ _ Tryd.underlying55 Tryd.underlying5 Tryd.underlying9]
  rw [run_bytesToString w ⟨b, 0, none⟩ 2 cap [x, y] (run_loadCells_list w _ [.int .u8 x, .int .u8 y] (fun j v hj => by
    match j, hj with
    | 0, hj => cases hj; exact h0
    | 1, hj => cases hj; exact h1
    | _ + 2, hj => simp at hj))]
  rfl
theorem conv1 (w : World) (x : Int) (b cap : Nat) (h0 : w.cell? ⟨b, 0, none⟩ = some (.int .u8 x)) :
    (convert 55 9 (.slice (some ⟨b, 0, none⟩) 1 cap)).run Tryd.prog w = .ok (.string ⟨#[UInt8.ofNat x.toNat]⟩) w := by
  rw [run_convert_bytes_string w _ _ _ _ _ _ Tryd.underlying55 Tryd.underlying5 Tryd.underlying9]
  rw [run_bytesToString w ⟨b, 0, none⟩ 1 cap [x] (run_loadCells_list w _ [.int .u8 x] (fun j v hj => by
    match j, hj with
    | 0, hj => cases hj; exact h0
    | _ + 1, hj => simp at hj))]
  rfl
theorem dig_u8 (n : Nat) (h : n ≤ 9) : IntKind.u8.wrap (IntKind.i64.wrap (48 + (n : Int))) = ((48 + n : Nat) : Int) := by
  rw [show IntKind.i64.wrap (48 + (n : Int)) = 48 + n by rw [IntKind.wrap_i64]; omega, IntKind.wrap_u8]; omega

set_option maxHeartbeats 1000000 in
set_option maxRecDepth 100000 in
theorem days_walk (a0 : Int) (w0 : (Lit.int .i64 a0).wf = true) (a1 : Int) (w1 : (Lit.int .i64 a1).wf = true) (sd sw : Bool) (a4 : Int) (w4 : (Lit.int .i64 a4).wf = true) (w : World) (hL : Laid w) :
    Calls Tryd.prog 9 #[.int .i64 a0, .int .i64 a1, .bool sd, .bool sw, .int .i64 a4] w fun e w' => e = .returned (.bool true) ∧ Below w.heap.size w w' := by
  obtain ⟨m, hm⟩ : ∃ m, a4 % 5250000000 - 1035500000 = m := ⟨_, rfl⟩
  have hmb : -1035500000 ≤ m ∧ m ≤ 4214499999 := by omega
  obtain ⟨d, hd⟩ : ∃ d : Nat, 1 + a0 % 31 = d := ⟨(1 + a0 % 31).toNat, by omega⟩
  obtain ⟨k, hk⟩ : ∃ k : Nat, a1 % 7 = k := ⟨(a1 % 7).toNat, by omega⟩
  have hdb : 1 ≤ d ∧ d ≤ 31 := by omega
  have hkb : k < 7 := by omega
  have HM := Lib.hid hm
  have HD := Lib.hid hd
  have HK := Lib.hid hk
  clear hm hk
  go_enter Tryd.func9, Tryd.ntmps9
  go_wp2_with fail
  go_at_call 24
  refine (known6 _ hL).mono ?_
  rintro x wk0 ⟨rfl, hbel⟩
  have hL1 := hL.below hbel
  go_wp2_with fail
  go_at_call 34
  refine (within6 a0 31 _ (by omega) (by omega)).mono ?_
  rintro x w2 ⟨rfl, rfl⟩
  go_wp2_with fail
  go_at_call 34
  refine (within6 a1 7 _ (by omega) (by omega)).mono ?_
  rintro x w3 ⟨rfl, rfl⟩
  rw [HK.out]
  have hbs : Below wk0.heap.size wk0 wk0 := Below.refl _ _
  have HBL := Lib.hid hbel
  have hP : IntKind.u8.wrap (IntKind.i64.wrap (48 + IntKind.i64.wrap ((d : Int) / 10))) = ((48 + d / 10 : Nat) : Int) := by
    rw [show IntKind.i64.wrap ((d : Int) / 10) = ((d / 10 : Nat) : Int) by rw [IntKind.wrap_i64]; omega]; exact dig_u8 _ (by omega)
  have hQ : IntKind.u8.wrap (IntKind.i64.wrap (48 + (d : Int).tmod 10)) = ((48 + d % 10 : Nat) : Int) := by
    rw [show (d : Int).tmod 10 = ((d % 10 : Nat) : Int) by rw [Int.tmod_eq_emod_of_nonneg (by omega)]; omega]; exact dig_u8 _ (by omega)
  have hR : IntKind.u8.wrap (IntKind.i64.wrap (48 + (k : Int))) = ((48 + k : Nat) : Int) := dig_u8 _ (by omega)
  have tP : ((48 : Int) + (d : Int) / 10).toNat = 48 + d / 10 := by omega
  have tQ : ((48 : Int) + (d : Int) % 10).toNat = 48 + d % 10 := by omega
  have tR : ((48 : Int) + (k : Int)).toNat = 48 + k := by omega
  have hcv2 := conv2
  have hcv1 := conv1
  clear hbel hd
  go_upto_region 4 with fail
  go_cut [11, 12] (fun s11 s12 wx => ∃ A B : ByteArray, s11 = .string A ∧ s12 = .string B ∧ Hid (A.data.toList = dayTxt d false) ∧ Hid (B.data.toList = wkTxt k false) ∧ Below wk0.heap.size wk0 wx)
  case first =>
    go_region
    all_goals (
      go_wp2_with fail
      go_meet
      exact ⟨_, _, rfl, rfl, (by show _ = _; simp [dayTxt]), (by show _ = _; simp [wkTxt]), (by first | with_reducible exact bel_alloc2D hbs | with_reducible exact bel_alloc2 hbs | exact bel_alloc2D hbs | exact bel_alloc2 hbs)⟩)
  case rest =>
    obtain ⟨A, B, rfl, rfl, HAd, HBd, hbx⟩ := hcut
    clear hP hQ hR tP tQ tR hcv1 hcv2 hbs
    have hbelx := bthen HBL.out hbx
    have hLx := hL.below hbelx
    clear hbx hL1
    have hAz : A.size = 2 := by have := congrArg List.length HAd.out; rw [Array.length_toList] at this; exact this
    have hBz : B.size = 1 := by have := congrArg List.length HBd.out; rw [Array.length_toList] at this; exact this
    obtain ⟨D, hDD⟩ : ∃ D, (m + 1035593280) / 1440 = D := ⟨_, rfl⟩
    obtain ⟨R, hRR⟩ : ∃ R, (m + 1035593280) % 1440 = R := ⟨_, rfl⟩
    obtain ⟨M, hMM⟩ : ∃ M, (m + 1035593280) % 60 = M := ⟨_, rfl⟩
    obtain ⟨y, mm, dd, hDY⟩ := day_ex D (by omega)
    obtain ⟨K7, hK7⟩ : ∃ K7, (D + 1) % 7 = K7 := ⟨_, rfl⟩
    have HDD := Lib.hid hDD
    have HRR := Lib.hid hRR
    have HMM := Lib.hid hMM
    have HDY := Lib.hid hDY
    have HK7 := Lib.hid hK7
    clear hDD hRR hMM hDY hK7
    cases sd <;> cases sw
    · have HX := Lib.hid (days_pres _ d k false false (days_txt A B d k false false HAd.out HBd.out) hdb.1 hdb.2 hkb)
      have HO : Hid (ExOk (exD d k false false)) := by have h := pres_ok ((⟨#[42, 32, 42, 32]⟩ : ByteArray) ++ A ++ ⟨#[32, 42, 32]⟩ ++ B); rw [HX.out] at h; exact h
      have HT := Lib.hid (exD_match d k false false m D y mm dd (by omega) (by omega) HDD.out HDY.out)
      have had : (exD d k false false).ad = false := rfl
      have haw : (exD d k false false).aw = false := rfl
      rw [HK7.out] at HT
      generalize exD d k false false = e at HX HO HT had haw
      obtain ⟨mi, ho, da, mo, wk, ad, aw⟩ := e
      dsimp only at had haw
      subst had
      subst haw
      go_wp2_with fail
      go_at_call 25
      refine (parse_any _ _ hLx.tabs hLx.max (by have := days_size _ d k false false (days_txt A B d k false false HAd.out HBd.out); omega)).mono ?_
      rintro x wp ⟨hx, hbp⟩
      unfold ParPost exV at hx
      rw [HX.out] at hx
      subst hx
      have hbel2 := bthen hbelx hbp
      clear hbelx hbp hLx
      go_wp2_with fail
      go_at_call 31
      refine (minute6 a4 m _ HM.out).mono ?_
      rintro x w5 ⟨rfl, rfl⟩
      go_wp2_with fail
      go_at_call 32
      refine (of_in m D R M _ (by omega) (by omega) HDD.out HRR.out HMM.out).mono ?_
      rintro x w6 ⟨⟨y6, m6, d6, rfl, hd6⟩, hb6⟩
      obtain ⟨rfl, rfl, rfl⟩ := HDY.out.uniq hd6
      rw [HK7.out]
      have hc6 := keepN hb6
      have hz6 := size1 hb6
      have hbel6 := bthen (bmore hbel2 _) hb6
      clear hb6 hbel2 hd6
      by_cases q1 : dd = (d : Int) <;> by_cases q2 : K7 = (k : Int)
      · have t1 : (dd == (d : Int)) = true := by simp [q1]
        have t2 : (K7 == (k : Int)) = true := by simp [q2]
        have HF : Hid (mt ⟨mi, ho, da, mo, wk, false, false⟩ m = true) := by show _ = _; rw [HT.out]; simp [q1, q2]
        clear q1 q2
        go_wp2_with fail
        go_at_call 35
        refine (matches_any ⟨mi, ho, da, mo, wk, false, false⟩ m _ HO.out).mono ?_
        rw [HF.out]
        rintro x w7 ⟨rfl, hb7⟩
        have hc7 := fun o => (keep1 hb7 hz6 o).trans (hc6 o)
        have hbel7 := bthen (bmore hbel6 _) hb7
        clear hb7 hbel6 hc6
        go_wp2
        go_ret
        exact ⟨rfl, hbel7⟩
      · have t1 : (dd == (d : Int)) = true := by simp [q1]
        have t2 : (K7 == (k : Int)) = false := by simp [q2]
        have HF : Hid (mt ⟨mi, ho, da, mo, wk, false, false⟩ m = true) := by show _ = _; rw [HT.out]; simp [q1, q2]
        clear q1 q2
        go_wp2_with fail
        go_at_call 35
        refine (matches_any ⟨mi, ho, da, mo, wk, false, false⟩ m _ HO.out).mono ?_
        rw [HF.out]
        rintro x w7 ⟨rfl, hb7⟩
        have hc7 := fun o => (keep1 hb7 hz6 o).trans (hc6 o)
        have hbel7 := bthen (bmore hbel6 _) hb7
        clear hb7 hbel6 hc6
        go_wp2
        go_ret
        exact ⟨rfl, hbel7⟩
      · have t1 : (dd == (d : Int)) = false := by simp [q1]
        have t2 : (K7 == (k : Int)) = true := by simp [q2]
        have HF : Hid (mt ⟨mi, ho, da, mo, wk, false, false⟩ m = true) := by show _ = _; rw [HT.out]; simp [q1, q2]
        clear q1 q2
        go_wp2_with fail
        go_at_call 35
        refine (matches_any ⟨mi, ho, da, mo, wk, false, false⟩ m _ HO.out).mono ?_
        rw [HF.out]
        rintro x w7 ⟨rfl, hb7⟩
        have hc7 := fun o => (keep1 hb7 hz6 o).trans (hc6 o)
        have hbel7 := bthen (bmore hbel6 _) hb7
        clear hb7 hbel6 hc6
        go_wp2
        go_ret
        exact ⟨rfl, hbel7⟩
      · have t1 : (dd == (d : Int)) = false := by simp [q1]
        have t2 : (K7 == (k : Int)) = false := by simp [q2]
        have HF : Hid (mt ⟨mi, ho, da, mo, wk, false, false⟩ m = false) := by show _ = _; rw [HT.out]; simp [q1, q2]
        clear q1 q2
        go_wp2_with fail
        go_at_call 35
        refine (matches_any ⟨mi, ho, da, mo, wk, false, false⟩ m _ HO.out).mono ?_
        rw [HF.out]
        rintro x w7 ⟨rfl, hb7⟩
        have hc7 := fun o => (keep1 hb7 hz6 o).trans (hc6 o)
        have hbel7 := bthen (bmore hbel6 _) hb7
        clear hb7 hbel6 hc6
        go_wp2
        go_ret
        exact ⟨rfl, hbel7⟩
    · have HX := Lib.hid (days_pres _ d k false true (days_txt A ⟨#[42]⟩ d k false true HAd.out rfl) hdb.1 hdb.2 hkb)
      have HO : Hid (ExOk (exD d k false true)) := by have h := pres_ok ((⟨#[42, 32, 42, 32]⟩ : ByteArray) ++ A ++ ⟨#[32, 42, 32]⟩ ++ ⟨#[42]⟩); rw [HX.out] at h; exact h
      have HT := Lib.hid (exD_match d k false true m D y mm dd (by omega) (by omega) HDD.out HDY.out)
      have had : (exD d k false true).ad = false := rfl
      have haw : (exD d k false true).aw = true := rfl
      rw [HK7.out] at HT
      generalize exD d k false true = e at HX HO HT had haw
      obtain ⟨mi, ho, da, mo, wk, ad, aw⟩ := e
      dsimp only at had haw
      subst had
      subst haw
      go_wp2_with fail
      go_at_call 25
      refine (parse_any _ _ hLx.tabs hLx.max (by have := days_size _ d k false true (days_txt A ⟨#[42]⟩ d k false true HAd.out rfl); omega)).mono ?_
      rintro x wp ⟨hx, hbp⟩
      unfold ParPost exV at hx
      rw [HX.out] at hx
      subst hx
      have hbel2 := bthen hbelx hbp
      clear hbelx hbp hLx
      go_wp2_with fail
      go_at_call 31
      refine (minute6 a4 m _ HM.out).mono ?_
      rintro x w5 ⟨rfl, rfl⟩
      go_wp2_with fail
      go_at_call 32
      refine (of_in m D R M _ (by omega) (by omega) HDD.out HRR.out HMM.out).mono ?_
      rintro x w6 ⟨⟨y6, m6, d6, rfl, hd6⟩, hb6⟩
      obtain ⟨rfl, rfl, rfl⟩ := HDY.out.uniq hd6
      rw [HK7.out]
      have hc6 := keepN hb6
      have hz6 := size1 hb6
      have hbel6 := bthen (bmore hbel2 _) hb6
      clear hb6 hbel2 hd6
      by_cases q1 : dd = (d : Int) <;> by_cases q2 : K7 = (k : Int)
      · have t1 : (dd == (d : Int)) = true := by simp [q1]
        have t2 : (K7 == (k : Int)) = true := by simp [q2]
        have HF : Hid (mt ⟨mi, ho, da, mo, wk, false, true⟩ m = true) := by show _ = _; rw [HT.out]; simp [q1, q2]
        clear q1 q2
        go_wp2_with fail
        go_at_call 35
        refine (matches_any ⟨mi, ho, da, mo, wk, false, true⟩ m _ HO.out).mono ?_
        rw [HF.out]
        rintro x w7 ⟨rfl, hb7⟩
        have hc7 := fun o => (keep1 hb7 hz6 o).trans (hc6 o)
        have hbel7 := bthen (bmore hbel6 _) hb7
        clear hb7 hbel6 hc6
        go_wp2
        go_ret
        exact ⟨rfl, hbel7⟩
      · have t1 : (dd == (d : Int)) = true := by simp [q1]
        have t2 : (K7 == (k : Int)) = false := by simp [q2]
        have HF : Hid (mt ⟨mi, ho, da, mo, wk, false, true⟩ m = true) := by show _ = _; rw [HT.out]; simp [q1, q2]
        clear q1 q2
        go_wp2_with fail
        go_at_call 35
        refine (matches_any ⟨mi, ho, da, mo, wk, false, true⟩ m _ HO.out).mono ?_
        rw [HF.out]
        rintro x w7 ⟨rfl, hb7⟩
        have hc7 := fun o => (keep1 hb7 hz6 o).trans (hc6 o)
        have hbel7 := bthen (bmore hbel6 _) hb7
        clear hb7 hbel6 hc6
        go_wp2
        go_ret
        exact ⟨rfl, hbel7⟩
      · have t1 : (dd == (d : Int)) = false := by simp [q1]
        have t2 : (K7 == (k : Int)) = true := by simp [q2]
        have HF : Hid (mt ⟨mi, ho, da, mo, wk, false, true⟩ m = false) := by show _ = _; rw [HT.out]; simp [q1, q2]
        clear q1 q2
        go_wp2_with fail
        go_at_call 35
        refine (matches_any ⟨mi, ho, da, mo, wk, false, true⟩ m _ HO.out).mono ?_
        rw [HF.out]
        rintro x w7 ⟨rfl, hb7⟩
        have hc7 := fun o => (keep1 hb7 hz6 o).trans (hc6 o)
        have hbel7 := bthen (bmore hbel6 _) hb7
        clear hb7 hbel6 hc6
        go_wp2
        go_ret
        exact ⟨rfl, hbel7⟩
      · have t1 : (dd == (d : Int)) = false := by simp [q1]
        have t2 : (K7 == (k : Int)) = false := by simp [q2]
        have HF : Hid (mt ⟨mi, ho, da, mo, wk, false, true⟩ m = false) := by show _ = _; rw [HT.out]; simp [q1, q2]
        clear q1 q2
        go_wp2_with fail
        go_at_call 35
        refine (matches_any ⟨mi, ho, da, mo, wk, false, true⟩ m _ HO.out).mono ?_
        rw [HF.out]
        rintro x w7 ⟨rfl, hb7⟩
        have hc7 := fun o => (keep1 hb7 hz6 o).trans (hc6 o)
        have hbel7 := bthen (bmore hbel6 _) hb7
        clear hb7 hbel6 hc6
        go_wp2
        go_ret
        exact ⟨rfl, hbel7⟩
    · have HX := Lib.hid (days_pres _ d k true false (days_txt ⟨#[42]⟩ B d k true false rfl HBd.out) hdb.1 hdb.2 hkb)
      have HO : Hid (ExOk (exD d k true false)) := by have h := pres_ok ((⟨#[42, 32, 42, 32]⟩ : ByteArray) ++ ⟨#[42]⟩ ++ ⟨#[32, 42, 32]⟩ ++ B); rw [HX.out] at h; exact h
      have HT := Lib.hid (exD_match d k true false m D y mm dd (by omega) (by omega) HDD.out HDY.out)
      have had : (exD d k true false).ad = true := rfl
      have haw : (exD d k true false).aw = false := rfl
      rw [HK7.out] at HT
      generalize exD d k true false = e at HX HO HT had haw
      obtain ⟨mi, ho, da, mo, wk, ad, aw⟩ := e
      dsimp only at had haw
      subst had
      subst haw
      go_wp2_with fail
      go_at_call 25
      refine (parse_any _ _ hLx.tabs hLx.max (by have := days_size _ d k true false (days_txt ⟨#[42]⟩ B d k true false rfl HBd.out); omega)).mono ?_
      rintro x wp ⟨hx, hbp⟩
      unfold ParPost exV at hx
      rw [HX.out] at hx
      subst hx
      have hbel2 := bthen hbelx hbp
      clear hbelx hbp hLx
      go_wp2_with fail
      go_at_call 31
      refine (minute6 a4 m _ HM.out).mono ?_
      rintro x w5 ⟨rfl, rfl⟩
      go_wp2_with fail
      go_at_call 32
      refine (of_in m D R M _ (by omega) (by omega) HDD.out HRR.out HMM.out).mono ?_
      rintro x w6 ⟨⟨y6, m6, d6, rfl, hd6⟩, hb6⟩
      obtain ⟨rfl, rfl, rfl⟩ := HDY.out.uniq hd6
      rw [HK7.out]
      have hc6 := keepN hb6
      have hz6 := size1 hb6
      have hbel6 := bthen (bmore hbel2 _) hb6
      clear hb6 hbel2 hd6
      by_cases q1 : dd = (d : Int) <;> by_cases q2 : K7 = (k : Int)
      · have t1 : (dd == (d : Int)) = true := by simp [q1]
        have t2 : (K7 == (k : Int)) = true := by simp [q2]
        have HF : Hid (mt ⟨mi, ho, da, mo, wk, true, false⟩ m = true) := by show _ = _; rw [HT.out]; simp [q1, q2]
        clear q1 q2
        go_wp2_with fail
        go_at_call 35
        refine (matches_any ⟨mi, ho, da, mo, wk, true, false⟩ m _ HO.out).mono ?_
        rw [HF.out]
        rintro x w7 ⟨rfl, hb7⟩
        have hc7 := fun o => (keep1 hb7 hz6 o).trans (hc6 o)
        have hbel7 := bthen (bmore hbel6 _) hb7
        clear hb7 hbel6 hc6
        go_wp2
        go_ret
        exact ⟨rfl, hbel7⟩
      · have t1 : (dd == (d : Int)) = true := by simp [q1]
        have t2 : (K7 == (k : Int)) = false := by simp [q2]
        have HF : Hid (mt ⟨mi, ho, da, mo, wk, true, false⟩ m = false) := by show _ = _; rw [HT.out]; simp [q1, q2]
        clear q1 q2
        go_wp2_with fail
        go_at_call 35
        refine (matches_any ⟨mi, ho, da, mo, wk, true, false⟩ m _ HO.out).mono ?_
        rw [HF.out]
        rintro x w7 ⟨rfl, hb7⟩
        have hc7 := fun o => (keep1 hb7 hz6 o).trans (hc6 o)
        have hbel7 := bthen (bmore hbel6 _) hb7
        clear hb7 hbel6 hc6
        go_wp2
        go_ret
        exact ⟨rfl, hbel7⟩
      · have t1 : (dd == (d : Int)) = false := by simp [q1]
        have t2 : (K7 == (k : Int)) = true := by simp [q2]
        have HF : Hid (mt ⟨mi, ho, da, mo, wk, true, false⟩ m = true) := by show _ = _; rw [HT.out]; simp [q1, q2]
        clear q1 q2
        go_wp2_with fail
        go_at_call 35
        refine (matches_any ⟨mi, ho, da, mo, wk, true, false⟩ m _ HO.out).mono ?_
        rw [HF.out]
        rintro x w7 ⟨rfl, hb7⟩
        have hc7 := fun o => (keep1 hb7 hz6 o).trans (hc6 o)
        have hbel7 := bthen (bmore hbel6 _) hb7
        clear hb7 hbel6 hc6
        go_wp2
        go_ret
        exact ⟨rfl, hbel7⟩
      · have t1 : (dd == (d : Int)) = false := by simp [q1]
        have t2 : (K7 == (k : Int)) = false := by simp [q2]
        have HF : Hid (mt ⟨mi, ho, da, mo, wk, true, false⟩ m = false) := by show _ = _; rw [HT.out]; simp [q1, q2]
        clear q1 q2
        go_wp2_with fail
        go_at_call 35
        refine (matches_any ⟨mi, ho, da, mo, wk, true, false⟩ m _ HO.out).mono ?_
        rw [HF.out]
        rintro x w7 ⟨rfl, hb7⟩
        have hc7 := fun o => (keep1 hb7 hz6 o).trans (hc6 o)
        have hbel7 := bthen (bmore hbel6 _) hb7
        clear hb7 hbel6 hc6
        go_wp2
        go_ret
        exact ⟨rfl, hbel7⟩
    · have HX := Lib.hid (days_pres _ d k true true (days_txt ⟨#[42]⟩ ⟨#[42]⟩ d k true true rfl rfl) hdb.1 hdb.2 hkb)
      have HO : Hid (ExOk (exD d k true true)) := by have h := pres_ok ((⟨#[42, 32, 42, 32]⟩ : ByteArray) ++ ⟨#[42]⟩ ++ ⟨#[32, 42, 32]⟩ ++ ⟨#[42]⟩); rw [HX.out] at h; exact h
      have HT := Lib.hid (exD_match d k true true m D y mm dd (by omega) (by omega) HDD.out HDY.out)
      have had : (exD d k true true).ad = true := rfl
      have haw : (exD d k true true).aw = true := rfl
      rw [HK7.out] at HT
      generalize exD d k true true = e at HX HO HT had haw
      obtain ⟨mi, ho, da, mo, wk, ad, aw⟩ := e
      dsimp only at had haw
      subst had
      subst haw
      go_wp2_with fail
      go_at_call 25
      refine (parse_any _ _ hLx.tabs hLx.max (by have := days_size _ d k true true (days_txt ⟨#[42]⟩ ⟨#[42]⟩ d k true true rfl rfl); omega)).mono ?_
      rintro x wp ⟨hx, hbp⟩
      unfold ParPost exV at hx
      rw [HX.out] at hx
      subst hx
      have hbel2 := bthen hbelx hbp
      clear hbelx hbp hLx
      go_wp2_with fail
      go_at_call 31
      refine (minute6 a4 m _ HM.out).mono ?_
      rintro x w5 ⟨rfl, rfl⟩
      go_wp2_with fail
      go_at_call 32
      refine (of_in m D R M _ (by omega) (by omega) HDD.out HRR.out HMM.out).mono ?_
      rintro x w6 ⟨⟨y6, m6, d6, rfl, hd6⟩, hb6⟩
      obtain ⟨rfl, rfl, rfl⟩ := HDY.out.uniq hd6
      rw [HK7.out]
      have hc6 := keepN hb6
      have hz6 := size1 hb6
      have hbel6 := bthen (bmore hbel2 _) hb6
      clear hb6 hbel2 hd6
      by_cases q1 : dd = (d : Int) <;> by_cases q2 : K7 = (k : Int)
      · have t1 : (dd == (d : Int)) = true := by simp [q1]
        have t2 : (K7 == (k : Int)) = true := by simp [q2]
        have HF : Hid (mt ⟨mi, ho, da, mo, wk, true, true⟩ m = true) := by show _ = _; rw [HT.out]; simp [q1, q2]
        clear q1 q2
        go_wp2_with fail
        go_at_call 35
        refine (matches_any ⟨mi, ho, da, mo, wk, true, true⟩ m _ HO.out).mono ?_
        rw [HF.out]
        rintro x w7 ⟨rfl, hb7⟩
        have hc7 := fun o => (keep1 hb7 hz6 o).trans (hc6 o)
        have hbel7 := bthen (bmore hbel6 _) hb7
        clear hb7 hbel6 hc6
        go_wp2
        go_ret
        exact ⟨rfl, hbel7⟩
      · have t1 : (dd == (d : Int)) = true := by simp [q1]
        have t2 : (K7 == (k : Int)) = false := by simp [q2]
        have HF : Hid (mt ⟨mi, ho, da, mo, wk, true, true⟩ m = true) := by show _ = _; rw [HT.out]; simp [q1, q2]
        clear q1 q2
        go_wp2_with fail
        go_at_call 35
        refine (matches_any ⟨mi, ho, da, mo, wk, true, true⟩ m _ HO.out).mono ?_
        rw [HF.out]
        rintro x w7 ⟨rfl, hb7⟩
        have hc7 := fun o => (keep1 hb7 hz6 o).trans (hc6 o)
        have hbel7 := bthen (bmore hbel6 _) hb7
        clear hb7 hbel6 hc6
        go_wp2
        go_ret
        exact ⟨rfl, hbel7⟩
      · have t1 : (dd == (d : Int)) = false := by simp [q1]
        have t2 : (K7 == (k : Int)) = true := by simp [q2]
        have HF : Hid (mt ⟨mi, ho, da, mo, wk, true, true⟩ m = true) := by show _ = _; rw [HT.out]; simp [q1, q2]
        clear q1 q2
        go_wp2_with fail
        go_at_call 35
        refine (matches_any ⟨mi, ho, da, mo, wk, true, true⟩ m _ HO.out).mono ?_
        rw [HF.out]
        rintro x w7 ⟨rfl, hb7⟩
        have hc7 := fun o => (keep1 hb7 hz6 o).trans (hc6 o)
        have hbel7 := bthen (bmore hbel6 _) hb7
        clear hb7 hbel6 hc6
        go_wp2
        go_ret
        exact ⟨rfl, hbel7⟩
      · have t1 : (dd == (d : Int)) = false := by simp [q1]
        have t2 : (K7 == (k : Int)) = false := by simp [q2]
        have HF : Hid (mt ⟨mi, ho, da, mo, wk, true, true⟩ m = true) := by show _ = _; rw [HT.out]; simp [q1, q2]
        clear q1 q2
        go_wp2_with fail
        go_at_call 35
        refine (matches_any ⟨mi, ho, da, mo, wk, true, true⟩ m _ HO.out).mono ?_
        rw [HF.out]
        rintro x w7 ⟨rfl, hb7⟩
        have hc7 := fun o => (keep1 hb7 hz6 o).trans (hc6 o)
        have hbel7 := bthen (bmore hbel6 _) hb7
        clear hb7 hbel6 hc6
        go_wp2
        go_ret
        exact ⟨rfl, hbel7⟩
end Go.Proofs.YtggcnbdpobbkaaaDoor.Cron
