/- The reference's day and Matches. -/
import Derived.Test.YtdpaiaeaamokeaaDoorRefDay
import Derived.Test.YtdpaiaeaamokeaaDoorCalB
namespace Go.Proofs.YtdpaiaeaamokeaaDoor.Cron
open Go.RowKit Go Go.Proofs.YtdpaiaeaamokeaaDoor.Cal

set_option maxHeartbeats 1000000 in
set_option maxRecDepth 100000 in
theorem rday_any (e : Ex) (m d k : Nat) (w : World) (he : ExOk e) (hm : m ≤ 12) (hd : d ≤ 31) (hk : k ≤ 6) :
    Calls Tryd.prog 75 #[exV e, .int .i64 m, .int .i64 d, .int .i64 k] w fun x w' => x = .returned (.bool (dayOk e.da e.mo e.wk e.ad e.aw m d k)) ∧ Below w.heap.size w w' := by
  have HE : Hid (ExOk e) := he
  clear he
  obtain ⟨mi, ho, da, mo, wk, ad, aw⟩ := e
  obtain ⟨qm, hqm⟩ : ∃ qm, mo.testBit m = qm := ⟨_, rfl⟩
  obtain ⟨qd, hqd⟩ : ∃ qd, da.testBit d = qd := ⟨_, rfl⟩
  obtain ⟨qk, hqk⟩ : ∃ qk, wk.testBit k = qk := ⟨_, rfl⟩
  have H3 : Hid ((fld ⟨mi, ho, da, mo, wk, ad, aw⟩ (Int.toNat 3)).testBit (m : Int).toNat = qm) := by show _ = _; rw [Int.toNat_natCast]; exact hqm
  have H2 : Hid ((fld ⟨mi, ho, da, mo, wk, ad, aw⟩ (Int.toNat 2)).testBit (d : Int).toNat = qd) := by show _ = _; rw [Int.toNat_natCast]; exact hqd
  have H4 : Hid ((fld ⟨mi, ho, da, mo, wk, ad, aw⟩ (Int.toNat 4)).testBit (k : Int).toNat = qk) := by show _ = _; rw [Int.toNat_natCast]; exact hqk
  have HV : Hid (dayOk da mo wk ad aw m d k = (qm && (if ad && aw then true else if ad then qk else if aw then qd else qd || qk))) := by show _ = _; rw [dayOk, hqm, hqd, hqk]
  clear hqm hqd hqk
  unfold exV
  dsimp only
  go_enter Tryd.func75, Tryd.ntmps75
  go_wp2_with fail
  go_at_call 79
  refine (has_i ⟨mi, ho, da, mo, wk, ad, aw⟩ 3 m _ HE.out (by omega) (by omega)).mono ?_
  rw [H3.out]
  rintro x w1 ⟨rfl, hb1⟩
  have hbel : Below w.heap.size w w1 := bthen (bmore (Below.refl _ _) _) hb1
  have hB := keepN hb1
  have hz := size1 hb1
  clear hb1
  cases qm with
  | false =>
    go_wp2
    go_ret
    exact ⟨ret_bool (by rw [HV.out]; rfl), hbel⟩
  | true =>
    cases ad with
    | true =>
      cases aw with
      | true =>
        go_wp2
        go_ret
        exact ⟨ret_bool (by rw [HV.out]; rfl), hbel⟩
      | false =>
        go_wp2_with fail
        go_at_call 79
        refine (has_i ⟨mi, ho, da, mo, wk, _, _⟩ 4 k _ HE.out (by omega) (by omega)).mono ?_
        rw [H4.out]
        rintro x w2 ⟨rfl, hb2⟩
        have hbel2 := bthen hbel hb2
        clear hb2
        go_wp2
        go_ret
        exact ⟨ret_bool (by rw [HV.out]; rfl), hbel2⟩
    | false =>
      cases aw with
      | true =>
        go_wp2_with fail
        go_at_call 79
        refine (has_i ⟨mi, ho, da, mo, wk, _, _⟩ 2 d _ HE.out (by omega) (by omega)).mono ?_
        rw [H2.out]
        rintro x w2 ⟨rfl, hb2⟩
        have hbel2 := bthen hbel hb2
        clear hb2
        go_wp2
        go_ret
        exact ⟨ret_bool (by rw [HV.out]; rfl), hbel2⟩
      | false =>
        go_wp2_with fail
        go_at_call 79
        refine (has_i ⟨mi, ho, da, mo, wk, _, _⟩ 2 d _ HE.out (by omega) (by omega)).mono ?_
        rw [H2.out]
        rintro x w2 ⟨rfl, hb2⟩
        have hbel2 := bthen hbel hb2
        have hB2 := fun o => (keep0 hb2 hz o).trans (hB o)
        have hz2 := Nat.lt_of_lt_of_le hz hb2.size
        clear hb2 hB hbel hz
        cases qd with
        | true =>
          go_wp2
          go_ret
          exact ⟨ret_bool (by rw [HV.out]; rfl), hbel2⟩
        | false =>
          go_wp2_with fail
          go_at_call 79
          refine (has_i ⟨mi, ho, da, mo, wk, _, _⟩ 4 k _ HE.out (by omega) (by omega)).mono ?_
          rw [H4.out]
          rintro x w3 ⟨rfl, hb3⟩
          have hbel3 := bthen hbel2 hb3
          clear hb3
          go_wp2
          go_ret
          exact ⟨ret_bool (by rw [HV.out]; rfl), hbel3⟩

set_option maxHeartbeats 1000000 in
set_option maxRecDepth 100000 in
theorem rmatches_any (e : Ex) (n : Int) (w : World) (he : ExOk e) (hn0 : -9223372036854775808 ≤ n) (hn9 : n ≤ 9223372036854775807) :
    Calls Tryd.prog 46 #[exV e, .int .i64 n] w fun x w' => x = .returned (.bool (mt e n)) ∧ Below w.heap.size w w' := by
  have HE : Hid (ExOk e) := he
  clear he
  obtain ⟨mi, ho, da, mo, wk, ad, aw⟩ := e
  unfold exV
  dsimp only
  by_cases hn : n < -1035593280 ∨ 4223371679 < n
  · have HM : Hid (mt ⟨mi, ho, da, mo, wk, ad, aw⟩ n = false) := mt_false (fun h => by have := h.1; have := h.2.1; omega)
    go_enter Tryd.func46, Tryd.ntmps46
    go_wp2_with fail
    go_at_call 74
    refine (rof_out n _ hn0 hn9 hn).mono ?_
    rintro x w1 ⟨rfl, hb1⟩
    have hbel : Below w.heap.size w w1 := bthen (bmore (Below.refl _ _) _) hb1
    clear hn hb1
    go_wp2
    go_ret
    exact ⟨ret_bool HM.out.symm, bmore hbel _⟩
  · obtain ⟨D, hD⟩ : ∃ D, n / 1440 + 719162 = D := ⟨_, rfl⟩
    obtain ⟨R, hR⟩ : ∃ R, n % 1440 = R := ⟨_, rfl⟩
    have hRb : 0 ≤ R ∧ R < 1440 := by omega
    obtain ⟨H, hH⟩ : ∃ H : Nat, R / 60 = H := ⟨(R / 60).toNat, by omega⟩
    obtain ⟨I, hI⟩ : ∃ I : Nat, R % 60 = I := ⟨(R % 60).toNat, by omega⟩
    obtain ⟨K, hK⟩ : ∃ K : Nat, (D + 1) % 7 = K := ⟨((D + 1) % 7).toNat, by omega⟩
    have hHb : H ≤ 23 := by omega
    have hIb : I ≤ 59 := by omega
    have hKb : K ≤ 6 := by omega
    have HD2 : Hid ((n + 1035593280) / 1440 = D) := by show _ = _; omega
    have HR2 : Hid ((n + 1035593280) % 1440 = R) := by show _ = _; omega
    have HM2 : Hid ((n + 1035593280) % 60 = I) := by show _ = _; omega
    have HD := Lib.hid hD
    have HR := Lib.hid hR
    have HH := Lib.hid hH
    have HI := Lib.hid hI
    have HK := Lib.hid hK
    clear hD hR hH hI hK
    go_enter Tryd.func46, Tryd.ntmps46
    go_wp2_with fail
    go_at_call 74
    refine (rof_in n D R _ (by omega) (by omega) HD HR).mono ?_
    rintro x w1 ⟨⟨y, m, d, hx, hd⟩, hb1⟩
    rw [HH.out, HK.out, HI.out] at hx
    obtain ⟨m', hm'⟩ : ∃ m' : Nat, m = m' := ⟨m.toNat, by have := hd.m1; omega⟩
    obtain ⟨d', hd'⟩ : ∃ d' : Nat, d = d' := ⟨d.toNat, by have := hd.d1; omega⟩
    have hm12 : m' ≤ 12 := by have := hd.m12; omega
    have hd31 : d' ≤ 31 := by have := hd.dd; have := dm_bd y m; omega
    have HV := Lib.hid (mt_at ⟨mi, ho, da, mo, wk, ad, aw⟩ n y m d (by omega) (by omega) (by rw [HD2.out]; exact hd))
    rw [HD2.out, HR2.out, HM2.out, HH.out, HK.out, hm', hd'] at HV
    rw [hm', hd'] at hx
    subst hx
    have hbel : Below w.heap.size w w1 := bthen (bmore (Below.refl _ _) _) hb1
    have hB := keepN hb1
    have hz := size1 hb1
    clear hb1 hm' hd' hd HD HR HH HI HK HD2 HR2 HM2 hRb
    simp only [Int.toNat_natCast] at HV
    obtain ⟨qd, hqd⟩ : ∃ qd, dayOk da mo wk ad aw m' d' K = qd := ⟨_, rfl⟩
    obtain ⟨qh, hqh⟩ : ∃ qh, ho.testBit H = qh := ⟨_, rfl⟩
    obtain ⟨qi, hqi⟩ : ∃ qi, mi.testBit I = qi := ⟨_, rfl⟩
    rw [hqd, hqh, hqi] at HV
    have Q1 : Hid ((fld ⟨mi, ho, da, mo, wk, ad, aw⟩ (Int.toNat 1)).testBit (H : Int).toNat = qh) := by show _ = _; rw [Int.toNat_natCast]; exact hqh
    have Q0 : Hid ((fld ⟨mi, ho, da, mo, wk, ad, aw⟩ (Int.toNat 0)).testBit (I : Int).toNat = qi) := by show _ = _; rw [Int.toNat_natCast]; exact hqi
    have QD := Lib.hid hqd
    clear hqd hqh hqi
    go_wp2_with fail
    go_at_call 79
    refine (has_i ⟨mi, ho, da, mo, wk, ad, aw⟩ 0 I _ HE.out (by omega) (by omega)).mono ?_
    rw [Q0.out]
    rintro x w2 ⟨rfl, hb2⟩
    have hbel2 := bthen (bmore hbel _) hb2
    have hB2 := fun o => (keep1 hb2 hz o).trans (hB o)
    have hC2 := keepN hb2
    have hz2 := size1 hb2
    clear hb2 hB hbel
    cases qi with
    | false =>
      go_wp2
      go_ret
      exact ⟨ret_bool (by rw [HV.out]; simp), hbel2⟩
    | true =>
      go_wp2_with fail
      go_at_call 79
      refine (has_i ⟨mi, ho, da, mo, wk, ad, aw⟩ 1 H _ HE.out (by omega) (by omega)).mono ?_
      rw [Q1.out]
      rintro x w3 ⟨rfl, hb3⟩
      have hbel3 := bthen hbel2 hb3
      have hB3 := fun o => (keep0 hb3 (Nat.lt_trans hz hz2) o).trans (hB2 o)
      have hC3 := fun o => (keep0 hb3 hz2 o).trans (hC2 o)
      have hz3 := Nat.lt_of_lt_of_le hz2 hb3.size
      clear hb3 hB2 hC2 hbel2 hz2
      cases qh with
      | false =>
        go_wp2
        go_ret
        exact ⟨ret_bool (by rw [HV.out]; simp), hbel3⟩
      | true =>
        go_wp2_with fail
        go_at_call 75
        refine (rday_any ⟨mi, ho, da, mo, wk, ad, aw⟩ m' d' K _ HE.out hm12 hd31 hKb).mono ?_
        dsimp only
        rw [QD.out]
        rintro x w4 ⟨rfl, hb4⟩
        have hbel4 := bthen hbel3 hb4
        clear hb4
        cases qd with
        | false =>
          go_wp2
          go_ret
          exact ⟨ret_bool (by rw [HV.out]; simp), hbel4⟩
        | true =>
          go_wp2
          go_ret
          exact ⟨ret_bool (by rw [HV.out]; simp), hbel4⟩
end Go.Proofs.YtdpaiaeaamokeaaDoor.Cron
