/- The contract of cron.Expr.Matches: does a minute match an expression? -/
import Derived.Test.YtlldcoldnojbjaaGreatDoorCronFits
import Derived.Test.YtlldcoldnojbjaaGreatDoorCalWalks
namespace Go.Proofs.YtlldcoldnojbjaaGreatDoor.Cron
open Go.RowKit Go Go.Proofs.YtlldcoldnojbjaaGreatDoor.Cal

/-- An expression as a value; its words fit. -/
def exV (e : Ex) : Value := .agg #[.int .u64 e.mi, .int .u64 e.ho, .int .u64 e.da, .int .u64 e.mo, .int .u64 e.wk, .bool e.ad, .bool e.aw]
structure ExOk (e : Ex) : Prop where
  mi : e.mi < 18446744073709551616
  ho : e.ho < 18446744073709551616
  da : e.da < 18446744073709551616
  mo : e.mo < 18446744073709551616
  wk : e.wk < 18446744073709551616

/-- The minute n matches: it has a date, its day may be, its hour, its minute are allowed. -/
def isMatch (e : Ex) (n : Int) : Prop :=
  -1035593280 ≤ n ∧ n ≤ 4223371679 ∧ ∃ y m d : Int, IsDay ((n + 1035593280) / 1440) y m d ∧
    dayOk e.da e.mo e.wk e.ad e.aw m.toNat d.toNat (((n + 1035593280) / 1440 + 1) % 7).toNat = true ∧
    e.ho.testBit ((n + 1035593280) % 1440 / 60).toNat = true ∧ e.mi.testBit ((n + 1035593280) % 60).toNat = true
noncomputable def mt (e : Ex) (n : Int) : Bool := @decide (isMatch e n) (Classical.propDecidable _)
theorem mt_iff (e : Ex) (n : Int) : mt e n = true ↔ isMatch e n := by unfold mt; simp
theorem mt_false {e : Ex} {n : Int} (h : ¬ isMatch e n) : mt e n = false := by unfold mt; simp [h]
theorem mt_true {e : Ex} {n : Int} (h : isMatch e n) : mt e n = true := (mt_iff e n).2 h

/-- With the date at hand. -/
theorem mt_at (e : Ex) (n y m d : Int) (h1 : -1035593280 ≤ n) (h2 : n ≤ 4223371679) (hd : IsDay ((n + 1035593280) / 1440) y m d) :
    mt e n = (dayOk e.da e.mo e.wk e.ad e.aw m.toNat d.toNat (((n + 1035593280) / 1440 + 1) % 7).toNat && e.ho.testBit ((n + 1035593280) % 1440 / 60).toNat && e.mi.testBit ((n + 1035593280) % 60).toNat) := by
  rw [Bool.eq_iff_iff, mt_iff, Bool.and_eq_true, Bool.and_eq_true]
  constructor
  · rintro ⟨_, _, y', m', d', hd', a, b, c⟩
    obtain ⟨rfl, rfl, rfl⟩ := hd.uniq hd'
    exact ⟨⟨a, b⟩, c⟩
  · rintro ⟨⟨a, b⟩, c⟩
    exact ⟨h1, h2, y, m, d, hd, a, b, c⟩

set_option maxRecDepth 100000 in
theorem matches_any (e : Ex) (n : Int) (w : World) (he : ExOk e) :
    Calls Tryz.prog 8 #[exV e, .int .i64 n] w fun x w' => x = .returned (.bool (mt e n)) ∧ Below w.heap.size w w' := by
  obtain ⟨mi, ho, da, mo, wk, ad, aw⟩ := e
  obtain ⟨b1, b2, b3, b4, b5⟩ := he
  dsimp only at b1 b2 b3 b4 b5
  unfold exV
  by_cases hn : n < -1035593280 ∨ 4223371679 < n
  · have HM : Hid (mt ⟨mi, ho, da, mo, wk, ad, aw⟩ n = false) := mt_false (fun h => by have := h.1; have := h.2.1; omega)
    go_enter Tryz.func8, Tryz.ntmps8
    go_wp2_with fail
    go_at_call 19
    refine (of_out n _ hn).mono ?_
    rintro x w1 ⟨rfl, hb1⟩
    have hbel : Below w.heap.size w w1 := ((Below.refl _ _).alloc (Nat.le_refl _) _).trans (hb1.mono (by simp))
    clear hn
    go_wp2
    go_ret
    exact ⟨ret_bool HM.out.symm, bmore hbel _⟩
  · obtain ⟨D, hD⟩ : ∃ D, (n + 1035593280) / 1440 = D := ⟨_, rfl⟩
    obtain ⟨R, hR⟩ : ∃ R, (n + 1035593280) % 1440 = R := ⟨_, rfl⟩
    obtain ⟨M, hM⟩ : ∃ M, (n + 1035593280) % 60 = M := ⟨_, rfl⟩
    have hRb : 0 ≤ R ∧ R < 1440 := by omega
    have hMb : 0 ≤ M ∧ M < 60 := by omega
    obtain ⟨H, hH⟩ : ∃ H : Nat, R / 60 = H := ⟨(R / 60).toNat, by omega⟩
    obtain ⟨I, hI⟩ : ∃ I : Nat, M = I := ⟨M.toNat, by omega⟩
    obtain ⟨K, hK⟩ : ∃ K : Nat, (D + 1) % 7 = K := ⟨((D + 1) % 7).toNat, by omega⟩
    have hHb : H ≤ 23 := by omega
    have hIb : I ≤ 59 := by omega
    have hKb : K ≤ 6 := by omega
    have HD := Lib.hid hD
    have HR := Lib.hid hR
    have HM := Lib.hid hM
    have HH := Lib.hid hH
    have HI := Lib.hid hI
    have HK := Lib.hid hK
    clear hD hR hM hH hI hK
    go_enter Tryz.func8, Tryz.ntmps8
    go_wp2_with fail
    go_at_call 19
    refine (of_in n D R M _ (by omega) (by omega) HD HR HM).mono ?_
    rintro x w1 ⟨⟨y, m, d, hx, hd⟩, hb1⟩
    rw [HH.out, HK.out, HI.out] at hx
    obtain ⟨m', hm'⟩ : ∃ m' : Nat, m = m' := ⟨m.toNat, by have := hd.m1; omega⟩
    obtain ⟨d', hd'⟩ : ∃ d' : Nat, d = d' := ⟨d.toNat, by have := hd.d1; omega⟩
    have hm12 : m' ≤ 12 := by have := hd.m12; omega
    have hd31 : d' ≤ 31 := by have := hd.dd; have := dm_bd y m; omega
    have HV := Lib.hid (mt_at ⟨mi, ho, da, mo, wk, ad, aw⟩ n y m d (by omega) (by omega) (by rw [HD.out]; exact hd))
    rw [HD.out, HR.out, HM.out, HH.out, HI.out, HK.out, hm', hd'] at HV
    rw [hm', hd'] at hx
    subst hx
    have hbel : Below w.heap.size w w1 := ((Below.refl _ _).alloc (Nat.le_refl _) _).trans (hb1.mono (by simp))
    have hB := keepN hb1
    have hz := size1 hb1
    clear hb1 hm' hd' hd HD HR HM HH HI HK hRb hMb
    simp only [Int.toNat_natCast] at HV
    go_wp2_with fail
    go_at_call 20
    refine (fits_any mi ho da mo wk ad aw m' d' K y H I _ hm12 hd31 hKb b3 b4 b5).mono ?_
    obtain ⟨f, hf⟩ : ∃ f, dayOk da mo wk ad aw m' d' K = f := ⟨_, rfl⟩
    rw [hf] at HV ⊢
    rintro x w2 ⟨rfl, hb2⟩
    have hbel2 := bthen (bmore hbel _) hb2
    have hB2 := fun o => (keep1 hb2 hz o).trans (hB o)
    have hC2 := keepN hb2
    clear hb2 hbel hB hf
    cases f with
    | false =>
      have HF : Hid (mt ⟨mi, ho, da, mo, wk, ad, aw⟩ n = false) := by show _ = _; rw [HV.out]; rfl
      clear HV
      go_wp2
      go_ret
      exact ⟨ret_bool HF.out.symm, hbel2⟩
    | true =>
      cases hh : ho.testBit H with
      | false =>
        have HF : Hid (mt ⟨mi, ho, da, mo, wk, ad, aw⟩ n = false) := by show _ = _; rw [HV.out, hh]; rfl
        have f1 := bit_no ho H b2 hh
        clear HV hh
        go_wp2
        go_ret
        exact ⟨ret_bool HF.out.symm, hbel2⟩
      | true =>
        have f1 := bit_yes ho H b2 hh
        cases hi : mi.testBit I with
        | false =>
          have HF : Hid (mt ⟨mi, ho, da, mo, wk, ad, aw⟩ n = false) := by show _ = _; rw [HV.out, hh, hi]; rfl
          have f2 := bit_no mi I b1 hi
          clear HV hh hi
          go_wp2
          go_ret
          exact ⟨ret_bool (by rw [HF.out]), hbel2⟩
        | true =>
          have HF : Hid (mt ⟨mi, ho, da, mo, wk, ad, aw⟩ n = true) := by show _ = _; rw [HV.out, hh, hi]; rfl
          have f2 := bit_yes mi I b1 hi
          clear HV hh hi
          go_wp2
          go_ret
          exact ⟨ret_bool (by rw [HF.out]), hbel2⟩
end Go.Proofs.YtlldcoldnojbjaaGreatDoor.Cron
