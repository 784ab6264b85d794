/- The contract of cron.Expr.Next. -/
import Derived.Test.YtlldcoldnojbjaaGreatDoorCronNextP
namespace Go.Proofs.YtlldcoldnojbjaaGreatDoor.Cron
open Go.RowKit Go Go.Proofs.YtlldcoldnojbjaaGreatDoor.Cal

set_option maxHeartbeats 1000000 in
set_option maxRecDepth 100000 in
theorem next_out_any (e : Ex) (a : Int) (w : World) (h : a < -1035593280 ∨ 4223371679 < a) :
    Calls Tryz.prog 9 #[exV e, .int .i64 a] w fun x w' => NextPost e a x ∧ Below w.heap.size w w' := by
  have HP : Hid (NextIs e a 0 1) := .inl ⟨h, rfl, rfl⟩
  unfold exV
  go_enter Tryz.func9, Tryz.ntmps9
  go_wp2_with fail
  go_at_call 19
  refine (of_out a _ h).mono ?_
  rintro x w1 ⟨rfl, hb1⟩
  have hbel : Below w.heap.size w w1 := ((Below.refl _ _).alloc (Nat.le_refl _) _).trans (hb1.mono (by simp))
  clear h hb1
  go_wp2
  go_ret2
  exact ⟨⟨_, _, rfl, HP.out⟩, bmore hbel _⟩

set_option maxHeartbeats 2000000 in
set_option maxRecDepth 100000 in
theorem next_in_any (e : Ex) (a : Int) (w : World) (he : ExOk e) (h1 : -1035593280 ≤ a) (h2 : a ≤ 4223371679) (hT : TabAt 2 Lib.deBruijn64tab w) :
    Calls Tryz.prog 9 #[exV e, .int .i64 a] w fun x w' => NextPost e a x ∧ Below w.heap.size w w' := by
  have hmf : ∀ (fn : Fn) (first cap : Array Value) (w : World), (Instr.makeFunc fn first cap).run Tryz.prog w = .ok (.func fn first cap) w := fun _ _ _ _ => rfl
  have HE : Hid (ExOk e) := he
  obtain ⟨mi, ho, da, mo, wk, ad, aw⟩ := e
  clear he
  unfold exV
  have HP0 : Hid (NoneTo ⟨mi, ho, da, mo, wk, ad, aw⟩ a (a + 1)) := noneTo_start _ a
  go_enter Tryz.func9, Tryz.ntmps9
  go_wp2_with fail
  go_at_call 19
  refine (of_in a _ _ _ _ h1 h2 rfl rfl rfl).mono ?_
  rintro x w1 ⟨⟨y, m, d, rfl, hd⟩, hb1⟩
  have hbel : Below w.heap.size w w1 := ((Below.refl _ _).alloc (Nat.le_refl _) _).trans (hb1.mono (by simp))
  have hB := keepN hb1
  have hz := size1 hb1
  clear hb1 hd
  go_wp2
  go_loopg [9] (a + 4216321 - (a + 1)).toNat (fun gk t wr => ∃ p : Int, t = .int .i64 p ∧ a < p ∧ p ≤ a + 4217761 ∧ NoneTo ⟨mi, ho, da, mo, wk, ad, aw⟩ a p ∧ gk = (a + 4216321 - p).toNat ∧ Below w.heap.size w wr ∧ w.heap.size < wr.heap.size ∧
    ∀ o, wr.cell? ⟨w.heap.size, o, none⟩ = #[Value.int IntKind.u64 mi, Value.int IntKind.u64 ho, Value.int IntKind.u64 da, Value.int IntKind.u64 mo, Value.int IntKind.u64 wk, Value.bool ad, Value.bool aw][o]?)
  case atStart => exact ⟨a + 1, rfl, by omega, by omega, HP0.out, rfl, bmore hbel _, by simp; omega, fun o => (alloc_old _ _ hz o).trans (hB o)⟩
  case round =>
    clear hbel hB hz HP0
    obtain ⟨p, rfl, hp1, hp2, hN, hgk, hbel, hz, hB⟩ := hrel
    have HG := Lib.hid hgk
    have HN : Hid (NoneTo ⟨mi, ho, da, mo, wk, ad, aw⟩ a p) := hN
    clear hgk hN
    by_cases c1 : p ≤ a + 4216320
    · by_cases c2 : p ≤ 4223371679
      · obtain ⟨D, hD⟩ : ∃ D, (p + 1035593280) / 1440 = D := ⟨_, rfl⟩
        obtain ⟨R, hR⟩ : ∃ R, (p + 1035593280) % 1440 = R := ⟨_, rfl⟩
        obtain ⟨M, hM⟩ : ∃ M, (p + 1035593280) % 60 = M := ⟨_, rfl⟩
        have hRb : 0 ≤ R ∧ R < 1440 := by omega
        have hMb : 0 ≤ M ∧ M < 60 := by omega
        obtain ⟨K, hK⟩ : ∃ K : Nat, (D + 1) % 7 = K := ⟨((D + 1) % 7).toNat, by omega⟩
        have hKb : K ≤ 6 := by omega
        obtain ⟨f, hf⟩ : ∃ f : Nat, p % 1440 = f := ⟨(p % 1440).toNat, by omega⟩
        obtain ⟨F, hF⟩ : ∃ F, p - p % 1440 = F := ⟨_, rfl⟩
        have hpf : p - F = f := by omega
        have hfb : f < 1440 := by omega
        have HD := Lib.hid hD
        have HR := Lib.hid hR
        have HM := Lib.hid hM
        have HK := Lib.hid hK
        have Hf := Lib.hid hf
        have HF := Lib.hid hF
        clear hD hR hM hK hf hF
        go_wp2_with fail
        go_at_call 19
        refine (of_in p D R M _ (by omega) c2 HD HR HM).mono ?_
        rintro x w2 ⟨⟨y, m, d, hx, hd⟩, hb2⟩
        rw [HK.out] at hx
        obtain ⟨m', hm'⟩ : ∃ m' : Nat, m = m' := ⟨m.toNat, by have := hd.m1; omega⟩
        obtain ⟨d', hd'⟩ : ∃ d' : Nat, d = d' := ⟨d.toNat, by have := hd.d1; omega⟩
        subst hm'
        subst hd'
        have hm12 : m' ≤ 12 := by have := hd.m12; omega
        have hd31 : d' ≤ 31 := by have := hd.dd; have := dm_bd y m'; omega
        subst hx
        have HDAY := Lib.hid hd
        have hbel2 := bthen hbel hb2
        have hB2 := fun o => (keep0 hb2 hz o).trans (hB o)
        have hz2 : w.heap.size < w2.heap.size := Nat.lt_of_lt_of_le hz hb2.size
        have hT2 := hT.below hbel2
        clear hb2 hB hz hbel hd
        go_wp2_with fail
        go_at_call 20
        refine (fits_any mi ho da mo wk ad aw m' d' K y (R / 60) M _ hm12 hd31 hKb HE.out.da HE.out.mo HE.out.wk).mono ?_
        obtain ⟨ok, hok⟩ : ∃ ok, dayOk da mo wk ad aw m' d' K = ok := ⟨_, rfl⟩
        rw [hok]
        have HOK : Hid (dayOk da mo wk ad aw (m' : Int).toNat (d' : Int).toNat ((D + 1) % 7).toNat = ok) := by show _ = _; rw [HK.out]; simpa using hok
        clear hok
        rintro x w3 ⟨rfl, hb3⟩
        have hbel3 := bthen (bmore hbel2 _) hb3
        have hB3 := fun o => (keep1 hb3 hz2 o).trans (hB2 o)
        have hz3 : w.heap.size < w3.heap.size := by have := size1 hb3; omega
        have hT3 := hT.below hbel3
        clear hb3 hB2 hbel2 hz2 hT2
        cases ok with
        | false =>
          have HN2 := Lib.hid (next_skip HD.out HDAY.out HN.out HOK.out)
          clear HN HOK HDAY hT3
          go_wp2_with fail
          go_at_call 22
          refine (floor_any p _ (by omega) (by omega)).mono ?_
          rintro x w4 ⟨rfl, rfl⟩
          rw [HF.out]
          go_wp2
          go_roundg (a + 4216321 - (F + 1440)).toNat
          case measure => have := HG.out; omega
          case rel => exact ⟨F + 1440, rfl, by omega, by omega, by have := HN2.out; rw [HF.out] at this; exact this, rfl, hbel3, hz3, hB3⟩
        | true =>
          go_wp2_with fail
          go_at_call 22
          refine (floor_any p _ (by omega) (by omega)).mono ?_
          rintro x w4 ⟨rfl, rfl⟩
          rw [HF.out]
          go_wp2_with fail
          go_at_call 21
          refine (early_any ⟨mi, ho, da, mo, wk, ad, aw⟩ f _ HE.out hfb hT3).mono ?_
          rintro x w5 ⟨⟨k, rfl, hk⟩, hb5⟩
          have HKK : Hid (IsEarly ho mi (p % 1440).toNat k) := by show IsEarly _ _ _ _; rw [Hf.out]; exact hk
          have hbel5 := bthen hbel3 hb5
          have hB5 := fun o => (keep0 hb5 hz3 o).trans (hB3 o)
          have hz5 : w.heap.size < w5.heap.size := Nat.lt_of_lt_of_le hz3 hb5.size
          clear hb5 hk hB3 hbel3 hz3 hT3
          by_cases c3 : k < 0
          · have hk1 : k = -1 := by
              rcases HKK.out with ⟨h, -⟩ | ⟨n, h, -⟩
              · exact h
              · omega
            subst hk1
            have HN2 := Lib.hid (next_none HD.out HDAY.out HN.out HKK.out)
            clear HN HOK HDAY HKK c3
            go_wp2_with fail
            go_at_call 22
            refine (floor_any p _ (by omega) (by omega)).mono ?_
            rintro x w6 ⟨rfl, rfl⟩
            rw [HF.out]
            go_wp2
            go_roundg (a + 4216321 - (F + 1440)).toNat
            case measure => have := HG.out; omega
            case rel => exact ⟨F + 1440, rfl, by omega, by omega, by have := HN2.out; rw [HF.out] at this; exact this, rfl, hbel5, hz5, hB5⟩
          · obtain ⟨n, rfl⟩ : ∃ n : Nat, k = n := ⟨k.toNat, by omega⟩
            have hn14 : n < 1440 := by
              rcases HKK.out with ⟨h, -⟩ | ⟨q, h, h2, h3, -⟩
              · omega
              · omega
            clear c3
            go_wp2_with fail
            go_at_call 22
            refine (floor_any p _ (by omega) (by omega)).mono ?_
            rintro x w6 ⟨rfl, rfl⟩
            rw [HF.out]
            by_cases c4 : F + n ≤ a + 4216320
            · have HR2 := Lib.hid (next_hit hp1 (by omega) c2 HD.out HDAY.out HN.out h1 h2 HOK.out n HKK.out (by rw [HF.out]; exact c4))
              clear HN HOK HDAY HKK
              go_wp2
              go_ret2
              exact ⟨⟨_, _, rfl, by have := HR2.out; rw [HF.out] at this; exact this⟩, hbel5⟩
            · have HN2 := Lib.hid (next_far HD.out HDAY.out HN.out n HKK.out (by rw [HF.out]; omega))
              clear HN HOK HDAY HKK
              go_wp2_with fail
              go_at_call 22
              refine (floor_any p _ (by omega) (by omega)).mono ?_
              rintro x w6 ⟨rfl, rfl⟩
              rw [HF.out]
              go_wp2
              go_roundg (a + 4216321 - (F + 1440)).toNat
              case measure => have := HG.out; omega
              case rel => exact ⟨F + 1440, rfl, by omega, by omega, by have := HN2.out; rw [HF.out] at this; exact this, rfl, hbel5, hz5, hB5⟩
      · have HR2 := Lib.hid (next_out h1 h2 HN.out (.inl (by omega)))
        go_wp2_with fail
        go_at_call 19
        refine (of_out p _ (.inr (by omega))).mono ?_
        rintro x w2 ⟨rfl, hb2⟩
        have hbel2 := bthen hbel hb2
        clear hb2 hbel hB hz
        go_wp2
        go_ret2
        exact ⟨⟨_, _, rfl, HR2.out⟩, bmore hbel2 _⟩
    · have HR2 := Lib.hid (next_out h1 h2 HN.out (.inr (by omega)))
      clear hB hz
      go_wp2
      go_ret2
      exact ⟨⟨_, _, rfl, HR2.out⟩, hbel⟩

theorem next_any (e : Ex) (a : Int) (w : World) (he : ExOk e) (hT : TabAt 2 Lib.deBruijn64tab w) :
    Calls Tryz.prog 9 #[exV e, .int .i64 a] w fun x w' => NextPost e a x ∧ Below w.heap.size w w' := by
  by_cases h1 : -1035593280 ≤ a
  · by_cases h2 : a ≤ 4223371679
    · exact next_in_any e a w he h1 h2 hT
    · exact next_out_any e a w (by omega)
  · exact next_out_any e a w (by omega)
end Go.Proofs.YtlldcoldnojbjaaGreatDoor.Cron
