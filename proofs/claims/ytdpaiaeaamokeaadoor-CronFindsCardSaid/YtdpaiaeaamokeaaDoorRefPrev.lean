/- The contract of the reference's Prev. -/
import Derived.Test.YtdpaiaeaamokeaaDoorRefNextP
namespace Go.Proofs.YtdpaiaeaamokeaaDoor.Cron
open Go.RowKit Go Go.Proofs.YtdpaiaeaamokeaaDoor.Cal

set_option maxHeartbeats 1000000 in
set_option maxRecDepth 100000 in
theorem rprev_out_any (e : Ex) (u a : Int) (w : World) (h0 : -9223372036854775808 ≤ u) (h9 : u ≤ 9223372036854775807) (h : u < -1035593280 ∨ 4223371679 < u) :
    Calls Tryd.prog 45 #[exV e, .int .i64 u, .int .i64 a] w fun x w' => PrevPost e u a x ∧ Below w.heap.size w w' := by
  have HP : Hid (PrevIs e u a 0 1) := .inl ⟨by omega, rfl, rfl⟩
  unfold exV
  go_enter Tryd.func45, Tryd.ntmps45
  go_wp2_with fail
  go_at_call 74
  refine (rof_out u _ h0 h9 h).mono ?_
  rintro x w1 ⟨rfl, hb1⟩
  have hbel : Below w.heap.size w w1 := bthen (bmore (Below.refl _ _) _) hb1
  clear h hb1
  go_wp2
  go_ret2
  exact ⟨⟨_, _, rfl, HP.out⟩, bmore hbel _⟩
set_option maxHeartbeats 1000000 in
set_option maxRecDepth 100000 in
theorem rprev_arg_any (e : Ex) (u a : Int) (w : World) (h1 : -1035593280 ≤ u) (h2 : u ≤ 4223371679) (h : u ≤ a) :
    Calls Tryd.prog 45 #[exV e, .int .i64 u, .int .i64 a] w fun x w' => PrevPost e u a x ∧ Below w.heap.size w w' := by
  have HP : Hid (PrevIs e u a 0 1) := .inl ⟨by omega, rfl, rfl⟩
  unfold exV
  go_enter Tryd.func45, Tryd.ntmps45
  go_wp2_with fail
  go_at_call 74
  refine (rof_in u _ _ _ h1 h2 rfl rfl).mono ?_
  rintro x w1 ⟨⟨y, m, d, rfl, hd⟩, hb1⟩
  have hbel : Below w.heap.size w w1 := bthen (bmore (Below.refl _ _) _) hb1
  clear hb1 hd
  go_wp2
  go_ret2
  exact ⟨⟨_, _, rfl, HP.out⟩, bmore hbel _⟩

set_option maxHeartbeats 2000000 in
set_option maxRecDepth 100000 in
theorem rprev_in_any (e : Ex) (u a l : Int) (w : World) (he : ExOk e) (h1 : -1035593280 ≤ u) (h2 : u ≤ 4223371679) (ha : a < u) (h0 : -9223372036854775808 ≤ a) (hl : l = a + 1 ∨ l = u - 4216320) (hl1 : a + 1 ≤ l) (hl2 : u - 4216320 ≤ l) :
    Calls Tryd.prog 45 #[exV e, .int .i64 u, .int .i64 a] w fun x w' => PrevPost e u a x ∧ Below w.heap.size w w' := by
  have HE : Hid (ExOk e) := he
  obtain ⟨mi, ho, da, mo, wk, ad, aw⟩ := e
  clear he
  unfold exV
  obtain ⟨R0, hR0⟩ : ∃ R, u % 1440 = R := ⟨_, rfl⟩
  have hR0b : 0 ≤ R0 ∧ R0 < 1440 := by omega
  obtain ⟨H0, hH0⟩ : ∃ H : Int, R0 / 60 = H := ⟨_, rfl⟩
  obtain ⟨I0, hI0⟩ : ∃ I : Int, R0 % 60 = I := ⟨_, rfl⟩
  have hHb : 0 ≤ H0 ∧ H0 ≤ 23 := by omega
  have hIb : 0 ≤ I0 ∧ I0 ≤ 59 := by omega
  have HHI : Hid (H0 * 60 + I0 = R0) := by show _ = _; omega
  have HL : Hid (l = a + 1 ∨ l = u - 4216320) := hl
  clear hl
  have HP0 : Hid (NoneBack ⟨mi, ho, da, mo, wk, ad, aw⟩ u (u - H0 * 60 - I0 + (H0 * 60 + I0)) l) := by show NoneBack _ _ _ _; rw [show u - H0 * 60 - I0 + (H0 * 60 + I0) = u by omega]; exact noneBack_start _ _ _
  have HB0 : Hid ((u - H0 * 60 - I0) % 1440 = 0) := by show _ = _; omega
  have HR0 := Lib.hid hR0
  have HH0 := Lib.hid hH0
  have HI0 := Lib.hid hI0
  clear hR0 hH0 hI0
  go_enter Tryd.func45, Tryd.ntmps45
  go_wp2_with fail
  go_at_call 74
  refine (rof_in u _ _ _ h1 h2 rfl HR0).mono ?_
  rintro x w1 ⟨⟨y, m, d, hx, hd⟩, hb1⟩
  obtain ⟨K0, hK0⟩ : ∃ K : Int, (u / 1440 + 719162 + 1) % 7 = K := ⟨_, rfl⟩
  rw [HH0.out, HI0.out, hK0] at hx
  subst hx
  have hbel : Below w.heap.size w w1 := bthen (bmore (Below.refl _ _) _) hb1
  have hB := keepN hb1
  have hz := size1 hb1
  clear hb1 hd
  clear hK0
  go_wp2
  go_loopg [10, 11] (u - H0 * 60 - I0 + 2000000000).toNat (fun gk t u2 wr => ∃ (p f : Int) (z0 z1 z2 z3 z4 z5 : Value), t = .int .i64 p ∧ u2 = .int .i64 f ∧ 0 ≤ f ∧ f < 1440 ∧ p + f ≤ u ∧ -1035594720 ≤ p ∧ Hid (p % 1440 = 0) ∧ Hid (NoneBack ⟨mi, ho, da, mo, wk, ad, aw⟩ u (p + f) l) ∧ gk = (p + 2000000000).toNat ∧ Below w.heap.size w wr ∧ w.heap.size < w1.heap.size ∧ w1.heap.size < wr.heap.size ∧
    (∀ o, wr.cell? ⟨w.heap.size, o, none⟩ = #[Value.int IntKind.u64 mi, Value.int IntKind.u64 ho, Value.int IntKind.u64 da, Value.int IntKind.u64 mo, Value.int IntKind.u64 wk, Value.bool ad, Value.bool aw][o]?) ∧
    (∀ o, wr.cell? ⟨w1.heap.size, o, none⟩ = (#[z0, z1, z2, z3, z4, z5] : Array Value)[o]?) ∧ (∀ o, wr.frozen? ⟨w1.heap.size, o, none⟩ = false))
  case atStart => exact ⟨_, _, _, _, _, _, _, _, rfl, rfl, by omega, by omega, by omega, by omega, HB0, HP0, rfl, bmore hbel _, hz, by simp, fun o => (alloc_old _ _ hz o).trans (hB o), alloc_new _ _ _, keepF (Below.refl _ _)⟩
  case round =>
    clear hbel hB hz HP0 HB0
    obtain ⟨p, f, z0, z1, z2, z3, z4, z5, rfl, rfl, hf0, hf9, hpf, hp2, HB0, HN, hgk, hbel, hz, hzd, hB, hD, hF⟩ := hrel
    have HG := Lib.hid hgk
    clear hgk
    by_cases c1 : u - p ≤ 4217760 ∧ a < p + 1440
    · obtain ⟨c1a, c1b⟩ := c1
      by_cases hp1 : -1035593280 ≤ p
      · obtain ⟨D, hDD⟩ : ∃ D, p / 1440 + 719162 = D := ⟨_, rfl⟩
        obtain ⟨K, hK⟩ : ∃ K : Nat, (D + 1) % 7 = K := ⟨((D + 1) % 7).toNat, by omega⟩
        have hKb : K ≤ 6 := by omega
        have HD := Lib.hid hDD
        have HK := Lib.hid hK
        clear hDD hK
        go_wp2_with fail
        go_at_call 74
        refine (rof_in p D _ _ hp1 (by omega) HD rfl).mono ?_
        rintro x w2 ⟨⟨y2, m2, d2, hx, hd⟩, hb2⟩
        rw [HB0.out, HK.out] at hx
        obtain ⟨m', hm'⟩ : ∃ m' : Nat, m2 = m' := ⟨m2.toNat, by have := hd.m1; omega⟩
        obtain ⟨d', hd'⟩ : ∃ d' : Nat, d2 = d' := ⟨d2.toNat, by have := hd.d1; omega⟩
        subst hm'
        subst hd'
        have hm12 : m' ≤ 12 := by have := hd.m12; omega
        have hd31 : d' ≤ 31 := by have := hd.dd; have := dm_bd y2 m'; omega
        subst hx
        have HDAY := Lib.hid hd
        have hbel2 := bthen hbel hb2
        have hB2 := fun o => (keep0 hb2 (Nat.lt_trans hz hzd) o).trans (hB o)
        have hD2 := fun o => (keep0 hb2 hzd o).trans (hD o)
        have hF2 := fun o => (keepF0 hb2 hzd o).trans (hF o)
        have hzd2 : w1.heap.size < w2.heap.size := Nat.lt_of_lt_of_le hzd hb2.size
        clear hb2 hB hD hF hzd hbel hd
        have hsS := isSome_setCell
        have hsC := cell_same
        have hsT := setCell_twice
        have hne : w.heap.size ≠ w1.heap.size := by omega
        have hsA := fun W => set_away W hne
        go_wp2_with fail
        go_at_call 75
        refine (rday_any ⟨mi, ho, da, mo, wk, ad, aw⟩ m' d' K _ HE.out hm12 hd31 hKb).mono ?_
        dsimp only
        obtain ⟨ok, hok⟩ : ∃ ok, dayOk da mo wk ad aw m' d' K = ok := ⟨_, rfl⟩
        rw [hok]
        have HOK : Hid (dayOk da mo wk ad aw (m' : Int).toNat (d' : Int).toNat ((D + 1) % 7).toNat = ok) := by show _ = _; rw [HK.out]; simpa using hok
        clear hok
        rintro x w3 ⟨rfl, hb3⟩
        have hzs : w2.heap.size ≤ w3.heap.size := by have := hb3.size; simpa [World.setCell] using this
        have hz5 : ∀ (W : World) (a : Addr) (v : Value), (W.setCell a v).heap.size = W.heap.size := fun W a v => by simp [World.setCell]
        have hbel3 : Below w.heap.size w w3 := by
          refine (bset (bset (bset (bset (bset (bset hbel2 (a := ⟨w1.heap.size, 0, none⟩) (Nat.le_of_lt hz) _) (a := ⟨w1.heap.size, 1, none⟩) (Nat.le_of_lt hz) _) (a := ⟨w1.heap.size, 2, none⟩) (Nat.le_of_lt hz) _) (a := ⟨w1.heap.size, 3, none⟩) (Nat.le_of_lt hz) _) (a := ⟨w1.heap.size, 4, none⟩) (Nat.le_of_lt hz) _) (a := ⟨w1.heap.size, 5, none⟩) (Nat.le_of_lt hz) _).trans (hb3.mono ?_)
          simp only [hz5]; exact hbel2.size
        have hB3 := fun o => ((keep0 hb3 (by simp only [hz5]; omega) o).trans (set6_away hne _ rfl o)).trans (hB2 o)
        have hD3 := fun o => (keep0 hb3 (by simp only [hz5]; omega) o).trans (set6_cells hD2 _ rfl o)
        have hF3 := fun o => (keepF0 hb3 (by simp only [hz5]; omega) o).trans (set6_frozen hF2 _ rfl o)
        have hzd3 : w1.heap.size < w3.heap.size := by omega
        clear hb3 hB2 hD2 hF2 hzd2 hbel2 hz5 hsS hsC hsT hsA hzs hne
        cases ok with
        | false =>
          have HN2 := Lib.hid (rprev_skip HB0.out hf0 hf9 HD.out HDAY.out HN.out HOK.out)
          have HB2 : Hid ((p - 1440) % 1440 = 0) := by have := HB0.out; show _ = _; omega
          clear HN HOK HDAY HB0
          go_wp2
          go_roundg (p - 1440 + 2000000000).toNat
          case measure => have := HG.out; omega
          case rel => exact ⟨p - 1440, 1439, _, _, _, _, _, _, rfl, rfl, by omega, by omega, by omega, by omega, HB2, HN2, rfl, hbel3, hz, hzd3, hB3, hD3, hF3⟩
        | true =>
          obtain ⟨fn, rfl⟩ : ∃ fn : Nat, f = fn := ⟨f.toNat, by omega⟩
          go_wp2_with fail
          go_at_call 78
          refine (indayback_any ⟨mi, ho, da, mo, wk, ad, aw⟩ fn _ HE.out (by omega)).mono ?_
          rintro x w5 ⟨⟨k, rfl, hk⟩, hb5⟩
          have HKK : Hid (IsLate ho mi (fn : Int).toNat k) := by show IsLate _ _ _ _; rw [Int.toNat_natCast]; exact hk
          have hkr := late_range (by omega) hk
          have hbel5 := bthen hbel3 hb5
          have hB5 := fun o => (keep0 hb5 (Nat.lt_trans hz hzd3) o).trans (hB3 o)
          have hD5 := fun o => (keep0 hb5 hzd3 o).trans (hD3 o)
          have hF5 := fun o => (keepF0 hb5 hzd3 o).trans (hF3 o)
          have hzd5 := Nat.lt_of_lt_of_le hzd3 hb5.size
          clear hb5 hk hB3 hD3 hF3 hbel3 hzd3
          by_cases c3 : k < 0
          · obtain rfl : k = -1 := by omega
            have HN2 := Lib.hid (rprev_none HB0.out hf0 hf9 HD.out HDAY.out HN.out HKK.out)
            have HB2 : Hid ((p - 1440) % 1440 = 0) := by have := HB0.out; show _ = _; omega
            clear HN HOK HDAY HKK c3 HB0 hkr
            go_wp2
            go_roundg (p - 1440 + 2000000000).toNat
            case measure => have := HG.out; omega
            case rel => exact ⟨p - 1440, 1439, _, _, _, _, _, _, rfl, rfl, by omega, by omega, by omega, by omega, HB2, HN2, rfl, hbel5, hz, hzd5, hB5, hD5, hF5⟩
          · obtain ⟨n, rfl⟩ : ∃ n : Nat, k = n := ⟨k.toNat, by omega⟩
            by_cases c4 : p + n ≤ a
            · have HR2 := Lib.hid (rprev_far HB0.out hf0 hf9 HD.out HDAY.out HN.out n HKK.out (by omega) HL.out hl1 hl2 ha h1 h2)
              clear HN HOK HDAY HKK HB0
              go_wp2
              go_ret2
              exact ⟨⟨_, _, rfl, HR2.out⟩, hbel5⟩
            · by_cases c5 : 4216320 < u - p - n
              · have HR2 := Lib.hid (rprev_far HB0.out hf0 hf9 HD.out HDAY.out HN.out n HKK.out (by omega) HL.out hl1 hl2 ha h1 h2)
                clear HN HOK HDAY HKK HB0
                go_wp2
                go_ret2
                exact ⟨⟨_, _, rfl, HR2.out⟩, hbel5⟩
              · have HR2 := Lib.hid (rprev_hit HB0.out hf0 hf9 HD.out HDAY.out HN.out hpf hp1 (by omega) a HL.out hl1 hl2 ha h1 h2 HOK.out n HKK.out (by have := HL.out; omega))
                clear HN HOK HDAY HKK HB0
                go_wp2
                go_ret2
                exact ⟨⟨_, _, rfl, HR2.out⟩, hbel5⟩
      · have HR2 := Lib.hid (prev_out HL.out hl1 hl2 ha h1 h2 HN.out (.inl (by have := HB0.out; omega)))
        go_wp2_with fail
        go_at_call 74
        refine (rof_out p _ (by omega) (by omega) (.inl (by omega))).mono ?_
        rintro x w2 ⟨rfl, hb2⟩
        have hbel2 := bthen hbel hb2
        have hD2 := fun o => (keep0 hb2 hzd o).trans (hD o)
        have hF2 := fun o => (keepF0 hb2 hzd o).trans (hF o)
        clear hb2 hbel hB hD hF
        have hsS := isSome_setCell
        go_wp2
        go_ret2
        refine ⟨⟨_, _, rfl, HR2.out⟩, ?_⟩
        exact bset (bset (bset (bset (bset (bset hbel2 (a := ⟨w1.heap.size, 0, none⟩) (Nat.le_of_lt hz) _) (a := ⟨w1.heap.size, 1, none⟩) (Nat.le_of_lt hz) _) (a := ⟨w1.heap.size, 2, none⟩) (Nat.le_of_lt hz) _) (a := ⟨w1.heap.size, 3, none⟩) (Nat.le_of_lt hz) _) (a := ⟨w1.heap.size, 4, none⟩) (Nat.le_of_lt hz) _) (a := ⟨w1.heap.size, 5, none⟩) (Nat.le_of_lt hz) _
    · have HR2 := Lib.hid (prev_out HL.out hl1 hl2 ha h1 h2 HN.out (.inr (by omega)))
      clear hB hD hF
      by_cases c1a : u - p ≤ 4217760
      · have c1b : ¬ a < p + 1440 := fun h => c1 ⟨c1a, h⟩
        clear c1
        go_wp2
        go_ret2
        exact ⟨⟨_, _, rfl, HR2.out⟩, hbel⟩
      · clear c1
        go_wp2
        go_ret2
        exact ⟨⟨_, _, rfl, HR2.out⟩, hbel⟩

theorem rprev_any (e : Ex) (u a : Int) (w : World) (he : ExOk e) (hu0 : -9223372036854775808 ≤ u) (hu9 : u ≤ 9223372036854775807) (h0 : -9223372036854775808 ≤ a) :
    Calls Tryd.prog 45 #[exV e, .int .i64 u, .int .i64 a] w fun x w' => PrevPost e u a x ∧ Below w.heap.size w w' := by
  by_cases h1 : -1035593280 ≤ u
  · by_cases h2 : u ≤ 4223371679
    · by_cases h3 : a < u
      · exact rprev_in_any e u a (max (a + 1) (u - 4216320)) w he h1 h2 h3 h0 (by omega) (by omega) (by omega)
      · exact rprev_arg_any e u a w h1 h2 (by omega)
    · exact rprev_out_any e u a w hu0 hu9 (by omega)
  · exact rprev_out_any e u a w hu0 hu9 (by omega)
end Go.Proofs.YtdpaiaeaamokeaaDoor.Cron
