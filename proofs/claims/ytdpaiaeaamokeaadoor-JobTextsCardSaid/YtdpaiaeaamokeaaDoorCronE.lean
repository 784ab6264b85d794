/- Joined: CronNextP, CronNext, CronPrev. -/
import Derived.Test.YtdpaiaeaamokeaaDoorCronC
namespace Go.Proofs.YtdpaiaeaamokeaaDoor.Cron
open Go.RowKit Go Go.Proofs.YtdpaiaeaamokeaaDoor.Cal

/-- What Next answers. -/
def NextIs (e : Ex) (a r c : Int) : Prop :=
  ((a < -1035593280 ∨ 4223371679 < a) ∧ r = 0 ∧ c = 1) ∨
  (-1035593280 ≤ a ∧ a ≤ 4223371679 ∧ c = 0 ∧ a < r ∧ r ≤ a + 4216320 ∧ isMatch e r ∧ ∀ m, a < m → m < r → ¬ isMatch e m) ∨
  (-1035593280 ≤ a ∧ a ≤ 4223371679 ∧ c = 28 ∧ r = 0 ∧ ∀ m, a < m → m ≤ a + 4216320 → ¬ isMatch e m)
def NextPost (e : Ex) (a : Int) (x : Ending) : Prop := ∃ r c : Int, x = .returned (.tuple #[.int .i64 r, .int .i64 c]) ∧ NextIs e a r c
/-- What Prev answers. -/
def PrevIs (e : Ex) (u a r c : Int) : Prop :=
  ((u < -1035593280 ∨ 4223371679 < u ∨ u ≤ a) ∧ r = 0 ∧ c = 1) ∨
  (-1035593280 ≤ u ∧ u ≤ 4223371679 ∧ a < u ∧ c = 0 ∧ a < r ∧ u - 4216320 ≤ r ∧ r ≤ u ∧ isMatch e r ∧ ∀ m, r < m → m ≤ u → ¬ isMatch e m) ∨
  (-1035593280 ≤ u ∧ u ≤ 4223371679 ∧ a < u ∧ c = 28 ∧ r = 0 ∧ ∀ m, a < m → u - 4216320 ≤ m → m ≤ u → ¬ isMatch e m)
def PrevPost (e : Ex) (u a : Int) (x : Ending) : Prop := ∃ r c : Int, x = .returned (.tuple #[.int .i64 r, .int .i64 c]) ∧ PrevIs e u a r c

theorem NextIs.uniq {e : Ex} {a r c r' c' : Int} (h : NextIs e a r c) (h' : NextIs e a r' c') : r = r' ∧ c = c' := by
  rcases h with ⟨h, h1, h2⟩ | ⟨h1, h2, h3, h4, h5, h6, h7⟩ | ⟨h1, h2, h3, h4, h5⟩ <;> rcases h' with ⟨k, k1, k2⟩ | ⟨k1, k2, k3, k4, k5, k6, k7⟩ | ⟨k1, k2, k3, k4, k5⟩
  any_goals omega
  · refine ⟨?_, by omega⟩
    rcases Int.lt_trichotomy r r' with hh | hh | hh
    · exact absurd h6 (k7 r h4 hh)
    · exact hh
    · exact absurd k6 (h7 r' k4 hh)
  · exact absurd h6 (k5 r h4 h5)
  · exact absurd k6 (h5 r' k4 k5)
theorem PrevIs.uniq {e : Ex} {u a r c r' c' : Int} (h : PrevIs e u a r c) (h' : PrevIs e u a r' c') : r = r' ∧ c = c' := by
  rcases h with ⟨h, h1, h2⟩ | ⟨h1, h2, h3, h4, h5, h6, h7, h8, h9⟩ | ⟨h1, h2, h3, h4, h5, h6⟩ <;> rcases h' with ⟨k, k1, k2⟩ | ⟨k1, k2, k3, k4, k5, k6, k7, k8, k9⟩ | ⟨k1, k2, k3, k4, k5, k6⟩
  any_goals omega
  · refine ⟨?_, by omega⟩
    rcases Int.lt_trichotomy r r' with hh | hh | hh
    · exact absurd k8 (h9 r' hh k7)
    · exact hh
    · exact absurd h8 (k9 r hh h7)
  · exact absurd h8 (k6 r h5 h6 h7)
  · exact absurd k8 (h6 r' k5 k6 k7)

theorem match_at (e : Ex) (n D y m d : Int) (h1 : -1035593280 ≤ n) (h2 : n ≤ 4223371679) (hD : (n + 1035593280) / 1440 = D) (hd : IsDay D y m d) :
    isMatch e n ↔ dayOk e.da e.mo e.wk e.ad e.aw m.toNat d.toNat ((D + 1) % 7).toNat = true ∧ mOk e.ho e.mi (n % 1440).toNat = true := by
  have hd' := hd
  rw [← hD] at hd'
  rw [← mt_iff, mt_at e n y m d h1 h2 hd', hD, Bool.and_eq_true, Bool.and_eq_true, mOk, Bool.and_eq_true,
    show ((n + 1035593280) % 1440 / 60).toNat = (n % 1440).toNat / 60 by omega, show ((n + 1035593280) % 60).toNat = (n % 1440).toNat % 60 by omega, and_assoc]

/-- None so far. -/
def NoneTo (e : Ex) (a p : Int) : Prop := ∀ n, a < n → n < p → n ≤ a + 4216320 → ¬ isMatch e n
theorem noneTo_start (e : Ex) (a : Int) : NoneTo e a (a + 1) := fun n h1 h2 => by omega
section
variable {e : Ex} {a p D y m d : Int} (hp : a < p) (h1 : -1035593280 ≤ p) (h2 : p ≤ 4223371679) (hD : (p + 1035593280) / 1440 = D) (hd : IsDay D y m d) (hN : NoneTo e a p)
include hD hd hN
theorem next_skip (hk : dayOk e.da e.mo e.wk e.ad e.aw m.toNat d.toNat ((D + 1) % 7).toNat = false) : NoneTo e a (p - p % 1440 + 1440) := by
  intro n k1 k2 k3 hm
  by_cases hn : n < p
  · exact hN n k1 hn k3 hm
  · have := (match_at e n D y m d hm.1 hm.2.1 (by omega) hd).1 hm
    rw [hk] at this
    exact absurd this.1 (by simp)
theorem next_none (hk : IsEarly e.ho e.mi (p % 1440).toNat (-1)) : NoneTo e a (p - p % 1440 + 1440) := by
  intro n k1 k2 k3 hm
  by_cases hn : n < p
  · exact hN n k1 hn k3 hm
  · have := (match_at e n D y m d hm.1 hm.2.1 (by omega) hd).1 hm
    rcases hk with ⟨-, hk⟩ | ⟨_, hk, -⟩
    · rw [hk _ (by omega) (by omega)] at this
      exact absurd this.2 (by simp)
    · omega
theorem next_far (k : Nat) (hk : IsEarly e.ho e.mi (p % 1440).toNat k) (hf : a + 4216320 < p - p % 1440 + k) : NoneTo e a (p - p % 1440 + 1440) := by
  intro n k1 k2 k3 hm
  by_cases hn : n < p
  · exact hN n k1 hn k3 hm
  · have := (match_at e n D y m d hm.1 hm.2.1 (by omega) hd).1 hm
    rcases hk with ⟨hk, -⟩ | ⟨q, hk, h3, h4, h5, h6⟩
    · omega
    · rw [h6 _ (by omega) (by omega)] at this
      exact absurd this.2 (by simp)
include hp h1 h2
theorem next_hit (ha1 : -1035593280 ≤ a) (ha2 : a ≤ 4223371679) (hok : dayOk e.da e.mo e.wk e.ad e.aw m.toNat d.toNat ((D + 1) % 7).toNat = true) (k : Nat) (hk : IsEarly e.ho e.mi (p % 1440).toNat k) (hf : p - p % 1440 + k ≤ a + 4216320) : NextIs e a (p - p % 1440 + k) 0 := by
  rcases hk with ⟨hk, -⟩ | ⟨q, hk, h3, h4, h5, h6⟩
  · omega
  obtain rfl : k = q := by omega
  refine .inr (.inl ⟨ha1, ha2, rfl, by omega, hf, (match_at e _ D y m d (by omega) (by omega) (by omega) hd).2 ⟨hok, ?_⟩, fun n k1 k2 hm => ?_⟩)
  · rw [show ((p - p % 1440 + (k : Int)) % 1440).toNat = k by omega]; exact h5
  · by_cases hn : n < p
    · exact hN n k1 hn (by omega) hm
    · have := (match_at e n D y m d hm.1 hm.2.1 (by omega) hd).1 hm
      rw [h6 _ (by omega) (by omega)] at this
      exact absurd this.2 (by simp)
end
theorem next_out {e : Ex} {a p : Int} (ha1 : -1035593280 ≤ a) (ha2 : a ≤ 4223371679) (hN : NoneTo e a p) (hp : 4223371679 < p ∨ a + 4216320 < p) : NextIs e a 0 28 :=
  .inr (.inr ⟨ha1, ha2, rfl, rfl, fun n k1 k2 hm => hN n k1 (by have := hm.2.1; omega) k2 hm⟩)

/-- None so far, back. -/
def NoneBack (e : Ex) (u p l : Int) : Prop := ∀ n, p < n → n ≤ u → l ≤ n → ¬ isMatch e n
theorem noneBack_start (e : Ex) (u l : Int) : NoneBack e u u l := fun n h1 h2 => by omega
section
variable {e : Ex} {u p l D y m d : Int} (hp : p ≤ u) (h1 : -1035593280 ≤ p) (h2 : p ≤ 4223371679) (hD : (p + 1035593280) / 1440 = D) (hd : IsDay D y m d) (hN : NoneBack e u p l)
include hD hd hN
theorem prev_skip (hk : dayOk e.da e.mo e.wk e.ad e.aw m.toNat d.toNat ((D + 1) % 7).toNat = false) : NoneBack e u (p - p % 1440 - 1) l := by
  intro n k1 k2 k3 hm
  by_cases hn : p < n
  · exact hN n hn k2 k3 hm
  · have := (match_at e n D y m d hm.1 hm.2.1 (by omega) hd).1 hm
    rw [hk] at this
    exact absurd this.1 (by simp)
theorem prev_none (hk : IsLate e.ho e.mi (p % 1440).toNat (-1)) : NoneBack e u (p - p % 1440 - 1) l := by
  intro n k1 k2 k3 hm
  by_cases hn : p < n
  · exact hN n hn k2 k3 hm
  · have := (match_at e n D y m d hm.1 hm.2.1 (by omega) hd).1 hm
    rcases hk with ⟨-, hk⟩ | ⟨_, hk, -⟩
    · rw [hk _ (by omega)] at this
      exact absurd this.2 (by simp)
    · omega
theorem prev_far (k : Nat) (hk : IsLate e.ho e.mi (p % 1440).toNat k) (hf : p - p % 1440 + k < l) : NoneBack e u (p - p % 1440 - 1) l := by
  intro n k1 k2 k3 hm
  by_cases hn : p < n
  · exact hN n hn k2 k3 hm
  · have := (match_at e n D y m d hm.1 hm.2.1 (by omega) hd).1 hm
    rcases hk with ⟨hk, -⟩ | ⟨q, hk, h3, h5, h6⟩
    · omega
    · rw [h6 _ (by omega) (by omega)] at this
      exact absurd this.2 (by simp)
include hp h1 h2
theorem prev_hit (b : Int) (hl1 : l = b + 1 ∨ l = u - 4216320) (hl2 : b + 1 ≤ l) (hl3 : u - 4216320 ≤ l) (hb : b < u) (hu1 : -1035593280 ≤ u) (hu2 : u ≤ 4223371679) (hok : dayOk e.da e.mo e.wk e.ad e.aw m.toNat d.toNat ((D + 1) % 7).toNat = true) (k : Nat) (hk : IsLate e.ho e.mi (p % 1440).toNat k) (hf : l ≤ p - p % 1440 + k) : PrevIs e u b (p - p % 1440 + k) 0 := by
  rcases hk with ⟨hk, -⟩ | ⟨q, hk, h3, h5, h6⟩
  · omega
  obtain rfl : k = q := by omega
  refine .inr (.inl ⟨hu1, hu2, hb, rfl, by omega, by omega, by omega, (match_at e _ D y m d (by omega) (by omega) (by omega) hd).2 ⟨hok, ?_⟩, fun n k1 k2 hm => ?_⟩)
  · rw [show ((p - p % 1440 + (k : Int)) % 1440).toNat = k by omega]; exact h5
  · by_cases hn : p < n
    · exact hN n hn k2 (by omega) hm
    · have := (match_at e n D y m d hm.1 hm.2.1 (by omega) hd).1 hm
      rw [h6 _ (by omega) (by omega)] at this
      exact absurd this.2 (by simp)
end
theorem prev_out {e : Ex} {u p l b : Int} (hl1 : l = b + 1 ∨ l = u - 4216320) (hl2 : b + 1 ≤ l) (hl3 : u - 4216320 ≤ l) (hb : b < u) (hu1 : -1035593280 ≤ u) (hu2 : u ≤ 4223371679) (hN : NoneBack e u p l) (hp : p < -1035593280 ∨ p < l) : PrevIs e u b 0 28 :=
  .inr (.inr ⟨hu1, hu2, hb, rfl, rfl, fun n k1 k2 k3 hm => hN n (by have := hm.1; omega) k3 (by omega) hm⟩)
end Go.Proofs.YtdpaiaeaamokeaaDoor.Cron

namespace Go.Proofs.YtdpaiaeaamokeaaDoor.Cron
open Go.RowKit Go Go.Proofs.YtdpaiaeaamokeaaDoor.Cal

set_option maxHeartbeats 1000000 in
set_option maxRecDepth 100000 in
theorem next_out_any (e : Ex) (a : Int) (w : World) (h : a < -1035593280 ∨ 4223371679 < a) :
    Calls Tryd.prog 25 #[exV e, .int .i64 a] w fun x w' => NextPost e a x ∧ Below w.heap.size w w' := by
  have HP : Hid (NextIs e a 0 1) := .inl ⟨h, rfl, rfl⟩
  unfold exV
  go_enter Tryd.func25, Tryd.ntmps25
  go_wp2_with fail
  go_at_call 23
  refine (of_out a _ h).mono ?_
  rintro x w1 ⟨rfl, hb1⟩
  have hbel : Below w.heap.size w w1 := ((Below.refl _ _).alloc (Nat.le_refl _) _).trans (hb1.mono (by simp))
  clear h hb1
  go_wp2
  go_ret2
  exact ⟨⟨_, _, rfl, HP.out⟩, bmore hbel _⟩

set_option maxHeartbeats 2000000 in
set_option maxRecDepth 100000 in
theorem next_in_any (e : Ex) (a : Int) (w : World) (he : ExOk e) (h1 : -1035593280 ≤ a) (h2 : a ≤ 4223371679) (hT : TabAt 2 Lib.deBruijn64tab w) :
    Calls Tryd.prog 25 #[exV e, .int .i64 a] w fun x w' => NextPost e a x ∧ Below w.heap.size w w' := by
  have hmf : ∀ (fn : Fn) (first cap : Array Value) (w : World), (Instr.makeFunc fn first cap).run Tryd.prog w = .ok (.func fn first cap) w := fun _ _ _ _ => rfl
  have HE : Hid (ExOk e) := he
  obtain ⟨mi, ho, da, mo, wk, ad, aw⟩ := e
  clear he
  unfold exV
  have HP0 : Hid (NoneTo ⟨mi, ho, da, mo, wk, ad, aw⟩ a (a + 1)) := noneTo_start _ a
  go_enter Tryd.func25, Tryd.ntmps25
  go_wp2_with fail
  go_at_call 23
  refine (of_in a _ _ _ _ h1 h2 rfl rfl rfl).mono ?_
  rintro x w1 ⟨⟨y, m, d, rfl, hd⟩, hb1⟩
  have hbel : Below w.heap.size w w1 := ((Below.refl _ _).alloc (Nat.le_refl _) _).trans (hb1.mono (by simp))
  have hB := keepN hb1
  have hz := size1 hb1
  clear hb1 hd
  go_wp2
  go_loopg [9] (a + 4216321 - (a + 1)).toNat (fun gk t wr => ∃ p : Int, t = .int .i64 p ∧ a < p ∧ p ≤ a + 4217761 ∧ NoneTo ⟨mi, ho, da, mo, wk, ad, aw⟩ a p ∧ gk = (a + 4216321 - p).toNat ∧ Below w.heap.size w wr ∧ w.heap.size < wr.heap.size ∧
    ∀ o, wr.cell? ⟨w.heap.size, o, none⟩ = #[Value.int IntKind.u64 mi, Value.int IntKind.u64 ho, Value.int IntKind.u64 da, Value.int IntKind.u64 mo, Value.int IntKind.u64 wk, Value.bool ad, Value.bool aw][o]?)
  case atStart => exact ⟨a + 1, rfl, by omega, by omega, HP0.out, rfl, bmore hbel _, by simp; omega, fun o => (alloc_old _ _ hz o).trans (hB o)⟩
  case round =>
    clear hbel hB hz HP0
    obtain ⟨p, rfl, hp1, hp2, hN, hgk, hbel, hz, hB⟩ := hrel
    have HG := Lib.hid hgk
    have HN : Hid (NoneTo ⟨mi, ho, da, mo, wk, ad, aw⟩ a p) := hN
    clear hgk hN
    by_cases c1 : p ≤ a + 4216320
    · by_cases c2 : p ≤ 4223371679
      · obtain ⟨D, hD⟩ : ∃ D, (p + 1035593280) / 1440 = D := ⟨_, rfl⟩
        obtain ⟨R, hR⟩ : ∃ R, (p + 1035593280) % 1440 = R := ⟨_, rfl⟩
        obtain ⟨M, hM⟩ : ∃ M, (p + 1035593280) % 60 = M := ⟨_, rfl⟩
        have hRb : 0 ≤ R ∧ R < 1440 := by omega
        have hMb : 0 ≤ M ∧ M < 60 := by omega
        obtain ⟨K, hK⟩ : ∃ K : Nat, (D + 1) % 7 = K := ⟨((D + 1) % 7).toNat, by omega⟩
        have hKb : K ≤ 6 := by omega
        obtain ⟨f, hf⟩ : ∃ f : Nat, p % 1440 = f := ⟨(p % 1440).toNat, by omega⟩
        obtain ⟨F, hF⟩ : ∃ F, p - p % 1440 = F := ⟨_, rfl⟩
        have hpf : p - F = f := by omega
        have hfb : f < 1440 := by omega
        have HD := Lib.hid hD
        have HR := Lib.hid hR
        have HM := Lib.hid hM
        have HK := Lib.hid hK
        have Hf := Lib.hid hf
        have HF := Lib.hid hF
        clear hD hR hM hK hf hF
        go_wp2_with fail
        go_at_call 23
        refine (of_in p D R M _ (by omega) c2 HD HR HM).mono ?_
        rintro x w2 ⟨⟨y, m, d, hx, hd⟩, hb2⟩
        rw [HK.out] at hx
        obtain ⟨m', hm'⟩ : ∃ m' : Nat, m = m' := ⟨m.toNat, by have := hd.m1; omega⟩
        obtain ⟨d', hd'⟩ : ∃ d' : Nat, d = d' := ⟨d.toNat, by have := hd.d1; omega⟩
        subst hm'
        subst hd'
        have hm12 : m' ≤ 12 := by have := hd.m12; omega
        have hd31 : d' ≤ 31 := by have := hd.dd; have := dm_bd y m'; omega
        subst hx
        have HDAY := Lib.hid hd
        have hbel2 := bthen hbel hb2
        have hB2 := fun o => (keep0 hb2 hz o).trans (hB o)
        have hz2 : w.heap.size < w2.heap.size := Nat.lt_of_lt_of_le hz hb2.size
        have hT2 := hT.below hbel2
        clear hb2 hB hz hbel hd
        go_wp2_with fail
        go_at_call 68
        refine (fits_any mi ho da mo wk ad aw m' d' K y (R / 60) M _ hm12 hd31 hKb HE.out.da HE.out.mo HE.out.wk).mono ?_
        obtain ⟨ok, hok⟩ : ∃ ok, dayOk da mo wk ad aw m' d' K = ok := ⟨_, rfl⟩
        rw [hok]
        have HOK : Hid (dayOk da mo wk ad aw (m' : Int).toNat (d' : Int).toNat ((D + 1) % 7).toNat = ok) := by show _ = _; rw [HK.out]; simpa using hok
        clear hok
        rintro x w3 ⟨rfl, hb3⟩
        have hbel3 := bthen (bmore hbel2 _) hb3
        have hB3 := fun o => (keep1 hb3 hz2 o).trans (hB2 o)
        have hz3 : w.heap.size < w3.heap.size := by have := size1 hb3; omega
        have hT3 := hT.below hbel3
        clear hb3 hB2 hbel2 hz2 hT2
        cases ok with
        | false =>
          have HN2 := Lib.hid (next_skip HD.out HDAY.out HN.out HOK.out)
          clear HN HOK HDAY hT3
          go_wp2_with fail
          go_at_call 70
          refine (floor_any p _ (by omega) (by omega)).mono ?_
          rintro x w4 ⟨rfl, rfl⟩
          rw [HF.out]
          go_wp2
          go_roundg (a + 4216321 - (F + 1440)).toNat
          case measure => have := HG.out; omega
          case rel => exact ⟨F + 1440, rfl, by omega, by omega, by have := HN2.out; rw [HF.out] at this; exact this, rfl, hbel3, hz3, hB3⟩
        | true =>
          go_wp2_with fail
          go_at_call 70
          refine (floor_any p _ (by omega) (by omega)).mono ?_
          rintro x w4 ⟨rfl, rfl⟩
          rw [HF.out]
          go_wp2_with fail
          go_at_call 69
          refine (early_any ⟨mi, ho, da, mo, wk, ad, aw⟩ f _ HE.out hfb hT3).mono ?_
          rintro x w5 ⟨⟨k, rfl, hk⟩, hb5⟩
          have HKK : Hid (IsEarly ho mi (p % 1440).toNat k) := by show IsEarly _ _ _ _; rw [Hf.out]; exact hk
          have hbel5 := bthen hbel3 hb5
          have hB5 := fun o => (keep0 hb5 hz3 o).trans (hB3 o)
          have hz5 : w.heap.size < w5.heap.size := Nat.lt_of_lt_of_le hz3 hb5.size
          clear hb5 hk hB3 hbel3 hz3 hT3
          by_cases c3 : k < 0
          · have hk1 : k = -1 := by
              rcases HKK.out with ⟨h, -⟩ | ⟨n, h, -⟩
              · exact h
              · omega
            subst hk1
            have HN2 := Lib.hid (next_none HD.out HDAY.out HN.out HKK.out)
            clear HN HOK HDAY HKK c3
            go_wp2_with fail
            go_at_call 70
            refine (floor_any p _ (by omega) (by omega)).mono ?_
            rintro x w6 ⟨rfl, rfl⟩
            rw [HF.out]
            go_wp2
            go_roundg (a + 4216321 - (F + 1440)).toNat
            case measure => have := HG.out; omega
            case rel => exact ⟨F + 1440, rfl, by omega, by omega, by have := HN2.out; rw [HF.out] at this; exact this, rfl, hbel5, hz5, hB5⟩
          · obtain ⟨n, rfl⟩ : ∃ n : Nat, k = n := ⟨k.toNat, by omega⟩
            have hn14 : n < 1440 := by
              rcases HKK.out with ⟨h, -⟩ | ⟨q, h, h2, h3, -⟩
              · omega
              · omega
            clear c3
            go_wp2_with fail
            go_at_call 70
            refine (floor_any p _ (by omega) (by omega)).mono ?_
            rintro x w6 ⟨rfl, rfl⟩
            rw [HF.out]
            by_cases c4 : F + n ≤ a + 4216320
            · have HR2 := Lib.hid (next_hit hp1 (by omega) c2 HD.out HDAY.out HN.out h1 h2 HOK.out n HKK.out (by rw [HF.out]; exact c4))
              clear HN HOK HDAY HKK
              go_wp2
              go_ret2
              exact ⟨⟨_, _, rfl, by have := HR2.out; rw [HF.out] at this; exact this⟩, hbel5⟩
            · have HN2 := Lib.hid (next_far HD.out HDAY.out HN.out n HKK.out (by rw [HF.out]; omega))
              clear HN HOK HDAY HKK
              go_wp2_with fail
              go_at_call 70
              refine (floor_any p _ (by omega) (by omega)).mono ?_
              rintro x w6 ⟨rfl, rfl⟩
              rw [HF.out]
              go_wp2
              go_roundg (a + 4216321 - (F + 1440)).toNat
              case measure => have := HG.out; omega
              case rel => exact ⟨F + 1440, rfl, by omega, by omega, by have := HN2.out; rw [HF.out] at this; exact this, rfl, hbel5, hz5, hB5⟩
      · have HR2 := Lib.hid (next_out h1 h2 HN.out (.inl (by omega)))
        go_wp2_with fail
        go_at_call 23
        refine (of_out p _ (.inr (by omega))).mono ?_
        rintro x w2 ⟨rfl, hb2⟩
        have hbel2 := bthen hbel hb2
        clear hb2 hbel hB hz
        go_wp2
        go_ret2
        exact ⟨⟨_, _, rfl, HR2.out⟩, bmore hbel2 _⟩
    · have HR2 := Lib.hid (next_out h1 h2 HN.out (.inr (by omega)))
      clear hB hz
      go_wp2
      go_ret2
      exact ⟨⟨_, _, rfl, HR2.out⟩, hbel⟩

theorem next_any (e : Ex) (a : Int) (w : World) (he : ExOk e) (hT : TabAt 2 Lib.deBruijn64tab w) :
    Calls Tryd.prog 25 #[exV e, .int .i64 a] w fun x w' => NextPost e a x ∧ Below w.heap.size w w' := by
  by_cases h1 : -1035593280 ≤ a
  · by_cases h2 : a ≤ 4223371679
    · exact next_in_any e a w he h1 h2 hT
    · exact next_out_any e a w (by omega)
  · exact next_out_any e a w (by omega)
end Go.Proofs.YtdpaiaeaamokeaaDoor.Cron

namespace Go.Proofs.YtdpaiaeaamokeaaDoor.Cron
open Go.RowKit Go Go.Proofs.YtdpaiaeaamokeaaDoor.Cal

set_option maxHeartbeats 1000000 in
set_option maxRecDepth 100000 in
theorem prev_out_any (e : Ex) (u a : Int) (w : World) (h : u < -1035593280 ∨ 4223371679 < u) :
    Calls Tryd.prog 44 #[exV e, .int .i64 u, .int .i64 a] w fun x w' => PrevPost e u a x ∧ Below w.heap.size w w' := by
  have HP : Hid (PrevIs e u a 0 1) := .inl ⟨by omega, rfl, rfl⟩
  unfold exV
  go_enter Tryd.func44, Tryd.ntmps44
  go_wp2_with fail
  go_at_call 23
  refine (of_out u _ h).mono ?_
  rintro x w1 ⟨rfl, hb1⟩
  have hbel : Below w.heap.size w w1 := ((Below.refl _ _).alloc (Nat.le_refl _) _).trans (hb1.mono (by simp))
  clear h hb1
  go_wp2
  go_ret2
  exact ⟨⟨_, _, rfl, HP.out⟩, bmore hbel _⟩
set_option maxHeartbeats 1000000 in
set_option maxRecDepth 100000 in
theorem prev_arg_any (e : Ex) (u a : Int) (w : World) (h1 : -1035593280 ≤ u) (h2 : u ≤ 4223371679) (h : u ≤ a) :
    Calls Tryd.prog 44 #[exV e, .int .i64 u, .int .i64 a] w fun x w' => PrevPost e u a x ∧ Below w.heap.size w w' := by
  have HP : Hid (PrevIs e u a 0 1) := .inl ⟨by omega, rfl, rfl⟩
  unfold exV
  go_enter Tryd.func44, Tryd.ntmps44
  go_wp2_with fail
  go_at_call 23
  refine (of_in u _ _ _ _ h1 h2 rfl rfl rfl).mono ?_
  rintro x w1 ⟨⟨y, m, d, rfl, hd⟩, hb1⟩
  have hbel : Below w.heap.size w w1 := ((Below.refl _ _).alloc (Nat.le_refl _) _).trans (hb1.mono (by simp))
  clear hb1 hd
  go_wp2
  go_ret2
  exact ⟨⟨_, _, rfl, HP.out⟩, bmore hbel _⟩

set_option maxHeartbeats 2000000 in
set_option maxRecDepth 100000 in
theorem prev_in_any (e : Ex) (u a l : Int) (w : World) (he : ExOk e) (h1 : -1035593280 ≤ u) (h2 : u ≤ 4223371679) (ha : a < u) (h0 : -9223372036854775808 ≤ a) (hmax : max (a + 1) (u - 4216320) = l) (hl : l = a + 1 ∨ l = u - 4216320) (hl1 : a + 1 ≤ l) (hl2 : u - 4216320 ≤ l) :
    Calls Tryd.prog 44 #[exV e, .int .i64 u, .int .i64 a] w fun x w' => PrevPost e u a x ∧ Below w.heap.size w w' := by
  have hmf : ∀ (fn : Fn) (first cap : Array Value) (w : World), (Instr.makeFunc fn first cap).run Tryd.prog w = .ok (.func fn first cap) w := fun _ _ _ _ => rfl
  have HE : Hid (ExOk e) := he
  obtain ⟨mi, ho, da, mo, wk, ad, aw⟩ := e
  clear he
  unfold exV
  have HL : Hid (l = a + 1 ∨ l = u - 4216320) := hl
  have HP0 : Hid (NoneBack ⟨mi, ho, da, mo, wk, ad, aw⟩ u u l) := noneBack_start _ _ _
  clear hl
  go_enter Tryd.func44, Tryd.ntmps44
  go_wp2_with fail
  go_at_call 23
  refine (of_in u _ _ _ _ h1 h2 rfl rfl rfl).mono ?_
  rintro x w1 ⟨⟨y, m, d, rfl, hd⟩, hb1⟩
  have hbel : Below w.heap.size w w1 := ((Below.refl _ _).alloc (Nat.le_refl _) _).trans (hb1.mono (by simp))
  have hB := keepN hb1
  have hz := size1 hb1
  clear hb1 hd
  go_wp2
  go_loopg [12] (u + 1 - l).toNat (fun gk t wr => ∃ p : Int, t = .int .i64 p ∧ p ≤ u ∧ l - 1441 ≤ p ∧ NoneBack ⟨mi, ho, da, mo, wk, ad, aw⟩ u p l ∧ gk = (p + 1 - l).toNat ∧ Below w.heap.size w wr ∧ w.heap.size < wr.heap.size ∧
    ∀ o, wr.cell? ⟨w.heap.size, o, none⟩ = #[Value.int IntKind.u64 mi, Value.int IntKind.u64 ho, Value.int IntKind.u64 da, Value.int IntKind.u64 mo, Value.int IntKind.u64 wk, Value.bool ad, Value.bool aw][o]?)
  case atStart => exact ⟨u, rfl, by omega, by omega, HP0.out, rfl, bmore hbel _, by simp; omega, fun o => (alloc_old _ _ hz o).trans (hB o)⟩
  case round =>
    clear hbel hB hz HP0
    obtain ⟨p, rfl, hp1, hp2, hN, hgk, hbel, hz, hB⟩ := hrel
    have HG := Lib.hid hgk
    have HN : Hid (NoneBack ⟨mi, ho, da, mo, wk, ad, aw⟩ u p l) := hN
    clear hgk hN
    by_cases c1 : l ≤ p
    · by_cases c2 : -1035593280 ≤ p
      · obtain ⟨D, hD⟩ : ∃ D, (p + 1035593280) / 1440 = D := ⟨_, rfl⟩
        obtain ⟨R, hR⟩ : ∃ R, (p + 1035593280) % 1440 = R := ⟨_, rfl⟩
        obtain ⟨M, hM⟩ : ∃ M, (p + 1035593280) % 60 = M := ⟨_, rfl⟩
        have hRb : 0 ≤ R ∧ R < 1440 := by omega
        have hMb : 0 ≤ M ∧ M < 60 := by omega
        obtain ⟨K, hK⟩ : ∃ K : Nat, (D + 1) % 7 = K := ⟨((D + 1) % 7).toNat, by omega⟩
        have hKb : K ≤ 6 := by omega
        obtain ⟨f, hf⟩ : ∃ f : Nat, p % 1440 = f := ⟨(p % 1440).toNat, by omega⟩
        obtain ⟨F, hF⟩ : ∃ F, p - p % 1440 = F := ⟨_, rfl⟩
        have hpf : p - F = f := by omega
        have hfb : f < 1440 := by omega
        have HD := Lib.hid hD
        have HR := Lib.hid hR
        have HM := Lib.hid hM
        have HK := Lib.hid hK
        have Hf := Lib.hid hf
        have HF := Lib.hid hF
        clear hD hR hM hK hf hF
        go_wp2_with fail
        go_at_call 23
        refine (of_in p D R M _ c2 (by omega) HD HR HM).mono ?_
        rintro x w2 ⟨⟨y, m, d, hx, hd⟩, hb2⟩
        rw [HK.out] at hx
        obtain ⟨m', hm'⟩ : ∃ m' : Nat, m = m' := ⟨m.toNat, by have := hd.m1; omega⟩
        obtain ⟨d', hd'⟩ : ∃ d' : Nat, d = d' := ⟨d.toNat, by have := hd.d1; omega⟩
        subst hm'
        subst hd'
        have hm12 : m' ≤ 12 := by have := hd.m12; omega
        have hd31 : d' ≤ 31 := by have := hd.dd; have := dm_bd y m'; omega
        subst hx
        have HDAY := Lib.hid hd
        have hbel2 := bthen hbel hb2
        have hB2 := fun o => (keep0 hb2 hz o).trans (hB o)
        have hz2 : w.heap.size < w2.heap.size := Nat.lt_of_lt_of_le hz hb2.size
        clear hb2 hB hz hbel hd
        go_wp2_with fail
        go_at_call 68
        refine (fits_any mi ho da mo wk ad aw m' d' K y (R / 60) M _ hm12 hd31 hKb HE.out.da HE.out.mo HE.out.wk).mono ?_
        obtain ⟨ok, hok⟩ : ∃ ok, dayOk da mo wk ad aw m' d' K = ok := ⟨_, rfl⟩
        rw [hok]
        have HOK : Hid (dayOk da mo wk ad aw (m' : Int).toNat (d' : Int).toNat ((D + 1) % 7).toNat = ok) := by show _ = _; rw [HK.out]; simpa using hok
        clear hok
        rintro x w3 ⟨rfl, hb3⟩
        have hbel3 := bthen (bmore hbel2 _) hb3
        have hB3 := fun o => (keep1 hb3 hz2 o).trans (hB2 o)
        have hz3 : w.heap.size < w3.heap.size := by have := size1 hb3; omega
        clear hb3 hB2 hbel2 hz2
        cases ok with
        | false =>
          have HN2 := Lib.hid (prev_skip HD.out HDAY.out HN.out HOK.out)
          clear HN HOK HDAY
          go_wp2_with fail
          go_at_call 70
          refine (floor_any p _ (by omega) (by omega)).mono ?_
          rintro x w4 ⟨rfl, rfl⟩
          rw [HF.out]
          go_wp2
          go_roundg (F - 1 + 1 - l).toNat
          case measure => have := HG.out; omega
          case rel => exact ⟨F - 1, rfl, by omega, by omega, by have := HN2.out; rw [HF.out] at this; exact this, rfl, hbel3, hz3, hB3⟩
        | true =>
          go_wp2_with fail
          go_at_call 70
          refine (floor_any p _ (by omega) (by omega)).mono ?_
          rintro x w4 ⟨rfl, rfl⟩
          rw [HF.out]
          go_wp2_with fail
          go_at_call 77
          refine (late_any ⟨mi, ho, da, mo, wk, ad, aw⟩ f _ HE.out hfb).mono ?_
          rintro x w5 ⟨⟨k, rfl, hk⟩, hb5⟩
          have HKK : Hid (IsLate ho mi (p % 1440).toNat k) := by show IsLate _ _ _ _; rw [Hf.out]; exact hk
          have hbel5 := bthen hbel3 hb5
          have hB5 := fun o => (keep0 hb5 hz3 o).trans (hB3 o)
          have hz5 : w.heap.size < w5.heap.size := Nat.lt_of_lt_of_le hz3 hb5.size
          clear hb5 hk hB3 hbel3 hz3
          by_cases c3 : k < 0
          · have hk1 : k = -1 := by
              rcases HKK.out with ⟨h, -⟩ | ⟨n, h, -⟩
              · exact h
              · omega
            subst hk1
            have HN2 := Lib.hid (prev_none HD.out HDAY.out HN.out HKK.out)
            clear HN HOK HDAY HKK c3
            go_wp2_with fail
            go_at_call 70
            refine (floor_any p _ (by omega) (by omega)).mono ?_
            rintro x w6 ⟨rfl, rfl⟩
            rw [HF.out]
            go_wp2
            go_roundg (F - 1 + 1 - l).toNat
            case measure => have := HG.out; omega
            case rel => exact ⟨F - 1, rfl, by omega, by omega, by have := HN2.out; rw [HF.out] at this; exact this, rfl, hbel5, hz5, hB5⟩
          · obtain ⟨n, rfl⟩ : ∃ n : Nat, k = n := ⟨k.toNat, by omega⟩
            have hn14 : n < 1440 := by
              rcases HKK.out with ⟨h, -⟩ | ⟨q, h, h2, -⟩
              · omega
              · omega
            clear c3
            go_wp2_with fail
            go_at_call 70
            refine (floor_any p _ (by omega) (by omega)).mono ?_
            rintro x w6 ⟨rfl, rfl⟩
            rw [HF.out]
            by_cases c4 : l ≤ F + n
            · have HR2 := Lib.hid (prev_hit hp1 c2 (by omega) HD.out HDAY.out HN.out a HL.out hl1 hl2 ha h1 h2 HOK.out n HKK.out (by rw [HF.out]; exact c4))
              clear HN HOK HDAY HKK
              go_wp2
              go_ret2
              exact ⟨⟨_, _, rfl, by have := HR2.out; rw [HF.out] at this; exact this⟩, hbel5⟩
            · have HN2 := Lib.hid (prev_far HD.out HDAY.out HN.out n HKK.out (by rw [HF.out]; omega))
              clear HN HOK HDAY HKK
              go_wp2_with fail
              go_at_call 70
              refine (floor_any p _ (by omega) (by omega)).mono ?_
              rintro x w6 ⟨rfl, rfl⟩
              rw [HF.out]
              go_wp2
              go_roundg (F - 1 + 1 - l).toNat
              case measure => have := HG.out; omega
              case rel => exact ⟨F - 1, rfl, by omega, by omega, by have := HN2.out; rw [HF.out] at this; exact this, rfl, hbel5, hz5, hB5⟩
      · have HR2 := Lib.hid (prev_out HL.out hl1 hl2 ha h1 h2 HN.out (.inl (by omega)))
        go_wp2_with fail
        go_at_call 23
        refine (of_out p _ (.inl (by omega))).mono ?_
        rintro x w2 ⟨rfl, hb2⟩
        have hbel2 := bthen hbel hb2
        clear hb2 hbel hB hz
        go_wp2
        go_ret2
        exact ⟨⟨_, _, rfl, HR2.out⟩, bmore hbel2 _⟩
    · have HR2 := Lib.hid (prev_out HL.out hl1 hl2 ha h1 h2 HN.out (.inr (by omega)))
      clear hB hz
      go_wp2
      go_ret2
      exact ⟨⟨_, _, rfl, HR2.out⟩, hbel⟩

theorem prev_any (e : Ex) (u a : Int) (w : World) (he : ExOk e) (h0 : -9223372036854775808 ≤ a) :
    Calls Tryd.prog 44 #[exV e, .int .i64 u, .int .i64 a] w fun x w' => PrevPost e u a x ∧ Below w.heap.size w w' := by
  by_cases h1 : -1035593280 ≤ u
  · by_cases h2 : u ≤ 4223371679
    · by_cases h3 : a < u
      · exact prev_in_any e u a (max (a + 1) (u - 4216320)) w he h1 h2 h3 h0 rfl (by omega) (by omega) (by omega)
      · exact prev_arg_any e u a w h1 h2 (by omega)
    · exact prev_out_any e u a w (by omega)
  · exact prev_out_any e u a w (by omega)
end Go.Proofs.YtdpaiaeaamokeaaDoor.Cron

