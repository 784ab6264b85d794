/- CronNext, walked. -/
import Derived.Test.YtggcnbdpobbkaaaDoorCronKnown
import Derived.OpenShut
namespace Go.Proofs.YtggcnbdpobbkaaaDoor.Cron
open Go.RowKit Go Go.Proofs.YtggcnbdpobbkaaaDoor.Cal

theorem next_prev {e : Ex} {a n : Int} (h : NextIs e a n 0) : PrevIs e n a n 0 ∧ (1 < n - a → PrevIs e (n - 1) a 0 28) := by
  rcases h with ⟨-, -, k⟩ | ⟨k1, k2, -, k4, k5, k6, k7⟩ | ⟨-, -, k, -⟩
  · omega
  · have hm := k6
    obtain ⟨r1, r2, -⟩ := hm
    exact ⟨.inr (.inl ⟨r1, r2, k4, rfl, k4, by omega, by omega, k6, fun m h1 h2 => by omega⟩),
      fun hd => .inr (.inr ⟨by omega, by omega, by omega, rfl, rfl, fun m h1 _ h3 => k7 m h1 (by omega)⟩)⟩
  · omega
theorem cne {c : Int} (h : c ≠ 0) : (c == 0) = false ∧ (c != 0) = true := by simp [h]

theorem within6x (a n : Int) (w : World) (h1 : 0 < n) (h2 : n ≤ 4611686018427387904) :
    Calls Tryd.prog 34 #[.int .i64 a, .int .i64 n] w fun e w' => (∃ q, e = .returned (.int .i64 q) ∧ 0 ≤ q ∧ q < n) ∧ w = w' :=
  (within6 a n w h1 h2).mono fun _ _ ⟨he, hw⟩ => ⟨⟨_, he, Int.emod_nonneg _ (by omega), Int.emod_lt_of_pos _ h1⟩, hw⟩

set_option maxHeartbeats 1000000 in
set_option maxRecDepth 100000 in
theorem next_walk (s : ByteArray) (ws : s.size ≤ 140737488351232) (a0 : Int) (w0 : (Lit.int .i64 a0).wf = true) (a1 : Int) (w1 : (Lit.int .i64 a1).wf = true) (w : World) (hL : Laid w) :
    Calls Tryd.prog 15 #[.string s, .int .i64 a0, .int .i64 a1] w fun e w' => e = .returned (.bool true) ∧ Below w.heap.size w w' := by
  obtain ⟨m, hm⟩ : ∃ m, a0 % 5250000000 - 1035500000 = m := ⟨_, rfl⟩
  have hmb : -1035500000 ≤ m ∧ m ≤ 4214499999 := by omega
  have HM := Lib.hid hm
  clear hm
  obtain ⟨pe, hpe⟩ : ∃ pe, pres s = pe := ⟨_, rfl⟩
  have HO : Hid (ExOk pe.1) := by have h := pres_ok s; rw [hpe] at h; exact h
  obtain ⟨⟨mi, ho, da, mo, wk, ad, aw⟩, c⟩ := pe
  have HX := Lib.hid hpe
  clear hpe
  go_enter Tryd.func15, Tryd.ntmps15
  go_wp2_with fail
  go_at_call 24
  refine (known6 _ hL).mono ?_
  rintro x wk0 ⟨rfl, hbel⟩
  have hL1 := hL.below hbel
  go_wp2_with fail
  go_at_call 25
  refine (parse_any s _ hL1.tabs hL1.max (by omega)).mono ?_
  rintro x wp ⟨hx, hbp⟩
  unfold ParPost exV at hx
  rw [HX.out] at hx
  subst hx
  have hbel2 := bthen hbel hbp
  clear hbel hbp hL1
  by_cases hc0 : c ≠ 0
  · obtain ⟨q1, q2⟩ := cne hc0
    go_wp2
    go_ret
    exact ⟨rfl, bmore hbel2 _⟩
  obtain rfl : c = 0 := by omega
  clear hc0
  go_wp2_with fail
  go_at_call 31
  refine (minute6 a0 m _ HM.out).mono ?_
  rintro x w2 ⟨rfl, rfl⟩
  go_wp2_with fail
  go_at_call 30
  refine (next_any ⟨mi, ho, da, mo, wk, ad, aw⟩ m _ HO.out (hL.below (bmore hbel2 _)).db).mono ?_
  rintro x w3 ⟨⟨n, g, rfl, hn⟩, hb3⟩
  have hc := keepN hb3
  have hz := size1 hb3
  have hbel3 := bthen (bmore hbel2 _) hb3
  clear hb3 hbel2
  have hn0 := hn
  rcases hn with ⟨k, -⟩ | ⟨-, -, rfl, k4, k5, k6, k7⟩ | ⟨-, -, rfl, rfl, k5⟩
  · omega
  · obtain ⟨hp1, hp2⟩ := next_prev hn0
    have HP1 := Lib.hid hp1
    have HP2 : Hid (1 < n - m → PrevIs ⟨mi, ho, da, mo, wk, ad, aw⟩ (n - 1) m 0 28) := hp2
    have HT := Lib.hid (mt_true k6)
    have HF : Hid (∀ q, m < q → q < n → mt ⟨mi, ho, da, mo, wk, ad, aw⟩ q = false) := fun q h1 h2 => mt_false (k7 q h1 h2)
    obtain ⟨D, hD⟩ : ∃ D, n - m = D := ⟨_, rfl⟩
    have hDb : 0 < D ∧ D ≤ 4216320 := by omega
    clear hn0 hp1 hp2 k6 k7
    go_wp2_with fail
    go_at_call 35
    refine (matches_any ⟨mi, ho, da, mo, wk, ad, aw⟩ n _ HO.out).mono ?_
    rw [HT.out]
    rintro x w4 ⟨rfl, hb4⟩
    have hc4 := fun o => (keep0 hb4 hz o).trans (hc o)
    have hz4 := Nat.lt_of_lt_of_le hz hb4.size
    have hbel4 := bthen hbel3 hb4
    clear hb4 hbel3 hc hz
    go_wp2
    go_loopg [12] 50 (fun gk t wr => ∃ k : Nat, t = .int .i64 k ∧ k ≤ 50 ∧ Below w.heap.size w wr ∧ wp.heap.size < wr.heap.size ∧ (∀ o, wr.cell? ⟨wp.heap.size, o, none⟩ = (#[.int .u64 mi, .int .u64 ho, .int .u64 da, .int .u64 mo, .int .u64 wk, .bool ad, .bool aw] : Array Value)[o]?) ∧ gk = 50 - k)
    case atStart => exact ⟨0, rfl, by omega, hbel4, hz4, hc4, rfl⟩
    case round =>
      clear hbel4 hz4 hc4
      obtain ⟨k, rfl, hk, hbelr, hzr, hcr, hgk⟩ := hrel
      have HG := Lib.hid hgk
      clear hgk
      by_cases hk5 : k < 50
      · go_wp2_with fail
        go_at_call 34
        refine (within6x _ _ _ (by omega) (by omega)).mono ?_
        rintro x w5 ⟨⟨q, rfl, hq1, hq2⟩, rfl⟩
        by_cases hqn : m + 1 + q < n
        · have hf := HF.out (m + 1 + q) (by omega) hqn
          go_wp2_with fail
          go_at_call 35
          refine (matches_any ⟨mi, ho, da, mo, wk, ad, aw⟩ (m + 1 + q) _ HO.out).mono ?_
          rw [hf]
          rintro x w6 ⟨rfl, hb6⟩
          have hc6 := fun o => (keep0 hb6 hzr o).trans (hcr o)
          have hz6 := Nat.lt_of_lt_of_le hzr hb6.size
          have hbel6 := bthen hbelr hb6
          clear hb6 hbelr hcr hzr hf
          go_wp2
          go_roundg (50 - (k + 1))
          case measure => have := HG.out; omega
          case rel => exact ⟨k + 1, rfl, by omega, hbel6, hz6, hc6, rfl⟩
        · go_wp2
          go_roundg (50 - (k + 1))
          case measure => have := HG.out; omega
          case rel => exact ⟨k + 1, rfl, by omega, hbelr, hzr, hcr, rfl⟩
      · go_wp2_with fail
        go_at_call 52
        refine (prev_any ⟨mi, ho, da, mo, wk, ad, aw⟩ n m _ HO.out (by omega)).mono ?_
        rintro x w5 ⟨⟨r, g, rfl, hn⟩, hb5⟩
        obtain ⟨rfl, rfl⟩ := HP1.out.uniq hn
        have hc5 := fun o => (keep0 hb5 hzr o).trans (hcr o)
        have hbel5 := bthen hbelr hb5
        clear hb5 hbelr hcr hn
        by_cases hd1 : 1 < D
        · have HPQ := Lib.hid (HP2.out (by omega))
          go_wp2_with fail
          go_at_call 52
          refine (prev_any ⟨mi, ho, da, mo, wk, ad, aw⟩ (n - 1) m _ HO.out (by omega)).mono ?_
          rintro x w6 ⟨⟨r, g, rfl, hn⟩, hb6⟩
          obtain ⟨rfl, rfl⟩ := HPQ.out.uniq hn
          have hbel6 := bthen hbel5 hb6
          clear hb6 hbel5 hc5 hn
          go_wp2
          go_ret
          exact ⟨rfl, hbel6⟩
        · go_wp2
          go_ret
          exact ⟨rfl, hbel5⟩
  · have HF : Hid (∀ q, m < q → q ≤ m + 4216320 → mt ⟨mi, ho, da, mo, wk, ad, aw⟩ q = false) := fun q h1 h2 => mt_false (k5 q h1 h2)
    clear hn0 k5
    obtain ⟨q, hq⟩ : ∃ q, a1 % 4216320 = q := ⟨_, rfl⟩
    have hqb : 0 ≤ q ∧ q < 4216320 := by omega
    have HQ := Lib.hid hq
    clear hq
    go_wp2_with fail
    go_at_call 34
    refine (within6 a1 4216320 _ (by omega) (by omega)).mono ?_
    rintro x w4 ⟨rfl, rfl⟩
    rw [HQ.out]
    go_wp2_with fail
    go_at_call 35
    refine (matches_any ⟨mi, ho, da, mo, wk, ad, aw⟩ (m + 1 + q) _ HO.out).mono ?_
    rw [HF.out (m + 1 + q) (by omega) (by omega)]
    rintro x w5 ⟨rfl, hb5⟩
    have hbel5 := bthen hbel3 hb5
    clear hb5 hbel3 hc hz
    go_wp2
    go_ret
    exact ⟨rfl, hbel5⟩
end Go.Proofs.YtggcnbdpobbkaaaDoor.Cron
