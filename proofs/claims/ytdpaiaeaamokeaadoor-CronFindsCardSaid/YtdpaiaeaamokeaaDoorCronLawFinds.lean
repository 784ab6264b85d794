/- CronFinds, walked. -/
import Derived.Test.YtdpaiaeaamokeaaDoorCronKnown
import Derived.Test.YtdpaiaeaamokeaaDoorRefNext
import Derived.Test.YtdpaiaeaamokeaaDoorRefPrev
import Derived.Test.YtdpaiaeaamokeaaDoorEq6
import Derived.OpenShut
namespace Go.Proofs.YtdpaiaeaamokeaaDoor.Cron
open Go.RowKit Go Go.Proofs.YtdpaiaeaamokeaaDoor.Cal

theorem cneF {c : Int} (h : c ≠ 0) : (c == 0) = false ∧ (c != 0) = true := by simp [h]
theorem pres_bad (s : ByteArray) (h : (pres s).2 ≠ 0) : (pres s).1 = zeroEx := by
  unfold pres at h ⊢
  split
  · rfl
  · split
    · rfl
    · rename_i h1 _ e he
      rw [if_neg h1, he] at h
      exact absurd rfl h
theorem within6z (a n : Int) (w : World) (h1 : 0 < n) (h2 : n ≤ 4611686018427387904) :
    Calls Tryd.prog 21 #[.int .i64 a, .int .i64 n] w fun e w' => (∃ q, e = .returned (.int .i64 q) ∧ 0 ≤ q ∧ q < n) ∧ w = w' :=
  (within6 a n w h1 h2).mono fun _ _ ⟨he, hw⟩ => ⟨⟨_, he, Int.emod_nonneg _ (by omega), Int.emod_lt_of_pos _ h1⟩, hw⟩
theorem minute6z (n : Int) (w : World) :
    Calls Tryd.prog 22 #[.int .i64 n] w fun e w' => (∃ q, e = .returned (.int .i64 q) ∧ -1035500000 ≤ q ∧ q ≤ 4214499999) ∧ w' = w := by
  refine (minute6 n _ w rfl).mono ?_
  rintro e w' ⟨he, hw⟩
  exact ⟨⟨_, he, by omega, by omega⟩, hw.symm⟩
theorem two2_keep {b b2 : Nat} {C D : Array Value} {w W : World} (hc : ∀ o, w.cell? ⟨b, o, none⟩ = C[o]?) (hd : ∀ o, w.cell? ⟨b2, o, none⟩ = D[o]?) (hl : b < w.heap.size) (hl2 : b2 < w.heap.size) (hb : Below w.heap.size w W) :
    (∀ o, W.cell? ⟨b, o, none⟩ = C[o]?) ∧ (∀ o, W.cell? ⟨b2, o, none⟩ = D[o]?) ∧ Below w.heap.size w W :=
  ⟨fun o => (keep0 hb hl o).trans (hc o), fun o => (keep0 hb hl2 o).trans (hd o), hb⟩

set_option maxHeartbeats 2000000 in
set_option maxRecDepth 100000 in
theorem finds_walk (s : ByteArray) (ws : s.size ≤ 140737488351232) (a0 : Int) (w0 : (Lit.int .i64 a0).wf = true) (a1 : Int) (w1 : (Lit.int .i64 a1).wf = true) (a2 : Int) (w2 : (Lit.int .i64 a2).wf = true) (w : World) (hL : Laid w) :
    Calls Tryd.prog 8 #[.string s, .int .i64 a0, .int .i64 a1, .int .i64 a2] w fun e w' => e = .returned (.bool true) ∧ Below w.heap.size w w' := by
  obtain ⟨ll0, uu0⟩ := bounds_i64 w0
  obtain ⟨ll1, uu1⟩ := bounds_i64 w1
  obtain ⟨ll2, uu2⟩ := bounds_i64 w2
  clear w0 w1 w2
  obtain ⟨pe, hpe⟩ : ∃ pe, pres s = pe := ⟨_, rfl⟩
  have HO : Hid (ExOk pe.1) := by have h := pres_ok s; rw [hpe] at h; exact h
  have HZ : Hid (pe.2 ≠ 0 → pe.1 = zeroEx) := by have h := pres_bad s; rw [hpe] at h; exact h
  obtain ⟨⟨mi, ho, da, mo, wk, ad, aw⟩, c⟩ := pe
  have HX := Lib.hid hpe
  clear hpe
  go_enter Tryd.func8, Tryd.ntmps8
  go_wp2_with fail
  go_at_call 15
  refine (known6 _ hL).mono ?_
  rintro x wk0 ⟨rfl, hbel⟩
  have hL1 := hL.below hbel
  go_wp2_with fail
  go_at_call 16
  refine (parse_any s _ hL1.tabs hL1.max (by omega)).mono ?_
  rintro x wp ⟨hx, hbp⟩
  unfold ParPost exV at hx
  rw [HX.out] at hx
  subst hx
  have hbel2 := bthen hbel hbp
  clear hbel hbp hL1
  by_cases hc0 : c ≠ 0
  · obtain ⟨q1, q2⟩ := cneF hc0
    have hz := HZ.out hc0
    simp only [zeroEx, Ex.mk.injEq] at hz
    obtain ⟨rfl, rfl, rfl, rfl, rfl, rfl, rfl⟩ := hz
    by_cases hs : 100 < s.size
    · have hsi : (100 : Int) < (s.size : Int) := by omega
      go_wp2
      go_ret
      exact ⟨rfl, bmore hbel2 _⟩
    · have hsi : ¬ (100 : Int) < (s.size : Int) := by omega
      go_wp2_with fail
      go_at_call 18
      refine (told6_any ⟨0, 0, 0, 0, 0, false, false⟩ _).mono ?_
      unfold exV
      rintro x w6 ⟨rfl, hb6⟩
      have hbel6 := bthen (bmore hbel2 _) hb6
      clear hb6 hbel2
      have he5 := fun w => eq_a5 w 0 0 0 0 0 0 0 0 0 0
      go_wp2
      go_ret
      exact ⟨rfl, hbel6⟩
  obtain rfl : c = 0 := by omega
  clear hc0 HZ
  go_wp2_with fail
  go_at_call 18
  refine (told6_any ⟨mi, ho, da, mo, wk, ad, aw⟩ _).mono ?_
  unfold exV
  rintro x w6 ⟨rfl, hb6⟩
  have hc6 := keepN hb6
  have hz6 := size1 hb6
  have hbel6 := bthen (bmore hbel2 _) hb6
  have hLp := hL.below hbel6
  clear hb6 hbel2
  dsimp only
  go_wp2
  go_loopg [1, 2, 3, 12] 2 (fun gk at1 up1 af1 t wr => ∃ (a u f : Int) (k : Nat), at1 = .int .i64 a ∧ up1 = .int .i64 u ∧ af1 = .int .i64 f ∧ t = .int .i64 k ∧ k ≤ 2 ∧ -9223372036854775808 ≤ a ∧ a ≤ 9223372036854775807 ∧ -9223372036854775808 ≤ u ∧ u ≤ 9223372036854775807 ∧ -9223372036854775808 ≤ f ∧ f ≤ 9223372036854775807 ∧ Below w.heap.size w wr ∧ wp.heap.size < w6.heap.size ∧ w6.heap.size < wr.heap.size ∧
    (∀ o, wr.cell? ⟨wp.heap.size, o, none⟩ = (#[.int .u64 mi, .int .u64 ho, .int .u64 da, .int .u64 mo, .int .u64 wk, .bool ad, .bool aw] : Array Value)[o]?) ∧
    (∀ o, wr.cell? ⟨w6.heap.size, o, none⟩ = (#[.int .u64 mi, .int .u64 ho, .int .u64 da, .int .u64 mo, .int .u64 wk, .bool ad, .bool aw] : Array Value)[o]?) ∧ gk = 2 - k)
  case atStart => exact ⟨a0, a1, a2, 0, rfl, rfl, rfl, rfl, by omega, ll0, uu0, ll1, uu1, ll2, uu2, bmore hbel6 _, hz6, by simp, fun o => (alloc_old _ _ hz6 o).trans (hc6 o), alloc_new _ _ _, rfl⟩
  case round =>
    clear ll0 uu0 ll1 uu1 ll2 uu2 hc6 hz6 hbel6 hLp
    obtain ⟨a, u, f, k, rfl, rfl, rfl, rfl, hk, l0, u0, l1, u1, l2, u2, hbel, hz1, hz2, hC, hD, hgk⟩ := hrel
    have HG := Lib.hid hgk
    clear hgk
    by_cases hk2 : k < 2
    · have hLr := hL.below hbel
      go_wp2_with fail
      go_at_call 25
      refine (next_any ⟨mi, ho, da, mo, wk, ad, aw⟩ a _ HO.out hLr.db).mono ?_
      rintro x w7 ⟨⟨n, g, rfl, hn⟩, hb7⟩
      have HN := Lib.hid hn
      have hC7 := fun o => (keep0 hb7 (Nat.lt_trans hz1 hz2) o).trans (hC o)
      have hD7 := fun o => (keep0 hb7 hz2 o).trans (hD o)
      have hz7 := Nat.lt_of_lt_of_le hz2 hb7.size
      have hbel7 := bthen hbel hb7
      clear hb7 hbel hC hD hz2 hn hLr
      go_wp2_with fail
      go_at_call 43
      refine (rnext_any ⟨mi, ho, da, mo, wk, ad, aw⟩ a _ HO.out l0 u0).mono ?_
      rintro x w8 ⟨⟨n2, g2, rfl, hn⟩, hb8⟩
      obtain ⟨rfl, rfl⟩ := HN.out.uniq hn
      have hC8 := fun o => (keep0 hb8 (Nat.lt_trans hz1 hz7) o).trans (hC7 o)
      have hD8 := fun o => (keep0 hb8 hz7 o).trans (hD7 o)
      have hz8 := Nat.lt_of_lt_of_le hz7 hb8.size
      have hbel8 := bthen hbel7 hb8
      clear hb8 hbel7 hC7 hD7 hz7 hn HN
      go_wp2_with fail
      go_at_call 44
      refine (prev_any ⟨mi, ho, da, mo, wk, ad, aw⟩ u f _ HO.out l2).mono ?_
      rintro x w9 ⟨⟨p, i, rfl, hn⟩, hb9⟩
      have HN := Lib.hid hn
      have hC9 := fun o => (keep0 hb9 (Nat.lt_trans hz1 hz8) o).trans (hC8 o)
      have hD9 := fun o => (keep0 hb9 hz8 o).trans (hD8 o)
      have hz9 := Nat.lt_of_lt_of_le hz8 hb9.size
      have hbel9 := bthen hbel8 hb9
      clear hb9 hbel8 hC8 hD8 hz8 hn
      go_wp2_with fail
      go_at_call 45
      refine (rprev_any ⟨mi, ho, da, mo, wk, ad, aw⟩ u f _ HO.out l1 u1 l2).mono ?_
      rintro x wa ⟨⟨p2, i2, rfl, hn⟩, hba⟩
      obtain ⟨rfl, rfl⟩ := HN.out.uniq hn
      have hCa := fun o => (keep0 hba (Nat.lt_trans hz1 hz9) o).trans (hC9 o)
      have hDa := fun o => (keep0 hba hz9 o).trans (hD9 o)
      have hza := Nat.lt_of_lt_of_le hz9 hba.size
      have hzb := Nat.lt_trans hz1 hza
      have HBL := Lib.hid (bthen hbel9 hba)
      clear hba hbel9 hC9 hD9 hz9 hn HN
      have hbs : Below wa.heap.size wa wa := Below.refl _ _
      have hne0 : ∀ x : Int, (x == x) = true := fun x => by simp
      have hne1 : ∀ x : Int, (x != x) = false := fun x => by simp
      have hne2 : ∀ x : Bool, (x != x) = false := fun x => by simp
      go_upto_region 14 with fail
      go_cut [97] (fun s97 wx => s97 = .bool false ∧ (∀ o, wx.cell? ⟨wp.heap.size, o, none⟩ = (#[.int .u64 mi, .int .u64 ho, .int .u64 da, .int .u64 mo, .int .u64 wk, .bool ad, .bool aw] : Array Value)[o]?) ∧ (∀ o, wx.cell? ⟨w6.heap.size, o, none⟩ = (#[.int .u64 mi, .int .u64 ho, .int .u64 da, .int .u64 mo, .int .u64 wk, .bool ad, .bool aw] : Array Value)[o]?) ∧ Below wa.heap.size wa wx)
      case first =>
        go_region_held3 (fun w' => (∀ o, w'.cell? ⟨wp.heap.size, o, none⟩ = (#[.int .u64 mi, .int .u64 ho, .int .u64 da, .int .u64 mo, .int .u64 wk, .bool ad, .bool aw] : Array Value)[o]?) ∧ (∀ o, w'.cell? ⟨w6.heap.size, o, none⟩ = (#[.int .u64 mi, .int .u64 ho, .int .u64 da, .int .u64 mo, .int .u64 wk, .bool ad, .bool aw] : Array Value)[o]?) ∧ Below wa.heap.size wa w')
          (first
            | with_reducible exact two2_keep hCa hDa hzb hza hbs.drew
            | (with_reducible refine two2_keep hCa hDa hzb hza (bthen ?_ hb)
               first | assumption | exact hbs.drew | (go_split_ands; assumption))
            | go_keep)
          (first
            | (go_at_call 24; refine (matches_any ⟨mi, ho, da, mo, wk, ad, aw⟩ a _ HO.out).mono ?_; rintro x wy ⟨rfl, hb⟩)
            | (go_at_call 46; refine (rmatches_any ⟨mi, ho, da, mo, wk, ad, aw⟩ a _ HO.out l0 u0).mono ?_; rintro x wy ⟨rfl, hb⟩))
        all_goals (
          go_wp2_with fail
          go_meet
          refine ⟨rfl, ?_⟩
          assumption)
      case rest =>
        obtain ⟨rfl, hCx, hDx, hbx⟩ := hcut
        have hzx := Nat.lt_of_lt_of_le hza hbx.size
        have hbelx := bthen HBL.out hbx
        clear hCa hDa hza hzb HBL hbs hbx hne0 hne1 hne2
        go_wp2_with fail
        go_at_call 22
        refine (minute6z _ _).mono ?_
        rintro x w10 ⟨⟨q1, rfl, k1, k2⟩, rfl⟩
        go_wp2_with fail
        go_at_call 22
        refine (minute6z _ _).mono ?_
        rintro x w10 ⟨⟨q2, rfl, k3, k4⟩, rfl⟩
        go_wp2_with fail
        go_at_call 21
        refine (within6z _ _ _ (by omega) (by omega)).mono ?_
        rintro x w10 ⟨⟨q3, rfl, k5, k6⟩, rfl⟩
        go_wp2
        go_roundg (2 - (k + 1))
        case measure => have := HG.out; omega
        case rel => exact ⟨q1, q2, q2 - 1 - q3, k + 1, rfl, rfl, rfl, rfl, by omega, by omega, by omega, by omega, by omega, by omega, by omega, hbelx, hz1, hzx, hCx, hDx, rfl⟩
    · go_wp2
      go_ret
      exact ⟨rfl, hbel⟩
end Go.Proofs.YtdpaiaeaamokeaaDoor.Cron
