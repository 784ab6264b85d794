/- The contracts of the reference's field and fields. -/
import Derived.Test.YtdpaiaeaamokeaaDoorRefFieldC
import Derived.Test.YtdpaiaeaamokeaaDoorCronFields
import Derived.OwnWalk
namespace Go.Proofs.YtdpaiaeaamokeaaDoor.Cron
open Go.RowKit Go

/-- What a field says: its bits, whether it is a star, whether it is one. -/
def RfPost (l : List UInt8) (lo hi : Nat) (e : Ending) : Prop := e = .returned (.tuple #[.int .u64 (pfield l lo hi : Nat), .bool (decide (l = [42])), .bool (decide (pfield l lo hi ≠ 0))])
theorem rf_bad (l : List UInt8) (lo hi : Nat) (h : l ≠ [42]) (hr : rat lo hi l 0 = none) : RfPost l lo hi (.returned (.tuple #[.int .u64 0, .bool false, .bool false])) := by
  rw [rat_field l lo hi h] at hr
  by_cases c : pfield l lo hi = 0
  · unfold RfPost; rw [c]; simp [h]
  · rw [if_neg c] at hr; cases hr
theorem rf_good (l : List UInt8) (lo hi x : Nat) (h : l ≠ [42]) (hr : rat lo hi l 0 = some x) : RfPost l lo hi (.returned (.tuple #[.int .u64 x, .bool false, .bool true])) := by
  rw [rat_field l lo hi h] at hr
  by_cases c : pfield l lo hi = 0
  · rw [if_pos c] at hr; cases hr
  · rw [if_neg c] at hr
    unfold RfPost; rw [Option.some.inj hr] at c ⊢; simp [h, c]
theorem ritem_at1 (s : ByteArray) (a k : Nat) (n : Int) (h : NumAt s a k n) (h2 : s.size ≤ k ∨ ∃ h : k < s.size, s[k].toNat ≠ 45) : ritem (s.data.toList.drop a) = (n, n, s.data.toList.drop k) := by
  refine ritem_one _ _ _ h.1 h.2 ?_
  rcases h2 with h2 | ⟨h2, h3⟩
  · rw [drop_end s k h2]; simp
  · rw [drop_one s k h2]
    simp only [List.head?_cons, ne_eq, Option.some.injEq]
    intro e; exact h3 (by rw [e]; rfl)
theorem ritem_at2 (s : ByteArray) (a k j : Nat) (n m : Int) (h : NumAt s a k n) (h2 : k < s.size) (h3 : s[k].toNat = 45) (h4 : NumAt s (k + 1) j m) : ritem (s.data.toList.drop a) = (n, m, s.data.toList.drop j) := by
  refine ritem_two _ (s.data.toList.drop (k + 1)) _ _ _ h.1 ?_ h4.1 h4.2
  rw [← h.2, drop_one s k h2, show s[k] = 45 from UInt8.toNat.inj (by simpa using h3)]

set_option maxHeartbeats 4000000 in
set_option maxRecDepth 100000 in
theorem rfield_any (s : ByteArray) (f : Int) (w : World) (hs : s.size ≤ 1000000) (hf : 0 ≤ f ∧ f < 5) :
    Calls Tryd.prog 59 #[.string s, .int .i64 f] w fun e w' => RfPost s.data.toList (loN f) (hiN f) e ∧ w = w' := by
  obtain ⟨lo, hlo⟩ : ∃ lo, loN f = lo := ⟨_, rfl⟩
  obtain ⟨hi, hhi⟩ : ∃ hi, hiN f = hi := ⟨_, rfl⟩
  have hb := lohi f
  rw [hlo, hhi] at hb ⊢
  have RL := fun w => rlo_any f w hf
  have RH := fun w => rhi_any f w hf
  rw [hlo] at RL
  rw [hhi] at RH
  have HRL := Lib.hid RL
  have HRH := Lib.hid RH
  clear RL RH hlo hhi
  by_cases hstar : s.data.toList = [42]
  · have hP : Hid (RfPost s.data.toList lo hi (.returned (.tuple #[.int .u64 (spanN lo hi : Nat), .bool true, .bool true]))) := by
      have := span_pos lo hi (by omega)
      show _ = _
      rw [pfield, if_pos hstar]; simp [hstar]; omega
    have hq : (s.toList == [42]) = true := by rw [Lib.toList_data, hstar]; rfl
    clear hstar
    go_enter Tryd.func59, Tryd.ntmps59
    go_wp2_with fail
    go_at_call 63
    refine (HRL.out _).mono ?_
    rintro x w1 ⟨rfl, rfl⟩
    go_wp2_with fail
    go_at_call 64
    refine (HRH.out _).mono ?_
    rintro x w1 ⟨rfl, rfl⟩
    go_wp2_with fail
    go_at_call 62
    refine (rbits_any lo hi _ (by omega) (by omega)).mono ?_
    rintro x w1 ⟨rfl, rfl⟩
    go_wp2
    go_ret3
    exact ⟨hP.out, rfl⟩
  · have HS := Lib.hid hstar
    have hq : (s.toList == [42]) = false := by rw [Lib.toList_data]; simpa using hstar
    clear hstar
    go_enter Tryd.func59, Tryd.ntmps59
    go_wp2
    go_loopg [7, 8] (s.size + 1) (fun gk v av wr => ∃ a x : Nat, av = .int .i64 a ∧ v = .int .u64 x ∧ a ≤ s.size ∧ x < 18446744073709551616 ∧ Hid (rat lo hi (s.data.toList.drop a) x = rat lo hi s.data.toList 0) ∧ gk = s.size + 1 - a ∧ wr = w)
    case atStart => exact ⟨0, 0, rfl, rfl, by omega, by omega, rfl, rfl, rfl⟩
    case round =>
      obtain ⟨a, x, rfl, rfl, ha, hx, HR, hgk, rfl⟩ := hrel
      have HG := Lib.hid hgk
      clear hgk
      go_wp2_with fail
      go_at_call 91
      refine (rnumber6_any s a _ ha hs).mono ?_
      rintro y w1 ⟨⟨n, k, rfl, hN, hak, hk⟩, rfl⟩
      have hnr := numAt_range s a k n hN
      have HN := Lib.hid hN
      clear hN
      by_cases hm : ∃ h : k < s.size, s[k].toNat = 45
      · obtain ⟨hm1, hm2⟩ := hm
        have g1 : (k : Int) < (s.size : Int) := by omega
        have g2 : ((s[k].toNat : Int) == 45) = true := by simp only [beq_iff_eq]; omega
        go_wp2_with fail
        go_at_call 91
        rw [show (k : Int) + 1 = ((k + 1 : Nat) : Int) by omega]
        refine (rnumber6_any s (k + 1) _ (by omega) hs).mono ?_
        rintro y w1 ⟨⟨m, j, rfl, hM, hkj, hj⟩, rfl⟩
        have hmr := numAt_range s (k + 1) j m hM
        have HI := Lib.hid (ritem_at2 s a k j n m HN.out hm1 hm2 hM)
        have haj : a ≤ j := by omega
        clear hM HN g1 g2 hm1 hm2 hkj hak hk
        by_cases hbad : n < (lo : Int) ∨ (hi : Int) < m ∨ m < n
        · have HF : Hid (RfPost s.data.toList lo hi (.returned (.tuple #[.int .u64 0, .bool false, .bool false]))) := rf_bad _ _ _ HS.out (by rw [← HR.out]; exact rat_bad lo hi _ x _ _ _ HI.out hbad)
          have hcs : n < (lo : Int) ∨ (¬ n < (lo : Int) ∧ (hi : Int) < m) ∨ (¬ n < (lo : Int) ∧ ¬ (hi : Int) < m ∧ m < n) := by omega
          clear hbad
          rcases hcs with c1 | ⟨c1, c2⟩ | ⟨c1, c2, c3⟩
          · go_wp2_with fail
            go_at_call 63
            refine (HRL.out _).mono ?_
            rintro y w2 ⟨rfl, rfl⟩
            go_wp2
            go_ret3
            exact ⟨HF.out, rfl⟩
          · go_wp2_with fail
            go_at_call 63
            refine (HRL.out _).mono ?_
            rintro y w2 ⟨rfl, rfl⟩
            go_wp2_with fail
            go_at_call 64
            refine (HRH.out _).mono ?_
            rintro y w2 ⟨rfl, rfl⟩
            go_wp2
            go_ret3
            exact ⟨HF.out, rfl⟩
          · go_wp2_with fail
            go_at_call 63
            refine (HRL.out _).mono ?_
            rintro y w2 ⟨rfl, rfl⟩
            go_wp2_with fail
            go_at_call 64
            refine (HRH.out _).mono ?_
            rintro y w2 ⟨rfl, rfl⟩
            go_wp2
            go_ret3
            exact ⟨HF.out, rfl⟩
        have c1 : ¬ n < (lo : Int) := by omega
        have c2 : ¬ (hi : Int) < m := by omega
        have c3 : ¬ m < n := by omega
        have HB := Lib.hid hbad
        have hsl := span_lt n.toNat m.toNat (by omega)
        have hor := bits_or_u64_nat x (spanN n.toNat m.toNat) hx hsl
        have hxl : x ||| spanN n.toNat m.toNat < 18446744073709551616 := Nat.or_lt_two_pow (n := 64) hx hsl
        clear hbad
        by_cases hend : j = s.size
        · have HF : Hid (RfPost s.data.toList lo hi (.returned (.tuple #[.int .u64 ((x ||| spanN n.toNat m.toNat : Nat)), .bool false, .bool true]))) := rf_good _ _ _ _ HS.out (by
            rw [← HR.out]
            exact rat_end lo hi _ x n m (by rw [HI.out, drop_end s _ (by omega)]) HB.out)
          have e1 : ((j : Int) == (s.size : Int)) = true := by simp only [beq_iff_eq]; omega
          clear hend
          go_wp2_with fail
          go_at_call 63
          refine (HRL.out _).mono ?_
          rintro y w2 ⟨rfl, rfl⟩
          go_wp2_with fail
          go_at_call 64
          refine (HRH.out _).mono ?_
          rintro y w2 ⟨rfl, rfl⟩
          go_wp2_with fail
          go_at_call 62
          refine (rbits_i n m _ (by omega)).mono ?_
          rintro y w2 ⟨rfl, rfl⟩
          go_wp2
          go_ret3
          exact ⟨HF.out, rfl⟩
        · have hjl : j < s.size := by omega
          have hji : (j : Int) < (s.size : Int) := by omega
          have e1 : ((j : Int) == (s.size : Int)) = false := by simp only [beq_eq_false_iff_ne]; omega
          by_cases hc : s[j].toNat = 44
          · have HN : Hid (rat lo hi (s.data.toList.drop (j + 1)) (x ||| spanN n.toNat m.toNat) = rat lo hi s.data.toList 0) := by
              show _ = _
              rw [← HR.out]
              exact (rat_more lo hi _ x n m _ (by rw [HI.out, drop_one s j hjl, show s[j] = 44 from UInt8.toNat.inj (by simpa using hc)]) HB.out).symm
            have e2 : ((s[j].toNat : Int) == 44) = true := by simp only [beq_iff_eq]; omega
            clear hc hend
            go_wp2_with fail
            go_at_call 63
            refine (HRL.out _).mono ?_
            rintro y w2 ⟨rfl, rfl⟩
            go_wp2_with fail
            go_at_call 64
            refine (HRH.out _).mono ?_
            rintro y w2 ⟨rfl, rfl⟩
            go_wp2_with fail
            go_at_call 62
            refine (rbits_i n m _ (by omega)).mono ?_
            rintro y w2 ⟨rfl, rfl⟩
            go_wp2
            go_roundg (s.size + 1 - (j + 1))
            case measure => have := HG.out; omega
            case rel => exact ⟨j + 1, x ||| spanN n.toNat m.toNat, rfl, by first | rfl | (rw [← hor]; rfl), by omega, hxl, HN, rfl, rfl⟩
          · have HF : Hid (RfPost s.data.toList lo hi (.returned (.tuple #[.int .u64 0, .bool false, .bool false]))) := rf_bad _ _ _ HS.out (by
              rw [← HR.out]
              exact rat_other lo hi _ x n m _ _ (by rw [HI.out, drop_one s j hjl]) HB.out (fun e => hc (by rw [e]; rfl)))
            have e2 : ((s[j].toNat : Int) == 44) = false := by simp only [beq_eq_false_iff_ne]; omega
            clear hc hend
            go_wp2_with fail
            go_at_call 63
            refine (HRL.out _).mono ?_
            rintro y w2 ⟨rfl, rfl⟩
            go_wp2_with fail
            go_at_call 64
            refine (HRH.out _).mono ?_
            rintro y w2 ⟨rfl, rfl⟩
            go_wp2_with fail
            go_at_call 62
            refine (rbits_i n m _ (by omega)).mono ?_
            rintro y w2 ⟨rfl, rfl⟩
            go_wp2
            go_ret3
            exact ⟨HF.out, rfl⟩
      · have HI := Lib.hid (ritem_at1 s a k n HN.out (by
          by_cases c : k < s.size
          · exact .inr ⟨c, fun e => hm ⟨c, e⟩⟩
          · exact .inl (by omega)))
        have hg : ¬ (k : Int) < (s.size : Int) ∨ ((k : Int) < (s.size : Int) ∧ ∃ h : k < s.size, ((s[k].toNat : Int) == 45) = false) := by
          by_cases c : k < s.size
          · exact .inr ⟨by omega, c, by simp only [beq_eq_false_iff_ne]; exact fun e => hm ⟨c, by omega⟩⟩
          · exact .inl (by omega)
        clear hm HN
        rcases hg with g1 | ⟨g1, g2, g3⟩
        · skip
          by_cases hbad : n < (lo : Int) ∨ (hi : Int) < n ∨ n < n
          · have HF : Hid (RfPost s.data.toList lo hi (.returned (.tuple #[.int .u64 0, .bool false, .bool false]))) := rf_bad _ _ _ HS.out (by rw [← HR.out]; exact rat_bad lo hi _ x _ _ _ HI.out hbad)
            have hcs : n < (lo : Int) ∨ (¬ n < (lo : Int) ∧ (hi : Int) < n) ∨ (¬ n < (lo : Int) ∧ ¬ (hi : Int) < n ∧ n < n) := by omega
            clear hbad
            rcases hcs with c1 | ⟨c1, c2⟩ | ⟨c1, c2, c3⟩
            · go_wp2_with fail
              go_at_call 63
              refine (HRL.out _).mono ?_
              rintro y w2 ⟨rfl, rfl⟩
              go_wp2
              go_ret3
              exact ⟨HF.out, rfl⟩
            · go_wp2_with fail
              go_at_call 63
              refine (HRL.out _).mono ?_
              rintro y w2 ⟨rfl, rfl⟩
              go_wp2_with fail
              go_at_call 64
              refine (HRH.out _).mono ?_
              rintro y w2 ⟨rfl, rfl⟩
              go_wp2
              go_ret3
              exact ⟨HF.out, rfl⟩
            · omega
          have c1 : ¬ n < (lo : Int) := by omega
          have c2 : ¬ (hi : Int) < n := by omega
          have c3 : ¬ n < n := by omega
          have HB := Lib.hid hbad
          have hsl := span_lt n.toNat n.toNat (by omega)
          have hor := bits_or_u64_nat x (spanN n.toNat n.toNat) hx hsl
          have hxl : x ||| spanN n.toNat n.toNat < 18446744073709551616 := Nat.or_lt_two_pow (n := 64) hx hsl
          clear hbad
          by_cases hend : k = s.size
          · have HF : Hid (RfPost s.data.toList lo hi (.returned (.tuple #[.int .u64 ((x ||| spanN n.toNat n.toNat : Nat)), .bool false, .bool true]))) := rf_good _ _ _ _ HS.out (by
              rw [← HR.out]
              exact rat_end lo hi _ x n n (by rw [HI.out, drop_end s _ (by omega)]) HB.out)
            have e1 : ((k : Int) == (s.size : Int)) = true := by simp only [beq_iff_eq]; omega
            clear hend
            go_wp2_with fail
            go_at_call 63
            refine (HRL.out _).mono ?_
            rintro y w2 ⟨rfl, rfl⟩
            go_wp2_with fail
            go_at_call 64
            refine (HRH.out _).mono ?_
            rintro y w2 ⟨rfl, rfl⟩
            go_wp2_with fail
            go_at_call 62
            refine (rbits_i n n _ (by omega)).mono ?_
            rintro y w2 ⟨rfl, rfl⟩
            go_wp2
            go_ret3
            exact ⟨HF.out, rfl⟩
          · omega
        · skip
          by_cases hbad : n < (lo : Int) ∨ (hi : Int) < n ∨ n < n
          · have HF : Hid (RfPost s.data.toList lo hi (.returned (.tuple #[.int .u64 0, .bool false, .bool false]))) := rf_bad _ _ _ HS.out (by rw [← HR.out]; exact rat_bad lo hi _ x _ _ _ HI.out hbad)
            have hcs : n < (lo : Int) ∨ (¬ n < (lo : Int) ∧ (hi : Int) < n) ∨ (¬ n < (lo : Int) ∧ ¬ (hi : Int) < n ∧ n < n) := by omega
            clear hbad
            rcases hcs with c1 | ⟨c1, c2⟩ | ⟨c1, c2, c3⟩
            · go_wp2_with fail
              go_at_call 63
              refine (HRL.out _).mono ?_
              rintro y w2 ⟨rfl, rfl⟩
              go_wp2
              go_ret3
              exact ⟨HF.out, rfl⟩
            · go_wp2_with fail
              go_at_call 63
              refine (HRL.out _).mono ?_
              rintro y w2 ⟨rfl, rfl⟩
              go_wp2_with fail
              go_at_call 64
              refine (HRH.out _).mono ?_
              rintro y w2 ⟨rfl, rfl⟩
              go_wp2
              go_ret3
              exact ⟨HF.out, rfl⟩
            · omega
          have c1 : ¬ n < (lo : Int) := by omega
          have c2 : ¬ (hi : Int) < n := by omega
          have c3 : ¬ n < n := by omega
          have HB := Lib.hid hbad
          have hsl := span_lt n.toNat n.toNat (by omega)
          have hor := bits_or_u64_nat x (spanN n.toNat n.toNat) hx hsl
          have hxl : x ||| spanN n.toNat n.toNat < 18446744073709551616 := Nat.or_lt_two_pow (n := 64) hx hsl
          clear hbad
          by_cases hend : k = s.size
          · have HF : Hid (RfPost s.data.toList lo hi (.returned (.tuple #[.int .u64 ((x ||| spanN n.toNat n.toNat : Nat)), .bool false, .bool true]))) := rf_good _ _ _ _ HS.out (by
              rw [← HR.out]
              exact rat_end lo hi _ x n n (by rw [HI.out, drop_end s _ (by omega)]) HB.out)
            have e1 : ((k : Int) == (s.size : Int)) = true := by simp only [beq_iff_eq]; omega
            clear hend
            go_wp2_with fail
            go_at_call 63
            refine (HRL.out _).mono ?_
            rintro y w2 ⟨rfl, rfl⟩
            go_wp2_with fail
            go_at_call 64
            refine (HRH.out _).mono ?_
            rintro y w2 ⟨rfl, rfl⟩
            go_wp2_with fail
            go_at_call 62
            refine (rbits_i n n _ (by omega)).mono ?_
            rintro y w2 ⟨rfl, rfl⟩
            go_wp2
            go_ret3
            exact ⟨HF.out, rfl⟩
          · have hjl : k < s.size := by omega
            have hji : (k : Int) < (s.size : Int) := by omega
            have e1 : ((k : Int) == (s.size : Int)) = false := by simp only [beq_eq_false_iff_ne]; omega
            by_cases hc : s[k].toNat = 44
            · have HN : Hid (rat lo hi (s.data.toList.drop (k + 1)) (x ||| spanN n.toNat n.toNat) = rat lo hi s.data.toList 0) := by
                show _ = _
                rw [← HR.out]
                exact (rat_more lo hi _ x n n _ (by rw [HI.out, drop_one s k hjl, show s[k] = 44 from UInt8.toNat.inj (by simpa using hc)]) HB.out).symm
              have e2 : ((s[k].toNat : Int) == 44) = true := by simp only [beq_iff_eq]; omega
              clear hc hend
              go_wp2_with fail
              go_at_call 63
              refine (HRL.out _).mono ?_
              rintro y w2 ⟨rfl, rfl⟩
              go_wp2_with fail
              go_at_call 64
              refine (HRH.out _).mono ?_
              rintro y w2 ⟨rfl, rfl⟩
              go_wp2_with fail
              go_at_call 62
              refine (rbits_i n n _ (by omega)).mono ?_
              rintro y w2 ⟨rfl, rfl⟩
              go_wp2
              go_roundg (s.size + 1 - (k + 1))
              case measure => have := HG.out; omega
              case rel => exact ⟨k + 1, x ||| spanN n.toNat n.toNat, rfl, by first | rfl | (rw [← hor]; rfl), by omega, hxl, HN, rfl, rfl⟩
            · have HF : Hid (RfPost s.data.toList lo hi (.returned (.tuple #[.int .u64 0, .bool false, .bool false]))) := rf_bad _ _ _ HS.out (by
                rw [← HR.out]
                exact rat_other lo hi _ x n n _ _ (by rw [HI.out, drop_one s k hjl]) HB.out (fun e => hc (by rw [e]; rfl)))
              have e2 : ((s[k].toNat : Int) == 44) = false := by simp only [beq_eq_false_iff_ne]; omega
              clear hc hend
              go_wp2_with fail
              go_at_call 63
              refine (HRL.out _).mono ?_
              rintro y w2 ⟨rfl, rfl⟩
              go_wp2_with fail
              go_at_call 64
              refine (HRH.out _).mono ?_
              rintro y w2 ⟨rfl, rfl⟩
              go_wp2_with fail
              go_at_call 62
              refine (rbits_i n n _ (by omega)).mono ?_
              rintro y w2 ⟨rfl, rfl⟩
              go_wp2
              go_ret3
              exact ⟨HF.out, rfl⟩
end Go.Proofs.YtdpaiaeaamokeaaDoor.Cron
