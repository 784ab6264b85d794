/- The reference's Name and RunKey; the program's keys. -/
import Derived.Test.YtdpaiaeaamokeaaDoorRefDec
import Derived.Test.YtdpaiaeaamokeaaDoorJobA
namespace Go.Proofs.YtdpaiaeaamokeaaDoor.Job
open Go.RowKit Go Go.Proofs.YtdpaiaeaamokeaaDoor.Cron

set_option maxHeartbeats 1000000 in
set_option maxRecDepth 100000 in
theorem rname_any (s : ByteArray) (w : World) (hs : s.size ≤ 9223372036854775807) :
    Calls Tryd.prog 26 #[.string s] w fun e w' => e = .returned (.bool (nameB s)) ∧ Below w.heap.size w w' := by
  go_enter Tryd.func26, Tryd.ntmps26
  go_wp2
  go_loopg [3] s.size (fun gk t wr => ∃ k : Nat, t = .int .i64 k ∧ k ≤ s.size ∧ NameTo s k ∧ gk = s.size - k ∧ wr = w)
  case atStart => exact ⟨0, rfl, by omega, fun i _ h => absurd h (by omega), rfl, rfl⟩
  case round =>
    obtain ⟨k, rfl, hk, hall, hgk, rfl⟩ := hrel
    have HG := Lib.hid hgk
    have HA := Lib.hid hall
    clear hgk hall
    by_cases hlt : k < s.size
    · have hlti : (k : Int) < (s.size : Int) := by omega
      by_cases hc : nch k s[k] = true
      · have HN := Lib.hid (nameTo_succ s k hlt HA.out hc)
        rw [nch_iff] at hc
        rcases hc with ⟨c1, c2⟩ | ⟨c1, c2⟩ | ⟨c1, c2⟩
        · have d1 : 97 ≤ (s[k].toNat : Int) := by omega
          have d2 : (s[k].toNat : Int) ≤ 122 := by omega
          clear c1 c2
          go_wp2
          go_roundg (s.size - (k + 1))
          case measure => have := HG.out; omega
          case rel => exact ⟨k + 1, rfl, by omega, HN.out, rfl, rfl⟩
        · have d0 : (s[k].toNat : Int) < 97 := by omega
          have d1 : 48 ≤ (s[k].toNat : Int) := by omega
          have d2 : (s[k].toNat : Int) ≤ 57 := by omega
          clear c1 c2
          go_wp2
          go_roundg (s.size - (k + 1))
          case measure => have := HG.out; omega
          case rel => exact ⟨k + 1, rfl, by omega, HN.out, rfl, rfl⟩
        · have d0 : (s[k].toNat : Int) < 97 := by omega
          have d1 : (s[k].toNat : Int) < 48 := by omega
          obtain ⟨d3, d4⟩ := beqI (show (s[k].toNat : Int) = 45 by omega)
          obtain ⟨d5, d6⟩ := bneI (show (k : Int) ≠ 0 by omega)
          clear c1 c2
          go_wp2
          go_roundg (s.size - (k + 1))
          case measure => have := HG.out; omega
          case rel => exact ⟨k + 1, rfl, by omega, HN.out, rfl, rfl⟩
      · have hb : nch k s[k] = false := by simpa using hc
        have HP := Lib.hid (nameB_bad s k hlt hb)
        have hq : (s[k].toNat < 48 ∧ s[k].toNat ≠ 45) ∨ (s[k].toNat = 45 ∧ k = 0) ∨ (57 < s[k].toNat ∧ s[k].toNat < 97) ∨ 122 < s[k].toNat := by
          have := nch_iff k s[k]
          rw [hb] at this
          simp at this
          omega
        clear hc hb
        rcases hq with ⟨c1, c2⟩ | ⟨c1, c2⟩ | ⟨c1, c2⟩ | c1
        · have d0 : (s[k].toNat : Int) < 97 := by omega
          have d1 : (s[k].toNat : Int) < 48 := by omega
          obtain ⟨d3, d4⟩ := bneI (show (s[k].toNat : Int) ≠ 45 by omega)
          clear c1 c2
          go_wp2
          go_ret
          exact ⟨ret_bool HP.out.symm, Below.refl _ _⟩
        · have d0 : (s[k].toNat : Int) < 97 := by omega
          have d1 : (s[k].toNat : Int) < 48 := by omega
          obtain ⟨d3, d4⟩ := beqI (show (s[k].toNat : Int) = 45 by omega)
          subst c2
          clear c1
          go_wp2
          go_ret
          exact ⟨ret_bool HP.out.symm, Below.refl _ _⟩
        · have d0 : (s[k].toNat : Int) < 97 := by omega
          have d1 : ¬ (s[k].toNat : Int) < 48 := by omega
          have d2 : 57 < (s[k].toNat : Int) := by omega
          obtain ⟨d3, d4⟩ := bneI (show (s[k].toNat : Int) ≠ 45 by omega)
          clear c1 c2
          go_wp2
          go_ret
          exact ⟨ret_bool HP.out.symm, Below.refl _ _⟩
        · have d0 : ¬ (s[k].toNat : Int) < 97 := by omega
          have d1 : ¬ (s[k].toNat : Int) < 48 := by omega
          have d2 : 57 < (s[k].toNat : Int) := by omega
          have d5 : 122 < (s[k].toNat : Int) := by omega
          obtain ⟨d3, d4⟩ := bneI (show (s[k].toNat : Int) ≠ 45 by omega)
          clear c1
          go_wp2
          go_ret
          exact ⟨ret_bool HP.out.symm, Below.refl _ _⟩
    · have hlti : ¬ (k : Int) < (s.size : Int) := by omega
      have HB : Hid (nameB s = (decide (1 ≤ s.size) && decide (s.size ≤ 30))) := by
        show _ = _
        rw [Bool.eq_iff_iff, nameB_iff]
        simp only [Bool.and_eq_true, decide_eq_true_eq]
        exact ⟨fun h => h.2, fun h => ⟨fun i hi h2 => HA.out i hi (by omega), h⟩⟩
      by_cases z1 : 1 ≤ s.size
      · by_cases z2 : s.size ≤ 30
        · have HF : Hid (nameB s = true) := by show _ = _; rw [HB.out]; simp [z1, z2]
          go_wp2
          go_ret
          exact ⟨ret_bool (by rw [HF.out]; simp; omega), Below.refl _ _⟩
        · have HF : Hid (nameB s = false) := by show _ = _; rw [HB.out]; simp [z1, z2]
          go_wp2
          go_ret
          exact ⟨ret_bool (by rw [HF.out]; simp; omega), Below.refl _ _⟩
      · have HF : Hid (nameB s = false) := by show _ = _; rw [HB.out]; simp [z1]
        go_wp2
        go_ret
        exact ⟨ret_bool HF.out.symm, Below.refl _ _⟩
end Go.Proofs.YtdpaiaeaamokeaaDoor.Job
