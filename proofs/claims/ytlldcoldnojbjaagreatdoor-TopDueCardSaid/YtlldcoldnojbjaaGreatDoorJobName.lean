/- The contract of job.Name. -/
import Derived.Test.YtlldcoldnojbjaaGreatDoorCronNum
namespace Go.Proofs.YtlldcoldnojbjaaGreatDoor.Job
open Go.RowKit Go Go.Proofs.YtlldcoldnojbjaaGreatDoor.Cron

/-- May a byte stand at place i of a name? -/
def nch (i : Nat) (c : UInt8) : Bool := decide (97 ≤ c.toNat ∧ c.toNat ≤ 122) || decide (48 ≤ c.toNat ∧ c.toNat ≤ 57) || (decide (c.toNat = 45) && decide (i ≠ 0))
theorem nch_iff (i : Nat) (c : UInt8) : nch i c = true ↔ (97 ≤ c.toNat ∧ c.toNat ≤ 122) ∨ (48 ≤ c.toNat ∧ c.toNat ≤ 57) ∨ (c.toNat = 45 ∧ i ≠ 0) := by
  simp [nch, or_assoc]
def NameTo (s : ByteArray) (k : Nat) : Prop := ∀ i (h : i < s.size), i < k → nch i s[i] = true
def NameOk (s : ByteArray) : Prop := NameTo s s.size ∧ 1 ≤ s.size ∧ s.size ≤ 30
noncomputable def nameB (s : ByteArray) : Bool := @decide (NameOk s) (Classical.propDecidable _)
theorem nameB_iff (s : ByteArray) : nameB s = true ↔ NameOk s := by unfold nameB; simp
theorem nameB_bad (s : ByteArray) (k : Nat) (h : k < s.size) (hb : nch k s[k] = false) : nameB s = false := by
  rw [Bool.eq_false_iff, Ne, nameB_iff]
  intro hn
  have := hn.1 k h h
  rw [hb] at this; cases this
theorem nameTo_succ (s : ByteArray) (k : Nat) (hlt : k < s.size) (h : NameTo s k) (hb : nch k s[k] = true) : NameTo s (k + 1) := by
  intro i hi h2
  by_cases e : i = k
  · subst e; exact hb
  · exact h i hi (by omega)
theorem bneI {a b : Int} (h : a ≠ b) : (a == b) = false ∧ (a != b) = true := by simp [h]
theorem beqI {a b : Int} (h : a = b) : (a == b) = true ∧ (a != b) = false := by simp [h]

set_option maxHeartbeats 1000000 in
set_option maxRecDepth 100000 in
theorem name_any (s : ByteArray) (w : World) (hs : s.size ≤ 9223372036854775807) :
    Calls Tryz.prog 44 #[.string s] w fun e w' => e = .returned (.bool (nameB s)) ∧ Below w.heap.size w w' := by
  go_enter Tryz.func44, Tryz.ntmps44
  go_wp2
  go_loopg [] s.size (fun gk wr => ∃ k : Nat, k ≤ s.size ∧ NameTo s k ∧ gk = s.size - k ∧ wr = w.iter s k)
  case atStart => exact ⟨0, by omega, fun i _ h => absurd h (by omega), rfl, rfl⟩
  case round =>
    obtain ⟨k, hk, hall, hgk, rfl⟩ := hrel
    have HG := Lib.hid hgk
    have HA := Lib.hid hall
    clear hgk hall
    by_cases hlt : k < s.size
    · by_cases ha : (s[k]).toNat < 128
      · have hn := fun ty => run_next_ascii (P := Tryz.prog) w s k ty hlt ha
        by_cases hc : nch k s[k] = true
        · have HN := Lib.hid (nameTo_succ s k hlt HA.out hc)
          rw [nch_iff] at hc
          rcases hc with ⟨c1, c2⟩ | ⟨c1, c2⟩ | ⟨c1, c2⟩
          · have d1 : 97 ≤ (s[k].toNat : Int) := by omega
            have d2 : (s[k].toNat : Int) ≤ 122 := by omega
            clear c1 c2
            go_wp2
            go_roundg (s.size - (k + 1))
            case measure => have := HG.out; omega
            case rel => exact ⟨k + 1, by omega, HN.out, rfl, rfl⟩
          · have d0 : (s[k].toNat : Int) < 97 := by omega
            have d1 : 48 ≤ (s[k].toNat : Int) := by omega
            have d2 : (s[k].toNat : Int) ≤ 57 := by omega
            clear c1 c2
            go_wp2
            go_roundg (s.size - (k + 1))
            case measure => have := HG.out; omega
            case rel => exact ⟨k + 1, by omega, HN.out, rfl, rfl⟩
          · have d0 : (s[k].toNat : Int) < 97 := by omega
            have d1 : (s[k].toNat : Int) < 48 := by omega
            obtain ⟨d3, d4⟩ := beqI (show (s[k].toNat : Int) = 45 by omega)
            obtain ⟨d5, d6⟩ := bneI (show (k : Int) ≠ 0 by omega)
            clear c1 c2
            go_wp2
            go_roundg (s.size - (k + 1))
            case measure => have := HG.out; omega
            case rel => exact ⟨k + 1, by omega, HN.out, rfl, rfl⟩
        · have hb : nch k s[k] = false := by simpa using hc
          have HP := Lib.hid (nameB_bad s k hlt hb)
          have hq : (s[k].toNat < 48 ∧ s[k].toNat ≠ 45) ∨ (s[k].toNat = 45 ∧ k = 0) ∨ (57 < s[k].toNat ∧ s[k].toNat < 97) ∨ 122 < s[k].toNat := by
            have := nch_iff k s[k]
            rw [hb] at this
            simp at this
            omega
          clear hc hb
          rcases hq with ⟨c1, c2⟩ | ⟨c1, c2⟩ | ⟨c1, c2⟩ | c1
          · have d0 : (s[k].toNat : Int) < 97 := by omega
            have d1 : (s[k].toNat : Int) < 48 := by omega
            obtain ⟨d3, d4⟩ := bneI (show (s[k].toNat : Int) ≠ 45 by omega)
            clear c1 c2
            go_wp2
            go_ret
            exact ⟨ret_bool HP.out.symm, below_iter _ _ _⟩
          · have d0 : (s[k].toNat : Int) < 97 := by omega
            have d1 : (s[k].toNat : Int) < 48 := by omega
            obtain ⟨d3, d4⟩ := beqI (show (s[k].toNat : Int) = 45 by omega)
            subst c2
            clear c1
            go_wp2
            go_ret
            exact ⟨ret_bool HP.out.symm, below_iter _ _ _⟩
          · have d0 : (s[k].toNat : Int) < 97 := by omega
            have d1 : ¬ (s[k].toNat : Int) < 48 := by omega
            have d2 : 57 < (s[k].toNat : Int) := by omega
            obtain ⟨d3, d4⟩ := bneI (show (s[k].toNat : Int) ≠ 45 by omega)
            clear c1 c2
            go_wp2
            go_ret
            exact ⟨ret_bool HP.out.symm, below_iter _ _ _⟩
          · have d0 : ¬ (s[k].toNat : Int) < 97 := by omega
            have d1 : ¬ (s[k].toNat : Int) < 48 := by omega
            have d2 : 57 < (s[k].toNat : Int) := by omega
            have d5 : 122 < (s[k].toNat : Int) := by omega
            obtain ⟨d3, d4⟩ := bneI (show (s[k].toNat : Int) ≠ 45 by omega)
            clear c1
            go_wp2
            go_ret
            exact ⟨ret_bool HP.out.symm, below_iter _ _ _⟩
      · have hn := fun ty => run_next_any (P := Tryz.prog) w s k ty hlt
        have hh := (decode_high s k hlt (by omega)).1
        have HP := Lib.hid (nameB_bad s k hlt (by
          have := nch_iff k s[k]
          cases hb : nch k s[k] with
          | false => rfl
          | true => rw [hb] at this; simp at this; omega))
        generalize (Utf8.decode s k).1 = r at *
        have d0 : ¬ (r : Int) < 97 := by omega
        have d1 : ¬ (r : Int) < 48 := by omega
        have d2 : 57 < (r : Int) := by omega
        have d5 : 122 < (r : Int) := by omega
        obtain ⟨d3, d4⟩ := bneI (show (r : Int) ≠ 45 by omega)
        go_wp2
        go_ret
        exact ⟨ret_bool HP.out.symm, below_iter _ _ _⟩
    · have hn := fun ty => run_next_end (P := Tryz.prog) w s k ty hlt
      have HB : Hid (nameB s = (decide (1 ≤ s.size) && decide (s.size ≤ 30))) := by
        show _ = _
        rw [Bool.eq_iff_iff, nameB_iff]
        simp only [Bool.and_eq_true, decide_eq_true_eq]
        exact ⟨fun h => h.2, fun h => ⟨fun i hi h2 => HA.out i hi (by omega), h⟩⟩
      have hkk : k = s.size := by omega
      clear hkk
      by_cases z1 : 1 ≤ s.size
      · by_cases z2 : s.size ≤ 30
        · have HF : Hid (nameB s = true) := by show _ = _; rw [HB.out]; simp [z1, z2]
          go_wp2
          go_ret
          exact ⟨ret_bool (by rw [HF.out]; simp; omega), below_iter _ _ _⟩
        · have HF : Hid (nameB s = false) := by show _ = _; rw [HB.out]; simp [z1, z2]
          go_wp2
          go_ret
          exact ⟨ret_bool (by rw [HF.out]; simp; omega), below_iter _ _ _⟩
      · have HF : Hid (nameB s = false) := by show _ = _; rw [HB.out]; simp [z1]
        go_wp2
        go_ret
        exact ⟨ret_bool HF.out.symm, below_iter _ _ _⟩
end Go.Proofs.YtlldcoldnojbjaaGreatDoor.Job
