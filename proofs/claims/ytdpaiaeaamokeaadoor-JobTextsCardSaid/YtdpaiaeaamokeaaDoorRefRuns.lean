/- The contracts of the reference's runs and Text. -/
import Derived.Test.YtdpaiaeaamokeaaDoorRefA
import Derived.Test.YtdpaiaeaamokeaaDoorRefDec
import Derived.Test.YtdpaiaeaamokeaaDoorRefDay
import Derived.BigQuiet
namespace Go.Proofs.YtdpaiaeaamokeaaDoor.Cron
open Go.RowKit Go
open Go.Proofs.YtdpaiaeaamokeaaDoor.Job (bytes_size)

set_option maxHeartbeats 4000000 in
set_option maxRecDepth 100000 in
theorem rruns_any (b : Nat) (f : Int) (w : World) (hb : b < 18446744073709551616) (hf : 0 ≤ f ∧ f < 5) :
    Calls Tryd.prog 65 #[.int .u64 b, .int .i64 f] w fun e w' => e = .returned (.string (bytesOf (toldL b (loN f) (hiN f)))) ∧ Below w.heap.size w w' := by
  obtain ⟨lo, hlo⟩ : ∃ lo, loN f = lo := ⟨_, rfl⟩
  obtain ⟨hi, hhi⟩ : ∃ hi, hiN f = hi := ⟨_, rfl⟩
  have hlh := lohi f
  rw [hlo, hhi] at hlh ⊢
  have RL := fun w => rlo_any f w hf
  have RH := fun w => rhi_any f w hf
  rw [hlo] at RL
  rw [hhi] at RH
  have HRL := Lib.hid RL
  have HRH := Lib.hid RH
  clear RL RH hlo hhi
  go_enter Tryd.func65, Tryd.ntmps65
  go_wp2_with fail
  go_at_call 63
  refine (HRL.out _).mono ?_
  rintro x w1 ⟨rfl, rfl⟩
  go_wp2
  go_loopg [5, 6] (hi + 1 - lo) (fun gk v t wr => ∃ (k : Nat) (T : ByteArray), t = .int .i64 k ∧ v = .string T ∧ lo ≤ k ∧ k ≤ hi + 1 ∧ Hid (RunsTo b lo hi k T.data.toList) ∧ T.size ≤ 400 ∧ Below w.heap.size w wr ∧ gk = hi + 1 - k)
  case atStart => exact ⟨lo, ⟨#[]⟩, rfl, rfl, by omega, by omega, runsTo_start b lo hi, by show 0 ≤ _; omega, Below.refl _ _, rfl⟩
  case round =>
    obtain ⟨k, T, rfl, rfl, hk1, hk2, HR, hTz, hbel, hgk⟩ := hrel
    have HG := Lib.hid hgk
    clear hgk
    go_wp2_with fail
    go_at_call 64
    refine (HRH.out _).mono ?_
    rintro y w2 ⟨rfl, rfl⟩
    by_cases hlt : k ≤ hi
    · have hlti : (k : Int) ≤ (hi : Int) := by omega
      cases hbit : b.testBit k with
      | false =>
        have f1 := bit_no b k hb hbit
        have HR2 := Lib.hid (runsTo_no b lo hi k _ HR.out hlt hbit)
        clear hbit HR
        go_wp2
        go_roundg (hi + 1 - (k + 1))
        case measure => have := HG.out; omega
        case rel => exact ⟨k + 1, T, rfl, rfl, by omega, by omega, HR2, hTz, hbel, rfl⟩
      | true =>
        have f1 := bit_yes b k hb hbit
        obtain ⟨E, hE⟩ : ∃ E, rEnd b hi k = E := ⟨_, rfl⟩
        have hEb := rEnd_bd b hi k hlt
        rw [hE] at hEb
        have HE := Lib.hid hE
        have HBIT := Lib.hid hbit
        clear hbit hE
        go_wp2
        go_loopg [7] (hi - k) (fun gk2 t wr2 => ∃ j : Nat, t = .int .i64 j ∧ k ≤ j ∧ j ≤ hi ∧ Hid (rEnd b hi j = E) ∧ wr2 = wr ∧ gk2 = hi - j)
        case atStart => exact ⟨k, rfl, by omega, by omega, HE.out, rfl, rfl⟩
        case round =>
          obtain ⟨j, rfl, hj1, hj2, HJ, rfl, hgk2⟩ := hrel
          have HG2 := Lib.hid hgk2
          clear hgk2
          go_wp2_with fail
          go_at_call 64
          refine (HRH.out _).mono ?_
          rintro y w2 ⟨rfl, rfl⟩
          by_cases hjl : j < hi
          · have hjli : (j : Int) < (hi : Int) := by omega
            cases hbj : b.testBit (j + 1) with
            | true =>
              have f2 := bit_yes b (j + 1) hb hbj
              have HJ2 : Hid (rEnd b hi (j + 1) = E) := by show _ = _; rw [← rEnd_yes b hi j hjl hbj]; exact HJ.out
              clear hbj HJ
              go_wp2
              go_roundg (hi - (j + 1))
              case measure => have := HG2.out; omega
              case rel => exact ⟨j + 1, rfl, by omega, by omega, HJ2, rfl, rfl⟩
            | false =>
              have f2 := bit_no b (j + 1) hb hbj
              have HJ2 : Hid (rEnd b hi k = j) := by show _ = _; rw [HE.out, ← HJ.out, rEnd_no b hi j hbj]
              clear hbj HJ HE hEb
              have HJE := HJ2
              obtain ⟨A, hA⟩ : ∃ A, bytesOf (Lib.decDigits k) = A := ⟨_, rfl⟩
              have HAl : Hid (A.data.toList = dec2 k) := by show _ = _; rw [← hA, dec2_dig k (by omega)]; rfl
              have hAz : A.size ≤ 2 := by have h1 := dec2_len k; rw [← HAl.out, Array.length_toList] at h1; exact h1
              have HA := Lib.hid hA
              obtain ⟨B, hB⟩ : ∃ B, bytesOf (Lib.decDigits j) = B := ⟨_, rfl⟩
              have HBl : Hid (B.data.toList = dec2 j) := by show _ = _; rw [← hB, dec2_dig j (by omega)]; rfl
              have hBz : B.size ≤ 2 := by have h1 := dec2_len j; rw [← HBl.out, Array.length_toList] at h1; exact h1
              have HBB := Lib.hid hB
              clear hA hB
              by_cases hT0 : T.data.toList = []
              · have q0 : (T.toList == []) = true := by rw [Lib.toList_data, hT0]; rfl
                have q2 : ¬ 9223372036854775807 < T.size + A.size := by omega
                have q3 : ¬ 9223372036854775807 < T.size + A.size + 1 := by omega
                have q4 : ¬ 9223372036854775807 < T.size + A.size + 1 + B.size := by omega
                by_cases hkj : k < j
                · have HN : Hid (RunsTo b lo hi (j + 1) (T ++ A ++ ⟨#[45]⟩ ++ B).data.toList) := by
                    have h1 := runsTo_yes b lo hi k j _ HR.out hlt HBIT.out HJE.out
                    rw [if_pos hT0, runTxt, if_pos hkj, ← HAl.out, ← HBl.out] at h1
                    show RunsTo _ _ _ _ _
                    simpa [hT0] using h1
                  have hkji : (k : Int) < (j : Int) := by omega
                  have hsz : (T ++ A ++ ⟨#[45]⟩ ++ B).size ≤ 400 := by
                    have h1 := runsTo_len b lo hi (j + 1) _ HN.out (by omega)
                    rw [Array.length_toList] at h1; exact h1
                  have HSZ := Lib.hid hsz
                  clear hT0 hkj hsz
                  go_wp2_with fail
                  go_at_call 93
                  refine (Job.decimal_any k _ (by omega)).mono ?_
                  rw [HA.out]
                  rintro y w5 ⟨rfl, hb5⟩
                  go_wp2_with fail
                  go_at_call 93
                  refine (Job.decimal_any j _ (by omega)).mono ?_
                  rw [HBB.out]
                  rintro y w6 ⟨rfl, hb6⟩
                  have hbel6 := bthen (bthen hbel hb5) hb6
                  clear hb5 hb6 hbel
                  go_wp2
                  go_roundg (hi + 1 - (j + 1))
                  case measure => have := HG.out; omega
                  case rel => exact ⟨j + 1, _, rfl, rfl, by omega, by omega, HN, HSZ.out, hbel6, rfl⟩
                · have HN : Hid (RunsTo b lo hi (j + 1) (T ++ A).data.toList) := by
                    have h1 := runsTo_yes b lo hi k j _ HR.out hlt HBIT.out HJE.out
                    rw [if_pos hT0, runTxt, if_neg hkj, ← HAl.out] at h1
                    show RunsTo _ _ _ _ _
                    simpa [hT0] using h1
                  have hkji : ¬ (k : Int) < (j : Int) := by omega
                  have hsz : (T ++ A).size ≤ 400 := by
                    have h1 := runsTo_len b lo hi (j + 1) _ HN.out (by omega)
                    rw [Array.length_toList] at h1; exact h1
                  have HSZ := Lib.hid hsz
                  clear hT0 hkj hsz
                  go_wp2_with fail
                  go_at_call 93
                  refine (Job.decimal_any k _ (by omega)).mono ?_
                  rw [HA.out]
                  rintro y w5 ⟨rfl, hb5⟩
                  have hbel5 := bthen hbel hb5
                  clear hb5 hbel
                  go_wp2
                  go_roundg (hi + 1 - (j + 1))
                  case measure => have := HG.out; omega
                  case rel => exact ⟨j + 1, _, rfl, rfl, by omega, by omega, HN, HSZ.out, hbel5, rfl⟩
              · have q0 : (T.toList == []) = false := by rw [Lib.toList_data]; simpa using hT0
                have q1 : ¬ 9223372036854775807 < T.size + 1 := by omega
                have q2 : ¬ 9223372036854775807 < T.size + 1 + A.size := by omega
                have q3 : ¬ 9223372036854775807 < T.size + 1 + A.size + 1 := by omega
                have q4 : ¬ 9223372036854775807 < T.size + 1 + A.size + 1 + B.size := by omega
                by_cases hkj : k < j
                · have HN : Hid (RunsTo b lo hi (j + 1) (T ++ ⟨#[44]⟩ ++ A ++ ⟨#[45]⟩ ++ B).data.toList) := by
                    have h1 := runsTo_yes b lo hi k j _ HR.out hlt HBIT.out HJE.out
                    rw [if_neg hT0, runTxt, if_pos hkj, ← HAl.out, ← HBl.out] at h1
                    show RunsTo _ _ _ _ _
                    simpa  using h1
                  have hkji : (k : Int) < (j : Int) := by omega
                  have hsz : (T ++ ⟨#[44]⟩ ++ A ++ ⟨#[45]⟩ ++ B).size ≤ 400 := by
                    have h1 := runsTo_len b lo hi (j + 1) _ HN.out (by omega)
                    rw [Array.length_toList] at h1; exact h1
                  have HSZ := Lib.hid hsz
                  clear hT0 hkj hsz
                  go_wp2_with fail
                  go_at_call 93
                  refine (Job.decimal_any k _ (by omega)).mono ?_
                  rw [HA.out]
                  rintro y w5 ⟨rfl, hb5⟩
                  go_wp2_with fail
                  go_at_call 93
                  refine (Job.decimal_any j _ (by omega)).mono ?_
                  rw [HBB.out]
                  rintro y w6 ⟨rfl, hb6⟩
                  have hbel6 := bthen (bthen hbel hb5) hb6
                  clear hb5 hb6 hbel
                  go_wp2
                  go_roundg (hi + 1 - (j + 1))
                  case measure => have := HG.out; omega
                  case rel => exact ⟨j + 1, _, rfl, rfl, by omega, by omega, HN, HSZ.out, hbel6, rfl⟩
                · have HN : Hid (RunsTo b lo hi (j + 1) (T ++ ⟨#[44]⟩ ++ A).data.toList) := by
                    have h1 := runsTo_yes b lo hi k j _ HR.out hlt HBIT.out HJE.out
                    rw [if_neg hT0, runTxt, if_neg hkj, ← HAl.out] at h1
                    show RunsTo _ _ _ _ _
                    simpa  using h1
                  have hkji : ¬ (k : Int) < (j : Int) := by omega
                  have hsz : (T ++ ⟨#[44]⟩ ++ A).size ≤ 400 := by
                    have h1 := runsTo_len b lo hi (j + 1) _ HN.out (by omega)
                    rw [Array.length_toList] at h1; exact h1
                  have HSZ := Lib.hid hsz
                  clear hT0 hkj hsz
                  go_wp2_with fail
                  go_at_call 93
                  refine (Job.decimal_any k _ (by omega)).mono ?_
                  rw [HA.out]
                  rintro y w5 ⟨rfl, hb5⟩
                  have hbel5 := bthen hbel hb5
                  clear hb5 hbel
                  go_wp2
                  go_roundg (hi + 1 - (j + 1))
                  case measure => have := HG.out; omega
                  case rel => exact ⟨j + 1, _, rfl, rfl, by omega, by omega, HN, HSZ.out, hbel5, rfl⟩
          · have hjli : ¬ (j : Int) < (hi : Int) := by omega
            have HJ2 : Hid (rEnd b hi k = j) := by show _ = _; rw [HE.out, ← HJ.out, rEnd_stop b hi j hjl]
            clear HJ HE hEb
            have HJE := HJ2
            obtain ⟨A, hA⟩ : ∃ A, bytesOf (Lib.decDigits k) = A := ⟨_, rfl⟩
            have HAl : Hid (A.data.toList = dec2 k) := by show _ = _; rw [← hA, dec2_dig k (by omega)]; rfl
            have hAz : A.size ≤ 2 := by have h1 := dec2_len k; rw [← HAl.out, Array.length_toList] at h1; exact h1
            have HA := Lib.hid hA
            obtain ⟨B, hB⟩ : ∃ B, bytesOf (Lib.decDigits j) = B := ⟨_, rfl⟩
            have HBl : Hid (B.data.toList = dec2 j) := by show _ = _; rw [← hB, dec2_dig j (by omega)]; rfl
            have hBz : B.size ≤ 2 := by have h1 := dec2_len j; rw [← HBl.out, Array.length_toList] at h1; exact h1
            have HBB := Lib.hid hB
            clear hA hB
            by_cases hT0 : T.data.toList = []
            · have q0 : (T.toList == []) = true := by rw [Lib.toList_data, hT0]; rfl
              have q2 : ¬ 9223372036854775807 < T.size + A.size := by omega
              have q3 : ¬ 9223372036854775807 < T.size + A.size + 1 := by omega
              have q4 : ¬ 9223372036854775807 < T.size + A.size + 1 + B.size := by omega
              by_cases hkj : k < j
              · have HN : Hid (RunsTo b lo hi (j + 1) (T ++ A ++ ⟨#[45]⟩ ++ B).data.toList) := by
                  have h1 := runsTo_yes b lo hi k j _ HR.out hlt HBIT.out HJE.out
                  rw [if_pos hT0, runTxt, if_pos hkj, ← HAl.out, ← HBl.out] at h1
                  show RunsTo _ _ _ _ _
                  simpa [hT0] using h1
                have hkji : (k : Int) < (j : Int) := by omega
                have hsz : (T ++ A ++ ⟨#[45]⟩ ++ B).size ≤ 400 := by
                  have h1 := runsTo_len b lo hi (j + 1) _ HN.out (by omega)
                  rw [Array.length_toList] at h1; exact h1
                have HSZ := Lib.hid hsz
                clear hT0 hkj hsz
                go_wp2_with fail
                go_at_call 93
                refine (Job.decimal_any k _ (by omega)).mono ?_
                rw [HA.out]
                rintro y w5 ⟨rfl, hb5⟩
                go_wp2_with fail
                go_at_call 93
                refine (Job.decimal_any j _ (by omega)).mono ?_
                rw [HBB.out]
                rintro y w6 ⟨rfl, hb6⟩
                have hbel6 := bthen (bthen hbel hb5) hb6
                clear hb5 hb6 hbel
                go_wp2
                go_roundg (hi + 1 - (j + 1))
                case measure => have := HG.out; omega
                case rel => exact ⟨j + 1, _, rfl, rfl, by omega, by omega, HN, HSZ.out, hbel6, rfl⟩
              · have HN : Hid (RunsTo b lo hi (j + 1) (T ++ A).data.toList) := by
                  have h1 := runsTo_yes b lo hi k j _ HR.out hlt HBIT.out HJE.out
                  rw [if_pos hT0, runTxt, if_neg hkj, ← HAl.out] at h1
                  show RunsTo _ _ _ _ _
                  simpa [hT0] using h1
                have hkji : ¬ (k : Int) < (j : Int) := by omega
                have hsz : (T ++ A).size ≤ 400 := by
                  have h1 := runsTo_len b lo hi (j + 1) _ HN.out (by omega)
                  rw [Array.length_toList] at h1; exact h1
                have HSZ := Lib.hid hsz
                clear hT0 hkj hsz
                go_wp2_with fail
                go_at_call 93
                refine (Job.decimal_any k _ (by omega)).mono ?_
                rw [HA.out]
                rintro y w5 ⟨rfl, hb5⟩
                have hbel5 := bthen hbel hb5
                clear hb5 hbel
                go_wp2
                go_roundg (hi + 1 - (j + 1))
                case measure => have := HG.out; omega
                case rel => exact ⟨j + 1, _, rfl, rfl, by omega, by omega, HN, HSZ.out, hbel5, rfl⟩
            · have q0 : (T.toList == []) = false := by rw [Lib.toList_data]; simpa using hT0
              have q1 : ¬ 9223372036854775807 < T.size + 1 := by omega
              have q2 : ¬ 9223372036854775807 < T.size + 1 + A.size := by omega
              have q3 : ¬ 9223372036854775807 < T.size + 1 + A.size + 1 := by omega
              have q4 : ¬ 9223372036854775807 < T.size + 1 + A.size + 1 + B.size := by omega
              by_cases hkj : k < j
              · have HN : Hid (RunsTo b lo hi (j + 1) (T ++ ⟨#[44]⟩ ++ A ++ ⟨#[45]⟩ ++ B).data.toList) := by
                  have h1 := runsTo_yes b lo hi k j _ HR.out hlt HBIT.out HJE.out
                  rw [if_neg hT0, runTxt, if_pos hkj, ← HAl.out, ← HBl.out] at h1
                  show RunsTo _ _ _ _ _
                  simpa  using h1
                have hkji : (k : Int) < (j : Int) := by omega
                have hsz : (T ++ ⟨#[44]⟩ ++ A ++ ⟨#[45]⟩ ++ B).size ≤ 400 := by
                  have h1 := runsTo_len b lo hi (j + 1) _ HN.out (by omega)
                  rw [Array.length_toList] at h1; exact h1
                have HSZ := Lib.hid hsz
                clear hT0 hkj hsz
                go_wp2_with fail
                go_at_call 93
                refine (Job.decimal_any k _ (by omega)).mono ?_
                rw [HA.out]
                rintro y w5 ⟨rfl, hb5⟩
                go_wp2_with fail
                go_at_call 93
                refine (Job.decimal_any j _ (by omega)).mono ?_
                rw [HBB.out]
                rintro y w6 ⟨rfl, hb6⟩
                have hbel6 := bthen (bthen hbel hb5) hb6
                clear hb5 hb6 hbel
                go_wp2
                go_roundg (hi + 1 - (j + 1))
                case measure => have := HG.out; omega
                case rel => exact ⟨j + 1, _, rfl, rfl, by omega, by omega, HN, HSZ.out, hbel6, rfl⟩
              · have HN : Hid (RunsTo b lo hi (j + 1) (T ++ ⟨#[44]⟩ ++ A).data.toList) := by
                  have h1 := runsTo_yes b lo hi k j _ HR.out hlt HBIT.out HJE.out
                  rw [if_neg hT0, runTxt, if_neg hkj, ← HAl.out] at h1
                  show RunsTo _ _ _ _ _
                  simpa  using h1
                have hkji : ¬ (k : Int) < (j : Int) := by omega
                have hsz : (T ++ ⟨#[44]⟩ ++ A).size ≤ 400 := by
                  have h1 := runsTo_len b lo hi (j + 1) _ HN.out (by omega)
                  rw [Array.length_toList] at h1; exact h1
                have HSZ := Lib.hid hsz
                clear hT0 hkj hsz
                go_wp2_with fail
                go_at_call 93
                refine (Job.decimal_any k _ (by omega)).mono ?_
                rw [HA.out]
                rintro y w5 ⟨rfl, hb5⟩
                have hbel5 := bthen hbel hb5
                clear hb5 hbel
                go_wp2
                go_roundg (hi + 1 - (j + 1))
                case measure => have := HG.out; omega
                case rel => exact ⟨j + 1, _, rfl, rfl, by omega, by omega, HN, HSZ.out, hbel5, rfl⟩
    · have hlti : ¬ (k : Int) ≤ (hi : Int) := by omega
      have HF : Hid (T = bytesOf (toldL b lo hi)) := by
        show _ = _
        rw [← runsTo_end b lo hi k _ HR.out (by omega)]; rfl
      go_wp2
      go_ret
      exact ⟨by rw [HF.out]; rfl, hbel⟩

/-! ### The whole text -/
def stl (e : Ex) : List (List UInt8) := [starL (decide (e.mi = spanN 0 59)) e.mi 0 59, starL (decide (e.ho = spanN 0 23)) e.ho 0 23, starL e.ad e.da 1 31, starL (decide (e.mo = spanN 1 12)) e.mo 1 12, starL e.aw e.wk 0 6]
theorem textL_stl (e : Ex) : textL e = Lib.join (stl e) [32] := rfl
def starF (e : Ex) (f : Nat) : Bool := if f = 2 then e.ad else if f = 4 then e.aw else decide (fld e f = spanN (loN f) (hiN f))
theorem stl_at (e : Ex) (f : Nat) (h : f < 5) : (stl e).getD f [] = starL (starF e f) (fld e f) (loN f) (hiN f) := by
  match f, h with
  | 0, _ => rfl
  | 1, _ => rfl
  | 2, _ => rfl
  | 3, _ => rfl
  | 4, _ => rfl
theorem stl_step (e : Ex) (f : Nat) (h : f < 5) : Lib.join ((stl e).take (f + 1)) [32] = (if f = 0 then [] else Lib.join ((stl e).take f) [32] ++ [32]) ++ starL (starF e f) (fld e f) (loN f) (hiN f) := by
  have hl : (stl e).length = 5 := rfl
  have h1 : (stl e).take (f + 1) = (stl e).take f ++ [starL (starF e f) (fld e f) (loN f) (hiN f)] := by
    rw [← stl_at e f h, List.take_succ_eq_append_getElem (by omega), List.getD_eq_getElem?_getD, List.getElem?_eq_getElem (by omega)]; rfl
  rw [h1]
  by_cases h0 : f = 0
  · subst h0; simp [Lib.join]
  · rw [if_neg h0, join_snoc]
    intro e
    have := congrArg List.length e
    rw [List.length_take, List.length_nil] at this
    omega
theorem fld_lt (e : Ex) (f : Nat) (h : ExOk e) : fld e f < 18446744073709551616 := by
  obtain ⟨b1, b2, b3, b4, b5⟩ := h
  unfold fld
  split <;> assumption

set_option maxHeartbeats 4000000 in
set_option maxRecDepth 100000 in
theorem rtext_any (e : Ex) (w : World) (he : ExOk e) :
    Calls Tryd.prog 20 #[exV e] w fun x w' => x = .returned (.string (bytesOf (textL e))) ∧ Below w.heap.size w w' := by
  have HOk : Hid (ExOk e) := he
  clear he
  have hcel : ∀ f : Nat, f < 5 → (#[.int .u64 e.mi, .int .u64 e.ho, .int .u64 e.da, .int .u64 e.mo, .int .u64 e.wk, .bool e.ad, .bool e.aw] : Array Value)[f]? = some (.int .u64 (fld e f)) := by
    intro f h
    match f, h with
    | 0, _ => rfl
    | 1, _ => rfl
    | 2, _ => rfl
    | 3, _ => rfl
    | 4, _ => rfl
  have HCE := Lib.hid hcel
  clear hcel
  have HST : Hid (∀ f : Nat, f < 5 → Lib.join ((stl e).take (f + 1)) [32] = (if f = 0 then [] else Lib.join ((stl e).take f) [32] ++ [32]) ++ starL (starF e f) (fld e f) (loN f) (hiN f)) := fun f h => stl_step e f h
  unfold exV
  obtain ⟨ad, had⟩ : ∃ a, e.ad = a := ⟨_, rfl⟩
  obtain ⟨aw, haw⟩ : ∃ a, e.aw = a := ⟨_, rfl⟩
  have HAD := Lib.hid had
  have HAW := Lib.hid haw
  rw [had, haw] at HCE ⊢
  clear had haw
  obtain ⟨mi, hmi⟩ : ∃ a, e.mi = a := ⟨_, rfl⟩
  obtain ⟨ho, hho⟩ : ∃ a, e.ho = a := ⟨_, rfl⟩
  obtain ⟨da, hda⟩ : ∃ a, e.da = a := ⟨_, rfl⟩
  obtain ⟨mo, hmo⟩ : ∃ a, e.mo = a := ⟨_, rfl⟩
  obtain ⟨wk, hwk⟩ : ∃ a, e.wk = a := ⟨_, rfl⟩
  rw [hmi, hho, hda, hmo, hwk] at HCE ⊢
  clear hmi hho hda hmo hwk
  go_enter Tryd.func20, Tryd.ntmps20
  go_wp2
  have hc0 := alloc_new w #[.int .u64 mi, .int .u64 ho, .int .u64 da, .int .u64 mo, .int .u64 wk, .bool ad, .bool aw] 40
  have hz0 : w.heap.size < (w.alloc (.cells #[.int .u64 mi, .int .u64 ho, .int .u64 da, .int .u64 mo, .int .u64 wk, .bool ad, .bool aw] 40)).heap.size := by simp
  have hb0 : Below w.heap.size w (w.alloc (.cells #[.int .u64 mi, .int .u64 ho, .int .u64 da, .int .u64 mo, .int .u64 wk, .bool ad, .bool aw] 40)) := bmore (Below.refl _ _) _
  generalize w.alloc (.cells #[.int .u64 mi, .int .u64 ho, .int .u64 da, .int .u64 mo, .int .u64 wk, .bool ad, .bool aw] 40) = w2 at *
  go_loopg [3, 4] 5 (fun gk v t wr => ∃ (f : Nat) (T : ByteArray), t = .int .i64 f ∧ v = .string T ∧ f ≤ 5 ∧ Hid (T.data.toList = Lib.join ((stl e).take f) [32]) ∧ T.size ≤ 401 * f ∧ Below w2.heap.size w2 wr ∧ gk = 5 - f)
  case atStart => exact ⟨0, ⟨#[]⟩, rfl, rfl, by omega, rfl, by show 0 ≤ _; omega, Below.refl _ _, rfl⟩
  case round =>
    obtain ⟨f, T, rfl, rfl, hf, HT, hTz, hbel, hgk⟩ := hrel
    have HG := Lib.hid hgk
    clear hgk
    by_cases hlt : f < 5
    · have hlti : (f : Int) < 5 := by omega
      have HSF := Lib.hid (HST.out f hlt)
      have hxl := fld_lt e f HOk.out
      have hcf : wr.cell? ⟨w.heap.size, f, none⟩ = some (.int .u64 (fld e f)) := (keep0 hbel hz0 f).trans ((hc0 f).trans (HCE.out f hlt))
      have hc5 : wr.cell? ⟨w.heap.size, 5, none⟩ = some (.bool ad) := (keep0 hbel hz0 5).trans (hc0 5)
      have hc6 : wr.cell? ⟨w.heap.size, 6, none⟩ = some (.bool aw) := (keep0 hbel hz0 6).trans (hc0 6)
      obtain ⟨lo, hlo⟩ : ∃ lo, loN f = lo := ⟨_, rfl⟩
      obtain ⟨hi, hhi⟩ : ∃ hi, hiN f = hi := ⟨_, rfl⟩
      have hlh := lohi f
      rw [hlo, hhi] at hlh HSF
      have RL := fun w => rlo_any f w ⟨by omega, hlti⟩
      have RH := fun w => rhi_any f w ⟨by omega, hlti⟩
      have RR := fun w => rruns_any (fld e f) f w hxl ⟨by omega, hlti⟩
      have HSFF : Hid (starF e f = if f = 2 then ad else if f = 4 then aw else decide (fld e f = spanN lo hi)) := by show _ = _; rw [← HAD.out, ← HAW.out, ← hlo, ← hhi]; rfl
      rw [hlo] at RL
      rw [hhi] at RH
      rw [hlo, hhi] at RR
      obtain ⟨x, hx⟩ : ∃ x, fld e f = x := ⟨_, rfl⟩
      rw [hx] at hcf hxl HSF RR HSFF
      have HRL := Lib.hid RL
      have HRH := Lib.hid RH
      have HRR := Lib.hid RR
      clear RL RH RR hlo hhi hx
      obtain ⟨sb, hsb⟩ : ∃ sb, starF e f = sb := ⟨_, rfl⟩
      rw [hsb] at HSF HSFF
      clear hsb
      have hS1 := starL_len sb x lo hi (by omega)
      have hsl := span_lt lo hi (by omega)
      have heq : ((x : Int) == ((spanN lo hi : Nat) : Int)) = decide (x = spanN lo hi) := eq_dec _ _
      have HEQ := Lib.hid heq
      obtain ⟨sp, hsp⟩ : ∃ sp, spanN lo hi = sp := ⟨_, rfl⟩
      rw [hsp] at hsl heq HSFF
      have RB := fun w => rbits_any lo hi w (by omega) (by omega)
      rw [hsp] at RB
      have HRB := Lib.hid RB
      clear RB hsp HEQ
      have hfc : (f = 2 ∧ ((f : Int) == 2) = true ∧ ((f : Int) == 4) = false) ∨ (f = 4 ∧ ((f : Int) == 2) = false ∧ ((f : Int) == 4) = true) ∨ (f ≠ 2 ∧ f ≠ 4 ∧ ((f : Int) == 2) = false ∧ ((f : Int) == 4) = false) := by
        by_cases h2 : f = 2
        · left; refine ⟨h2, by simp only [beq_iff_eq]; omega, by simp only [beq_eq_false_iff_ne]; omega⟩
        · right
          by_cases h4 : f = 4
          · left; exact ⟨h4, by simp only [beq_eq_false_iff_ne]; omega, by simp only [beq_iff_eq]; omega⟩
          · right; exact ⟨h2, h4, by simp only [beq_eq_false_iff_ne]; omega, by simp only [beq_eq_false_iff_ne]; omega⟩
      rcases hfc with ⟨h2, g2, g4⟩ | ⟨h4, g2, g4⟩ | ⟨h2, h4, g2, g4⟩
      · rw [if_pos h2] at HSFF
        have e1 := HSFF.out
        subst e1
        have HF2 : Hid (f ≠ 0) := by show _ ≠ _; omega
        clear h2 HSFF
        go_wp2_with fail
        go_quiet ((first | (go_at_call 63; exact quiet_same (HRL.out _)) | (go_at_call 64; exact quiet_same (HRH.out _)) | (go_at_call 62; exact quiet_same (HRB.out _))))
        have hbelD := fun n => below_drewN hbel n
        cases sb with
        | true =>
          have HSV : Hid (starL true x lo hi = [42]) := by show _ = _; simp [starL]
          clear hS1
          by_cases hf0 : f = 0
          · have hf0i : ¬ (0 : Int) < (f : Int) := by omega
            exact absurd hf0 HF2.out
          · have hf0i : (0 : Int) < (f : Int) := by omega
            have q1 : ¬ 9223372036854775807 < T.size + 1 := by omega
            have q2 : ¬ 9223372036854775807 < T.size + 1 + 1 := by omega
            have HN : Hid ((T ++ ⟨#[32]⟩ ++ ⟨#[42]⟩).data.toList = Lib.join ((stl e).take (f + 1)) [32]) := by
              show _ = _
              rw [HSF.out, if_neg hf0, HSV.out]
              simp [HT.out]
            have HSZ : Hid ((T ++ ⟨#[32]⟩ ++ ⟨#[42]⟩).size ≤ 401 * (f + 1)) := by
              show _ ≤ _
              rw [ByteArray.size_append, ByteArray.size_append]; show T.size + 1 + 1 ≤ _; omega
            clear hf0
            go_wp2
            go_roundg (5 - (f + 1))
            case measure => have := HG.out; omega
            case rel => exact ⟨f + 1, _, rfl, rfl, by omega, HN, HSZ.out, hbelD _, rfl⟩
        | false =>
          obtain ⟨R, hR⟩ : ∃ R, bytesOf (toldL x lo hi) = R := ⟨_, rfl⟩
          have HSV : Hid (starL false x lo hi = R.data.toList) := by show _ = _; rw [← hR]; simp [starL, bytesOf]
          have hRz : R.size ≤ 400 := by
            have := toldL_len x lo hi (by omega)
            rw [← hR, bytes_size]; exact this
          have HRE := Lib.hid hR
          clear hS1 hR
          by_cases hf0 : f = 0
          · have hf0i : ¬ (0 : Int) < (f : Int) := by omega
            exact absurd hf0 HF2.out
          · have hf0i : (0 : Int) < (f : Int) := by omega
            have q1 : ¬ 9223372036854775807 < T.size + 1 := by omega
            have q2 : ¬ 9223372036854775807 < T.size + 1 + R.size := by omega
            have HN : Hid ((T ++ ⟨#[32]⟩ ++ R).data.toList = Lib.join ((stl e).take (f + 1)) [32]) := by
              show _ = _
              rw [HSF.out, if_neg hf0, HSV.out]
              simp [HT.out]
            have HSZ : Hid ((T ++ ⟨#[32]⟩ ++ R).size ≤ 401 * (f + 1)) := by
              show _ ≤ _
              rw [ByteArray.size_append, ByteArray.size_append]; show T.size + 1 + R.size ≤ _; omega
            clear hf0
            go_wp2_with fail
            go_at_call 65
            refine (HRR.out _).mono ?_
            rw [HRE.out]
            rintro y w6 ⟨rfl, hb6⟩
            have hbel6 := bthen (hbelD _) hb6
            clear hb6 hbelD hbel
            go_wp2
            go_roundg (5 - (f + 1))
            case measure => have := HG.out; omega
            case rel => exact ⟨f + 1, _, rfl, rfl, by omega, HN, HSZ.out, hbel6, rfl⟩
      · rw [if_neg (by omega), if_pos h4] at HSFF
        have e1 := HSFF.out
        subst e1
        have HF2 : Hid (f ≠ 0) := by show _ ≠ _; omega
        clear h4 HSFF
        go_wp2_with fail
        go_quiet ((first | (go_at_call 63; exact quiet_same (HRL.out _)) | (go_at_call 64; exact quiet_same (HRH.out _)) | (go_at_call 62; exact quiet_same (HRB.out _))))
        have hbelD := fun n => below_drewN hbel n
        cases sb with
        | true =>
          have HSV : Hid (starL true x lo hi = [42]) := by show _ = _; simp [starL]
          clear hS1
          by_cases hf0 : f = 0
          · have hf0i : ¬ (0 : Int) < (f : Int) := by omega
            exact absurd hf0 HF2.out
          · have hf0i : (0 : Int) < (f : Int) := by omega
            have q1 : ¬ 9223372036854775807 < T.size + 1 := by omega
            have q2 : ¬ 9223372036854775807 < T.size + 1 + 1 := by omega
            have HN : Hid ((T ++ ⟨#[32]⟩ ++ ⟨#[42]⟩).data.toList = Lib.join ((stl e).take (f + 1)) [32]) := by
              show _ = _
              rw [HSF.out, if_neg hf0, HSV.out]
              simp [HT.out]
            have HSZ : Hid ((T ++ ⟨#[32]⟩ ++ ⟨#[42]⟩).size ≤ 401 * (f + 1)) := by
              show _ ≤ _
              rw [ByteArray.size_append, ByteArray.size_append]; show T.size + 1 + 1 ≤ _; omega
            clear hf0
            go_wp2
            go_roundg (5 - (f + 1))
            case measure => have := HG.out; omega
            case rel => exact ⟨f + 1, _, rfl, rfl, by omega, HN, HSZ.out, hbelD _, rfl⟩
        | false =>
          obtain ⟨R, hR⟩ : ∃ R, bytesOf (toldL x lo hi) = R := ⟨_, rfl⟩
          have HSV : Hid (starL false x lo hi = R.data.toList) := by show _ = _; rw [← hR]; simp [starL, bytesOf]
          have hRz : R.size ≤ 400 := by
            have := toldL_len x lo hi (by omega)
            rw [← hR, bytes_size]; exact this
          have HRE := Lib.hid hR
          clear hS1 hR
          by_cases hf0 : f = 0
          · have hf0i : ¬ (0 : Int) < (f : Int) := by omega
            exact absurd hf0 HF2.out
          · have hf0i : (0 : Int) < (f : Int) := by omega
            have q1 : ¬ 9223372036854775807 < T.size + 1 := by omega
            have q2 : ¬ 9223372036854775807 < T.size + 1 + R.size := by omega
            have HN : Hid ((T ++ ⟨#[32]⟩ ++ R).data.toList = Lib.join ((stl e).take (f + 1)) [32]) := by
              show _ = _
              rw [HSF.out, if_neg hf0, HSV.out]
              simp [HT.out]
            have HSZ : Hid ((T ++ ⟨#[32]⟩ ++ R).size ≤ 401 * (f + 1)) := by
              show _ ≤ _
              rw [ByteArray.size_append, ByteArray.size_append]; show T.size + 1 + R.size ≤ _; omega
            clear hf0
            go_wp2_with fail
            go_at_call 65
            refine (HRR.out _).mono ?_
            rw [HRE.out]
            rintro y w6 ⟨rfl, hb6⟩
            have hbel6 := bthen (hbelD _) hb6
            clear hb6 hbelD hbel
            go_wp2
            go_roundg (5 - (f + 1))
            case measure => have := HG.out; omega
            case rel => exact ⟨f + 1, _, rfl, rfl, by omega, HN, HSZ.out, hbel6, rfl⟩
      · rw [if_neg h2, if_neg h4] at HSFF
        have HSB : Hid (((x : Int) == (sp : Int)) = sb) := by show _ = _; rw [HSFF.out, heq]
        clear heq
        have heq := HSB.out
        clear h2 h4 HSFF HSB
        go_wp2_with fail
        go_quiet ((first | (go_at_call 63; exact quiet_same (HRL.out _)) | (go_at_call 64; exact quiet_same (HRH.out _)) | (go_at_call 62; exact quiet_same (HRB.out _))))
        have hbelD := fun n => below_drewN hbel n
        cases sb with
        | true =>
          have HSV : Hid (starL true x lo hi = [42]) := by show _ = _; simp [starL]
          clear hS1
          by_cases hf0 : f = 0
          · have hf0i : ¬ (0 : Int) < (f : Int) := by omega
            have q2 : ¬ 9223372036854775807 < T.size + 1 := by omega
            have HN : Hid ((T ++ ⟨#[42]⟩).data.toList = Lib.join ((stl e).take (f + 1)) [32]) := by
              show _ = _
              rw [HSF.out, if_pos hf0, HSV.out]
              simp [HT.out, hf0, Lib.join]
            have HSZ : Hid ((T ++ ⟨#[42]⟩).size ≤ 401 * (f + 1)) := by
              show _ ≤ _
              rw [ByteArray.size_append]; show T.size + 1 ≤ _; omega
            clear hf0
            go_wp2
            go_roundg (5 - (f + 1))
            case measure => have := HG.out; omega
            case rel => exact ⟨f + 1, _, rfl, rfl, by omega, HN, HSZ.out, hbelD _, rfl⟩
          · have hf0i : (0 : Int) < (f : Int) := by omega
            have q1 : ¬ 9223372036854775807 < T.size + 1 := by omega
            have q2 : ¬ 9223372036854775807 < T.size + 1 + 1 := by omega
            have HN : Hid ((T ++ ⟨#[32]⟩ ++ ⟨#[42]⟩).data.toList = Lib.join ((stl e).take (f + 1)) [32]) := by
              show _ = _
              rw [HSF.out, if_neg hf0, HSV.out]
              simp [HT.out]
            have HSZ : Hid ((T ++ ⟨#[32]⟩ ++ ⟨#[42]⟩).size ≤ 401 * (f + 1)) := by
              show _ ≤ _
              rw [ByteArray.size_append, ByteArray.size_append]; show T.size + 1 + 1 ≤ _; omega
            clear hf0
            go_wp2
            go_roundg (5 - (f + 1))
            case measure => have := HG.out; omega
            case rel => exact ⟨f + 1, _, rfl, rfl, by omega, HN, HSZ.out, hbelD _, rfl⟩
        | false =>
          obtain ⟨R, hR⟩ : ∃ R, bytesOf (toldL x lo hi) = R := ⟨_, rfl⟩
          have HSV : Hid (starL false x lo hi = R.data.toList) := by show _ = _; rw [← hR]; simp [starL, bytesOf]
          have hRz : R.size ≤ 400 := by
            have := toldL_len x lo hi (by omega)
            rw [← hR, bytes_size]; exact this
          have HRE := Lib.hid hR
          clear hS1 hR
          by_cases hf0 : f = 0
          · have hf0i : ¬ (0 : Int) < (f : Int) := by omega
            have q2 : ¬ 9223372036854775807 < T.size + R.size := by omega
            have HN : Hid ((T ++ R).data.toList = Lib.join ((stl e).take (f + 1)) [32]) := by
              show _ = _
              rw [HSF.out, if_pos hf0, HSV.out]
              simp [HT.out, hf0, Lib.join]
            have HSZ : Hid ((T ++ R).size ≤ 401 * (f + 1)) := by
              show _ ≤ _
              rw [ByteArray.size_append]; show T.size + R.size ≤ _; omega
            clear hf0
            go_wp2_with fail
            go_at_call 65
            refine (HRR.out _).mono ?_
            rw [HRE.out]
            rintro y w6 ⟨rfl, hb6⟩
            have hbel6 := bthen (hbelD _) hb6
            clear hb6 hbelD hbel
            go_wp2
            go_roundg (5 - (f + 1))
            case measure => have := HG.out; omega
            case rel => exact ⟨f + 1, _, rfl, rfl, by omega, HN, HSZ.out, hbel6, rfl⟩
          · have hf0i : (0 : Int) < (f : Int) := by omega
            have q1 : ¬ 9223372036854775807 < T.size + 1 := by omega
            have q2 : ¬ 9223372036854775807 < T.size + 1 + R.size := by omega
            have HN : Hid ((T ++ ⟨#[32]⟩ ++ R).data.toList = Lib.join ((stl e).take (f + 1)) [32]) := by
              show _ = _
              rw [HSF.out, if_neg hf0, HSV.out]
              simp [HT.out]
            have HSZ : Hid ((T ++ ⟨#[32]⟩ ++ R).size ≤ 401 * (f + 1)) := by
              show _ ≤ _
              rw [ByteArray.size_append, ByteArray.size_append]; show T.size + 1 + R.size ≤ _; omega
            clear hf0
            go_wp2_with fail
            go_at_call 65
            refine (HRR.out _).mono ?_
            rw [HRE.out]
            rintro y w6 ⟨rfl, hb6⟩
            have hbel6 := bthen (hbelD _) hb6
            clear hb6 hbelD hbel
            go_wp2
            go_roundg (5 - (f + 1))
            case measure => have := HG.out; omega
            case rel => exact ⟨f + 1, _, rfl, rfl, by omega, HN, HSZ.out, hbel6, rfl⟩
    · have hlti : ¬ (f : Int) < 5 := by omega
      have HF : Hid (T = bytesOf (textL e)) := by
        show _ = _
        rw [textL_stl, ← List.take_of_length_le (l := stl e) (i := f) (by show 5 ≤ f; omega), ← HT.out]; rfl
      have hbf := hb0.trans (hbel.mono hb0.size)
      clear hb0 hbel
      go_wp2
      go_ret
      exact ⟨by rw [HF.out]; rfl, hbf⟩
end Go.Proofs.YtdpaiaeaamokeaaDoor.Cron
