/- The contract of cron.told: a field's runs. -/
import Derived.Test.YtdpaiaeaamokeaaDoorCronRuns
import Derived.Test.YtdpaiaeaamokeaaDoorCronFits
import Derived.Test.YtdpaiaeaamokeaaDoorCronFields
namespace Go.Proofs.YtdpaiaeaamokeaaDoor.Cron
open Go.RowKit Go

def bytesOf (l : List UInt8) : ByteArray := ⟨l.toArray⟩

set_option maxHeartbeats 1000000 in
set_option maxRecDepth 100000 in
theorem told_any (b lo hi : Nat) (w : World) (hb : b < 18446744073709551616) (hl : lo ≤ hi) (hh : hi ≤ 62) :
    Calls Tryd.prog 92 #[.int .u64 b, .int .i64 lo, .int .i64 hi] w fun e w' => e = .returned (.string (bytesOf (toldL b lo hi))) ∧ Below w.heap.size w w' := by
  obtain ⟨i0, hi0, hz0, hz1, hz2⟩ := info_parts Tryd.infoStr
  go_enter Tryd.func92, Tryd.ntmps92
  go_wp2
  go_loopg [7, 8] (hi + 1 - lo) (fun gk v t wr => ∃ (k : Nat) (bs : List ByteArray), t = .int .i64 k ∧ lo ≤ k ∧ k ≤ hi + 1 ∧ wr.ownsRow w.heap.size 9 1 v bs.length (bs.map Value.string) ∧ Below w.heap.size w wr ∧
    bs.map (·.data.toList) ++ rRuns b hi k = rRuns b hi lo ∧ bs.length ≤ k ∧ gk = hi + 1 - k)
  case atStart => exact ⟨lo, [], rfl, by omega, by omega, World.ownsRow_nil _ _ _ _, Below.refl _ _, rfl, by simp, rfl⟩
  case round =>
    obtain ⟨k, bs, rfl, hk1, hk2, hown, hbel, hrs, hlen, hgk⟩ := hrel
    have HG := Lib.hid hgk
    have HR := Lib.hid hrs
    clear hgk hrs
    by_cases hlt : k ≤ hi
    · cases hbit : b.testBit k with
      | false =>
        have f1 := bit_no b k hb hbit
        have HR2 : Hid (bs.map (·.data.toList) ++ rRuns b hi (k + 1) = rRuns b hi lo) := by show _ = _; rw [← rRuns_no b hi k hlt hbit]; exact HR.out
        clear hbit HR
        go_wp2
        go_roundg (hi + 1 - (k + 1))
        case measure => have := HG.out; omega
        case rel => exact ⟨k + 1, bs, rfl, by omega, by omega, hown, hbel, HR2.out, by omega, rfl⟩
      | true =>
        have f1 := bit_yes b k hb hbit
        obtain ⟨E, hE⟩ : ∃ E, rEnd b hi k = E := ⟨_, rfl⟩
        have hEb := rEnd_bd b hi k hlt
        have HR2 : Hid (bs.map (·.data.toList) ++ (runTxt k E :: rRuns b hi (E + 1)) = rRuns b hi lo) := by show _ = _; rw [← hE, ← rRuns_yes b hi k hlt hbit]; exact HR.out
        rw [hE] at hEb
        have HE := Lib.hid hE
        clear hbit HR hE
        have HO := Lib.hid hown
        clear hown
        go_wp2
        go_loopg [9] (hi - k) (fun gk2 t wr2 => ∃ j : Nat, t = .int .i64 j ∧ k ≤ j ∧ j ≤ hi ∧ Hid (rEnd b hi j = E) ∧ wr2 = wr ∧ gk2 = hi - j)
        case atStart => exact ⟨k, rfl, by omega, by omega, HE.out, rfl, rfl⟩
        case round =>
          obtain ⟨j, rfl, hj1, hj2, HJ, rfl, hgk2⟩ := hrel
          have HG2 := Lib.hid hgk2
          clear hgk2
          by_cases hjl : j < hi
          · cases hbj : b.testBit (j + 1) with
            | true =>
              have f2 := bit_yes b (j + 1) hb hbj
              have HJ2 : Hid (rEnd b hi (j + 1) = E) := by show _ = _; rw [← rEnd_yes b hi j hjl hbj]; exact HJ.out
              clear hbj HJ
              go_wp2
              go_roundg (hi - (j + 1))
              case measure => have := HG2.out; omega
              case rel => exact ⟨j + 1, rfl, by omega, by omega, HJ2, rfl, rfl⟩
            | false =>
              have f2 := bit_no b (j + 1) hb hbj
              have HJ2 := Lib.hid ((rEnd_no b hi j hbj).symm.trans HJ.out)
              clear hbj HJ
              have e := HJ2.out
              subst e
              clear HJ2
              go_wp2_with fail
              go_at_call 51
              refine (Tryd.strconv_Itoa_small k (by omega) _).mono ?_
              rintro x5 w5 ⟨rfl, rfl⟩
              rw [dec2_dig k (by omega)]
              obtain ⟨A, hA⟩ : ∃ A : ByteArray, (⟨(dec2 k).toArray⟩ : ByteArray) = A := ⟨_, rfl⟩
              have hAz : A.size ≤ 2 := by rw [← hA]; exact dec2_len k
              have HAl : Hid (A.data.toList = dec2 k) := by show _ = _; rw [← hA]
              rw [hA]
              clear hA
              by_cases hkj : k < j
              · go_wp2_with fail
                go_at_call 51
                refine (Tryd.strconv_Itoa_small j (by omega) _).mono ?_
                rintro x6 w6 ⟨rfl, rfl⟩
                rw [dec2_dig j (by omega)]
                obtain ⟨B, hB⟩ : ∃ B : ByteArray, (⟨(dec2 j).toArray⟩ : ByteArray) = B := ⟨_, rfl⟩
                have hBz : B.size ≤ 2 := by rw [← hB]; exact dec2_len j
                have HS : Hid ((A ++ (⟨#[45]⟩ ++ B)).data.toList = runTxt k j) := by
                  show _ = _
                  rw [runTxt, if_pos hkj, ← hB]
                  have := HAl.out
                  simp [this]
                rw [hB]
                clear hB
                have hb1 : ¬ 9223372036854775807 < 1 + B.size := by omega
                have hb2 : ¬ 9223372036854775807 < A.size + (1 + B.size) := by omega
                go_wp2_with (at_builtin; refine wpList_append_lies _ rfl _ _ 85 rfl w.heap.size 9 i0 (.string ⟨#[]⟩) 1 16 Tryd.underlying85 hi0 hz0 hz1 hz2 rfl (by decide) _ _ _ rfl (HO.out.alloc _) ⟨w6.heap.size, 0, none⟩ 1 1 [.string (A ++ (⟨#[45]⟩ ++ B))] rfl rfl ?c1 ?c2 (by decide) ?c3 ?c4 ?c5 _ rfl ?_)
                case c1 =>
                  intro j u hj
                  match j, hj with
                  | 0, hj => simp at hj; subst hj; simp [Addr.add]
                case c2 => intro u hu; simp at hu; subst hu; rfl
                case c3 => unfold maxLen; omega
                case c4 => omega
                case c5 => have := hbel.size; simp; omega
                · intro g cap w1 hown3 hgrow hat hgl
                  obtain ⟨hbw3, -⟩ := own_grown (Nat.le_refl _) HO.out hbel hgrow
                  clear hgrow hat hgl HO hbel
                  go_wp2
                  go_roundg (hi + 1 - (j + 1))
                  case measure => have := HG.out; omega
                  case rel =>
                    refine ⟨j + 1, bs ++ [A ++ (⟨#[45]⟩ ++ B)], rfl, by omega, by omega, ?_, hbw3, ?_, by simp; omega, rfl⟩
                    · rw [List.length_append, List.map_append]; exact hown3
                    · rw [List.map_append, List.append_assoc]; have := HR2.out; rw [← HS.out] at this; exact this
              · have HS : Hid (A.data.toList = runTxt k j) := by
                  show _ = _
                  rw [runTxt, if_neg hkj]; exact HAl.out
                go_wp2_with (at_builtin; refine wpList_append_lies _ rfl _ _ 85 rfl w.heap.size 9 i0 (.string ⟨#[]⟩) 1 16 Tryd.underlying85 hi0 hz0 hz1 hz2 rfl (by decide) _ _ _ rfl (HO.out.alloc _) ⟨w5.heap.size, 0, none⟩ 1 1 [.string (A)] rfl rfl ?c1 ?c2 (by decide) ?c3 ?c4 ?c5 _ rfl ?_)
                case c1 =>
                  intro j u hj
                  match j, hj with
                  | 0, hj => simp at hj; subst hj; simp [Addr.add]
                case c2 => intro u hu; simp at hu; subst hu; rfl
                case c3 => unfold maxLen; omega
                case c4 => omega
                case c5 => have := hbel.size; simp; omega
                · intro g cap w1 hown3 hgrow hat hgl
                  obtain ⟨hbw3, -⟩ := own_grown (Nat.le_refl _) HO.out hbel hgrow
                  clear hgrow hat hgl HO hbel
                  go_wp2
                  go_roundg (hi + 1 - (j + 1))
                  case measure => have := HG.out; omega
                  case rel =>
                    refine ⟨j + 1, bs ++ [A], rfl, by omega, by omega, ?_, hbw3, ?_, by simp; omega, rfl⟩
                    · rw [List.length_append, List.map_append]; exact hown3
                    · rw [List.map_append, List.append_assoc]; have := HR2.out; rw [← HS.out] at this; exact this
          · have HJ2 := Lib.hid ((rEnd_stop b hi j hjl).symm.trans HJ.out)
            have e := HJ2.out
            subst e
            clear HJ2
            go_wp2_with fail
            go_at_call 51
            refine (Tryd.strconv_Itoa_small k (by omega) _).mono ?_
            rintro x5 w5 ⟨rfl, rfl⟩
            rw [dec2_dig k (by omega)]
            obtain ⟨A, hA⟩ : ∃ A : ByteArray, (⟨(dec2 k).toArray⟩ : ByteArray) = A := ⟨_, rfl⟩
            have hAz : A.size ≤ 2 := by rw [← hA]; exact dec2_len k
            have HAl : Hid (A.data.toList = dec2 k) := by show _ = _; rw [← hA]
            rw [hA]
            clear hA
            by_cases hkj : k < j
            · go_wp2_with fail
              go_at_call 51
              refine (Tryd.strconv_Itoa_small j (by omega) _).mono ?_
              rintro x6 w6 ⟨rfl, rfl⟩
              rw [dec2_dig j (by omega)]
              obtain ⟨B, hB⟩ : ∃ B : ByteArray, (⟨(dec2 j).toArray⟩ : ByteArray) = B := ⟨_, rfl⟩
              have hBz : B.size ≤ 2 := by rw [← hB]; exact dec2_len j
              have HS : Hid ((A ++ (⟨#[45]⟩ ++ B)).data.toList = runTxt k j) := by
                show _ = _
                rw [runTxt, if_pos hkj, ← hB]
                have := HAl.out
                simp [this]
              rw [hB]
              clear hB
              have hb1 : ¬ 9223372036854775807 < 1 + B.size := by omega
              have hb2 : ¬ 9223372036854775807 < A.size + (1 + B.size) := by omega
              go_wp2_with (at_builtin; refine wpList_append_lies _ rfl _ _ 85 rfl w.heap.size 9 i0 (.string ⟨#[]⟩) 1 16 Tryd.underlying85 hi0 hz0 hz1 hz2 rfl (by decide) _ _ _ rfl (HO.out.alloc _) ⟨w6.heap.size, 0, none⟩ 1 1 [.string (A ++ (⟨#[45]⟩ ++ B))] rfl rfl ?c1 ?c2 (by decide) ?c3 ?c4 ?c5 _ rfl ?_)
              case c1 =>
                intro j u hj
                match j, hj with
                | 0, hj => simp at hj; subst hj; simp [Addr.add]
              case c2 => intro u hu; simp at hu; subst hu; rfl
              case c3 => unfold maxLen; omega
              case c4 => omega
              case c5 => have := hbel.size; simp; omega
              · intro g cap w1 hown3 hgrow hat hgl
                obtain ⟨hbw3, -⟩ := own_grown (Nat.le_refl _) HO.out hbel hgrow
                clear hgrow hat hgl HO hbel
                go_wp2
                go_roundg (hi + 1 - (j + 1))
                case measure => have := HG.out; omega
                case rel =>
                  refine ⟨j + 1, bs ++ [A ++ (⟨#[45]⟩ ++ B)], rfl, by omega, by omega, ?_, hbw3, ?_, by simp; omega, rfl⟩
                  · rw [List.length_append, List.map_append]; exact hown3
                  · rw [List.map_append, List.append_assoc]; have := HR2.out; rw [← HS.out] at this; exact this
            · have HS : Hid (A.data.toList = runTxt k j) := by
                show _ = _
                rw [runTxt, if_neg hkj]; exact HAl.out
              go_wp2_with (at_builtin; refine wpList_append_lies _ rfl _ _ 85 rfl w.heap.size 9 i0 (.string ⟨#[]⟩) 1 16 Tryd.underlying85 hi0 hz0 hz1 hz2 rfl (by decide) _ _ _ rfl (HO.out.alloc _) ⟨w5.heap.size, 0, none⟩ 1 1 [.string (A)] rfl rfl ?c1 ?c2 (by decide) ?c3 ?c4 ?c5 _ rfl ?_)
              case c1 =>
                intro j u hj
                match j, hj with
                | 0, hj => simp at hj; subst hj; simp [Addr.add]
              case c2 => intro u hu; simp at hu; subst hu; rfl
              case c3 => unfold maxLen; omega
              case c4 => omega
              case c5 => have := hbel.size; simp; omega
              · intro g cap w1 hown3 hgrow hat hgl
                obtain ⟨hbw3, -⟩ := own_grown (Nat.le_refl _) HO.out hbel hgrow
                clear hgrow hat hgl HO hbel
                go_wp2
                go_roundg (hi + 1 - (j + 1))
                case measure => have := HG.out; omega
                case rel =>
                  refine ⟨j + 1, bs ++ [A], rfl, by omega, by omega, ?_, hbw3, ?_, by simp; omega, rfl⟩
                  · rw [List.length_append, List.map_append]; exact hown3
                  · rw [List.map_append, List.append_assoc]; have := HR2.out; rw [← HS.out] at this; exact this
    · have HF : Hid (Lib.join (bs.map (·.data.toList)) [44] = toldL b lo hi) := by
        show _ = _
        have := HR.out
        rw [rRuns_end b hi k (by omega), List.append_nil] at this
        rw [this]; rfl
      have HLn : Hid ((Lib.join (bs.map (·.data.toList)) [44]).length ≤ 140737488355328) := by
        show _ ≤ _
        rw [HF.out]; have := toldL_len b lo hi hh; omega
      rcases hown.2 with ⟨rfl, hz⟩ | ⟨g, cap, cur, rfl, hgB, hrest⟩
      · have h0 : bs = [] := List.eq_nil_of_length_eq_zero hz
        subst h0
        go_wp2_with fail
        go_at_call 52
        refine (Tryd.strings_Join_none none 0 ⟨#[44]⟩ _).mono ?_
        rintro x5 w5 ⟨rfl, rfl⟩
        go_wp2
        go_ret
        exact ⟨by rw [show bytesOf (toldL b lo hi) = ⟨#[]⟩ by rw [← HF.out]; rfl]; rfl, hbel⟩
      · go_wp2_with fail
        go_at_call 52
        have hcells : ∀ (i : Nat) x, bs[i]? = some x → wr.cell? ⟨g, 0 + i, none⟩ = some (.string x) := by
          intro i x hx
          have hi2 := (List.getElem?_eq_some_iff.1 hx)
          obtain ⟨hi3, rfl⟩ := hi2
          rw [Nat.zero_add, hown.cellAt i (by omega)]
          simp
        have hgl : g < wr.heap.size := (hown.lt g rfl).2
        refine (Tryd.strings_Join g 0 cap bs ⟨#[44]⟩ _ hcells hgl (by omega) hrest.2.1 HLn.out).mono ?_
        rw [show (Lib.join (bs.map (·.data.toList)) (⟨#[44]⟩ : ByteArray).data.toList) = toldL b lo hi from HF.out]
        rintro x5 w5 ⟨rfl, hb5⟩
        have hbel5 := bthen hbel hb5
        clear hb5 hcells hown hrest
        go_wp2
        go_ret
        exact ⟨rfl, hbel5⟩
end Go.Proofs.YtdpaiaeaamokeaaDoor.Cron
