/- txn: Check: it answers, and where it answers 0 the lists are short. -/
import Derived.Test.YtbheebpfbabffaaGreatWDo
import Derived.Test.YtbheebpfbabffaaGreatVU
set_option linter.unusedSimpArgs false
set_option linter.unusedVariables false
namespace Go.Proofs.YtbheebpfbabffaaGreat.Wat
open Go.RowKit Go Go.Lib Mach Go.MapKept

set_option maxHeartbeats 16000000 in
set_option maxRecDepth 100000 in
theorem check_f {w : World} {N : Nat} (vi vt ve : Value) (I : List Ifr) (T E : List Opr) (hI : RdAt w N vi 5 Ifr.cells I) (hT : RdAt w N vt 6 Opr.cells T) (hE : RdAt w N ve 6 Opr.cells E) (hN : N ≤ w.heap.size) :
    Calls Tryz.prog 115 #[.agg #[vi, vt, ve]] w fun e w2 => (∃ x : Int, e = .returned (.int .i64 x) ∧ (x = 0 → I.length ≤ 32 ∧ T.length ≤ 32 ∧ E.length ≤ 32)) ∧ Below w.heap.size w w2 := by
  have HT : Aside _ := hT
  have HE : Aside _ := hE
  have HI : Aside _ := hI
  obtain ⟨ai, ci, rfl, hrI⟩ := hI
  obtain ⟨at', ct, rfl, hrT⟩ := hT
  obtain ⟨ae, ce, rfl, hrE⟩ := hE
  clear hrT hrE
  obtain ⟨wA, hwA⟩ : ∃ wA, wA = w.alloc (.cells #[.slice ai I.length ci, .slice at' T.length ct, .slice ae E.length ce] 39) := ⟨_, rfl⟩
  have hbA : Below w.heap.size w wA := by rw [hwA]; exact bmore (Below.refl _ _) _
  have hA : Blk wA w.heap.size #[.slice ai I.length ci, .slice at' T.length ct, .slice ae E.length ce] := by rw [hwA]; exact Blk.new _ _ _
  have e1 := hA.cell
  have hbad : ∀ w2, Below w.heap.size w w2 → (∃ x : Int, Ending.returned (.int .i64 4) = .returned (.int .i64 x) ∧ (x = 0 → I.length ≤ 32 ∧ T.length ≤ 32 ∧ E.length ≤ 32)) ∧ Below w.heap.size w w2 := fun w2 h => ⟨⟨4, rfl, fun e => absurd e (by omega)⟩, h⟩
  cases hi : decide ((32 : Int) < I.length) with
  | true =>
    go_enter Tryz.func115, Tryz.ntmps115
    go_upto_region 1 with fail
    rw [← hwA]
    clear hwA
    go_wp2
    go_ret
    exact hbad _ (by first | exact hbA | exact hbA.drew)
  | false =>
    cases ht : decide ((32 : Int) < T.length) with
    | true =>
      go_enter Tryz.func115, Tryz.ntmps115
      go_upto_region 1 with fail
      rw [← hwA]
      clear hwA
      go_wp2
      go_ret
      exact hbad _ (by first | exact hbA | exact hbA.drew)
    | false =>
      cases he : decide ((32 : Int) < E.length) with
      | true =>
        go_enter Tryz.func115, Tryz.ntmps115
        go_upto_region 1 with fail
        rw [← hwA]
        clear hwA
        go_wp2
        go_ret
        exact hbad _ (by first | exact hbA | exact hbA.drew)
      | false =>
        have hlI : I.length ≤ 32 := by simp at hi; omega
        have hlT : T.length ≤ 32 := by simp at ht; omega
        have hlE : E.length ≤ 32 := by simp at he; omega
        have hgood : ∀ (x : Int) w2, Below w.heap.size w w2 → (∃ y : Int, Ending.returned (.int .i64 x) = .returned (.int .i64 y) ∧ (y = 0 → I.length ≤ 32 ∧ T.length ≤ 32 ∧ E.length ≤ 32)) ∧ Below w.heap.size w w2 := fun x w2 h => ⟨⟨x, rfl, fun _ => ⟨hlI, hlT, hlE⟩⟩, h⟩
        clear hbad
        go_enter Tryz.func115, Tryz.ntmps115
        go_upto_region 1 with fail
        rw [← hwA]
        clear hwA
        go_wp2
        have hb0 : Below wA.heap.size wA wA.drew := (Below.refl _ _).drew
        go_loopg [3, 5, 29] I.length (fun kx s3 _ s29 wq => ∃ (j : Nat) (er : Int), j ≤ I.length ∧ s3 = .int .i64 er ∧ s29 = .int .i64 j ∧ kx = I.length - j ∧ Below wA.heap.size wA wq)
        case atStart => exact ⟨0, 0, Nat.zero_le _, rfl, rfl, rfl, by first | exact Below.refl _ _ | exact (Below.refl _ _).drew⟩
        case round =>
          obtain ⟨j, er, hj, rfl, rfl, hkx, hbr⟩ := hrel
          have hbw := bthen hbA hbr
          by_cases hjl : j < I.length
          · obtain hnil | ⟨b, o, ha, hbl, hc⟩ := hrI
            · rw [hnil] at hjl; exact absurd hjl (Nat.not_lt_zero _)
            subst ha
            obtain ⟨x, hx⟩ : ∃ x, I[j]? = some x := ⟨_, List.getElem?_eq_getElem hjl⟩
            have hci := fun q u hq => (World.cell?_of_block (w := w) (hbw.block b (by omega))).trans (hc j x hx q u hq)
            obtain ⟨k, tg, sg, n, t⟩ := x
            have f0 : wr.cell? ⟨b, o + j * 5, none⟩ = _ := hci 0 _ rfl
            have f1 := hci 1 _ rfl
            have f2 := hci 2 _ rfl
            have f3 := hci 3 _ rfl
            have f4 := hci 4 _ rfl
            clear hci hx hc
            go_wp2_with fail
            go_at_call 147
            obtain ⟨wB, hwB⟩ : ∃ wB, wB = wr.alloc (.cells #[.string k, .int .i64 tg, .int .i64 sg, .int .i64 n, .string t] 167) := ⟨_, rfl⟩
            have hbB : Below wA.heap.size wA wB := by rw [hwB]; exact bmore hbr _
            rw [← hwB]
            clear hwB f0 f1 f2 f3 f4
            refine (checkIf_f k t tg sg n _).mono ?_
            rintro e w3 ⟨⟨v, rfl⟩, hb3⟩
            have hb3 := bthen hbB hb3
            go_wp2_with fail
            go_at_call 146
            refine (first_any _ 2 _ (by omega) ?_).mono ?_
            · intro o ho
              first | rw [alloc_new] | rw [cell_drew, alloc_new]
              obtain rfl | rfl : o = 0 ∨ o = 1 := by omega
              · exact ⟨_, rfl⟩
              · exact ⟨_, rfl⟩
            rintro e w4 ⟨⟨v2, rfl⟩, rfl⟩
            go_wp2
            go_roundg (I.length - (j + 1))
            case measure => omega
            case rel => exact ⟨j + 1, v2, by omega, rfl, by simp, rfl, by first | exact bmore hb3 _ | exact (bmore hb3 _).drew⟩
          · have e2 := (hA.keep hbr).cell
            go_wp2
            obtain ⟨wS, hwS⟩ : ∃ wS, wS = wr.alloc (.cells #[.slice at' T.length ct, .slice ae E.length ce] 37) := ⟨_, rfl⟩
            have hbS : Below w.heap.size w wS := by rw [hwS]; exact bmore hbw _
            have hS : Blk wS wr.heap.size #[.slice at' T.length ct, .slice ae E.length ce] := by rw [hwS]; exact Blk.new _ _ _
            have hAS := (hA.keep hbr).alloc (.cells #[.slice at' T.length ct, .slice ae E.length ce] 37)
            rw [← hwS] at hAS ⊢
            clear hwS e2 e1
            generalize wr.heap.size = pS at hS ⊢
            have HH : Aside _ := hrI
            clear hrI hbr hbw hbA hA
            have hx0 : ∃ er', er' = er := ⟨_, rfl⟩
            go_loopg [3, 7, 45] 2 (fun kx s3 _ s45 wq => ∃ (i : Nat) (er : Int), i ≤ 2 ∧ s3 = .int .i64 er ∧ s45 = .int .i64 i ∧ kx = 2 - i ∧ Below wS.heap.size wS wq)
            case atStart => exact ⟨0, er, Nat.zero_le _, rfl, rfl, rfl, by first | exact Below.refl _ _ | exact (Below.refl _ _).drew⟩
            case round =>
              obtain ⟨i, er, hi2, rfl, rfl, hkx, hbr⟩ := hrel
              have hbw := bthen hbS hbr
              cases hib : decide ((i : Int) < 2) with
              | true =>
                have hil : i < 2 := by simp at hib; omega
                have HIL : Aside _ := hil
                obtain ⟨a, l, c, hcell, hrd, hll⟩ : ∃ (a : Option Addr) (l : List Opr) (c : Nat), wr.cell? ⟨pS, i, none⟩ = some (.slice a l.length c) ∧ RdAt w N (.slice a l.length c) 6 Opr.cells l ∧ l.length ≤ 32 := by
                  have hcc := fun o => (hS.keep hbr).cell o
                  obtain rfl | rfl : i = 0 ∨ i = 1 := by omega
                  · exact ⟨_, T, _, hcc 0, HT.out, hlT⟩
                  · exact ⟨_, E, _, hcc 1, HE.out, hlE⟩
                go_wp2
                clear hil
                obtain ⟨wi, hwi⟩ : ∃ wi, wi = wr := ⟨_, rfl⟩
                have hbi : Below wS.heap.size wS wi := by rw [hwi]; exact hbr
                have hbwi : Below w.heap.size w wi := by rw [hwi]; exact hbw
                rw [← hwi]
                clear hwi hcell hbr hbw
                go_loopg [3, 9, 51] l.length (fun kx s3 _ s51 wq => ∃ (n : Nat) (er : Int), n ≤ l.length ∧ s3 = .int .i64 er ∧ s51 = .int .i64 n ∧ kx = l.length - n ∧ Below wS.heap.size wS wq)
                case atStart => exact ⟨0, er, Nat.zero_le _, rfl, rfl, rfl, hbi⟩
                case round =>
                  obtain ⟨n, er, hn, rfl, rfl, hkn, hbr⟩ := hrel
                  have hbw := bthen hbS hbr
                  by_cases hnl : n < l.length
                  · obtain ⟨a2, c2, hv2, hrd⟩ := hrd
                    obtain ⟨rfl, rfl⟩ : a = a2 ∧ c = c2 := by injection hv2 with q1 q2 q3; exact ⟨q1, q3⟩
                    obtain hnil | ⟨b, o, ha, hbl, hc⟩ := hrd
                    · rw [hnil] at hnl; exact absurd hnl (Nat.not_lt_zero _)
                    subst ha
                    obtain ⟨x, hx⟩ : ∃ x, l[n]? = some x := ⟨_, List.getElem?_eq_getElem hnl⟩
                    have hci := fun q u hq => (World.cell?_of_block (w := w) (hbw.block b (by omega))).trans (hc n x hx q u hq)
                    have hop := checkOp_f x
                    obtain ⟨kd, k, en, vl, le, li⟩ := x
                    have f0 : wr.cell? ⟨b, o + n * 6, none⟩ = _ := hci 0 _ rfl
                    have f1 := hci 1 _ rfl
                    have f2 := hci 2 _ rfl
                    have f3 := hci 3 _ rfl
                    have f4 := hci 4 _ rfl
                    have f5 := hci 5 _ rfl
                    clear hci hx hc hv2
                    unfold Opr.cells at hop
                    go_wp2_with fail
                    go_at_call 148
                    obtain ⟨wB, hwB⟩ : ∃ wB, wB = wr.alloc (.cells #[.int .i64 kd, .string k, .string en, .string vl, .int .i64 le, .int .i64 li] 72) := ⟨_, rfl⟩
                    have hbB : Below wS.heap.size wS wB := by rw [hwB]; exact bmore hbr _
                    rw [← hwB]
                    clear hwB f0 f1 f2 f3 f4 f5
                    refine (hop _).mono ?_
                    rintro e w3 ⟨⟨v, rfl⟩, hb3⟩
                    have hb3 := bthen hbB hb3
                    clear hop
                    go_wp2_with fail
                    go_at_call 146
                    refine (first_any _ 2 _ (by omega) ?_).mono ?_
                    · intro o ho
                      first | rw [alloc_new] | rw [cell_drew, alloc_new]
                      obtain rfl | rfl : o = 0 ∨ o = 1 := by omega
                      · exact ⟨_, rfl⟩
                      · exact ⟨_, rfl⟩
                    rintro e w4 ⟨⟨v2, rfl⟩, rfl⟩
                    go_wp2
                    go_roundg (l.length - (n + 1))
                    case measure => omega
                    case rel => exact ⟨n + 1, v2, by omega, rfl, by simp, rfl, by first | exact bmore hb3 _ | exact (bmore hb3 _).drew⟩
                  · go_wp2
                    go_roundg (2 - (i + 1))
                    case measure => have := HIL.out; omega
                    case rel => have := HIL.out; exact ⟨i + 1, er, by omega, rfl, by simp, rfl, hbr⟩
              | false =>
                have e2 := (hAS.keep hbr).cell
                go_wp2_with fail
                go_at_call 150
                refine (twice_f _ T _ (RdAt.row (show RdAt w N _ 6 Opr.cells T from HT.out) hN hbw) (by omega)).mono ?_
                rintro e w4 ⟨⟨b4, rfl⟩, hb4⟩
                have hb4' := bthen hbr hb4
                have e3 := (hAS.keep hb4').cell
                have hbw4 := bthen hbS hb4'
                clear e2
                cases b4 with
                | true =>
                  go_wp2_with fail
                  have hbX := hbw4
                  go_at_call 149
                  refine (must_b _ _ _).mono ?_
                  rintro e w6 ⟨rfl, rfl⟩
                  go_wp2_with fail
                  go_at_call 146
                  refine (first_any _ 2 _ (by omega) ?_).mono ?_
                  · intro o ho
                    first | rw [alloc_new] | rw [cell_drew, alloc_new]
                    obtain rfl | rfl : o = 0 ∨ o = 1 := by omega
                    · exact ⟨_, rfl⟩
                    · exact ⟨_, rfl⟩
                  rintro e w7 ⟨⟨v7, rfl⟩, rfl⟩
                  go_wp2
                  go_ret
                  exact hgood _ _ (by first | exact bmore hbX _ | exact (bmore hbX _).drew)
                | false =>
                  go_wp2_with fail
                  go_at_call 150
                  refine (twice_f _ E _ (RdAt.row (show RdAt w N _ 6 Opr.cells E from HE.out) hN hbw4) (by omega)).mono ?_
                  rintro e w5 ⟨⟨b5, rfl⟩, hb5⟩
                  have hbX := bthen hbw4 hb5
                  clear e3
                  go_wp2_with fail
                  go_at_call 149
                  refine (must_b _ _ _).mono ?_
                  rintro e w6 ⟨rfl, rfl⟩
                  go_wp2_with fail
                  go_at_call 146
                  refine (first_any _ 2 _ (by omega) ?_).mono ?_
                  · intro o ho
                    first | rw [alloc_new] | rw [cell_drew, alloc_new]
                    obtain rfl | rfl : o = 0 ∨ o = 1 := by omega
                    · exact ⟨_, rfl⟩
                    · exact ⟨_, rfl⟩
                  rintro e w7 ⟨⟨v7, rfl⟩, rfl⟩
                  go_wp2
                  go_ret
                  exact hgood _ _ (by first | exact bmore hbX _ | exact (bmore hbX _).drew)
end Go.Proofs.YtbheebpfbabffaaGreat.Wat

