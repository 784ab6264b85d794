/- TopWatches: Few: it answers. -/
import Derived.BigQuiet
import Derived.Deep.DeepCutAuto
import Derived.Test.YtbheebpfbabffaaGreatVV
import Derived.Test.YtbheebpfbabffaaGreatWDoes
set_option linter.unusedSimpArgs false
set_option linter.unusedVariables false
namespace Go.Proofs.YtbheebpfbabffaaGreat.Wat
open Go.RowKit Go Go.Lib Mach Go.MapKept

set_option maxHeartbeats 16000000 in
set_option maxRecDepth 100000 in
theorem few_f {w : World} {N : Nat} (vi vt ve : Value) (I : List Ifr) (T E : List Opr) (hI : RdAt w N vi 5 Ifr.cells I) (hT : RdAt w N vt 6 Opr.cells T) (hE : RdAt w N ve 6 Opr.cells E) (hN : N ≤ w.heap.size) :
    Calls Tryz.prog 30 #[.agg #[vi, vt, ve]] w fun e w' => AnyBool e ∧ Below w.heap.size w w' := by
  obtain ⟨ai, ci, rfl, hrI⟩ := hI
  obtain ⟨at', ct, rfl, hrT⟩ := hT
  obtain ⟨ae, ce, rfl, hrE⟩ := hE
  have HRI : Aside _ := hrI
  have HRT : Aside _ := hrT
  have HRE : Aside _ := hrE
  clear hrI hrT hrE
  obtain ⟨wa, hwa⟩ : ∃ wa, wa = w.alloc (.cells #[.slice ai I.length ci, .slice at' T.length ct, .slice ae E.length ce] 39) := ⟨_, rfl⟩
  have hb0 : Below w.heap.size w wa := by rw [hwa]; exact bmore (Below.refl _ _) _
  have hA : Blk wa w.heap.size #[.slice ai I.length ci, .slice at' T.length ct, .slice ae E.length ce] := by rw [hwa]; exact Blk.new _ _ _
  go_enter Tryz.func30, Tryz.ntmps30
  go_wp2
  rw [← hwa]
  clear hwa
  go_loopg [3, 4] I.length (fun kx s3 s4 wq => ∃ (j : Nat) (z : Int), s4 = .int .i64 j ∧ s3 = .int .i64 z ∧ j ≤ I.length ∧ kx = I.length - j ∧ Below wa.heap.size wa wq)
  case atStart => exact ⟨0, _, rfl, rfl, Nat.zero_le _, rfl, (Below.refl _ _)⟩
  case round =>
    obtain ⟨j, z, rfl, rfl, hj, hkx, hbr0⟩ := hrel
    have d1 := (hA.keep hbr0).cell
    have d2 : ∀ o, wr.drew.cell? ⟨w.heap.size, o, none⟩ = _ := (hA.keep hbr0).cell
    by_cases hjl : j < I.length
    · by_cases hj3 : j < 300
      · obtain hnil | ⟨b, o, ha, hbl, hc⟩ := HRI.out
        · rw [hnil] at hjl; exact absurd hjl (Nat.not_lt_zero j)
        subst ha
        obtain ⟨x, hx⟩ : ∃ x, I[j]? = some x := ⟨_, List.getElem?_eq_getElem hjl⟩
        have hci := fun q u hq => (World.cell?_of_block (w := w) ((hb0.trans (hbr0.mono hb0.size)).block b (by omega))).trans (hc j x hx q u hq)
        obtain ⟨k0, k1, k2, k3, k4⟩ := x
        have e0 : wr.cell? ⟨b, o + j * 5, none⟩ = _ := hci 0 _ rfl
        have e4 := hci 4 _ rfl
        have hji : (j : Int) < (I.length : Int) := by omega
        clear hci hx hc
        go_wp2_with fail
        go_quiet (fail)
        go_wp2
        go_roundg (I.length - (j + 1))
        case measure => omega
        case rel => exact ⟨j + 1, _, by simp, rfl, by omega, rfl, below_dn hbr0 _⟩
      · skip
        go_wp2
        go_loopg [3, 5] T.length (fun kx s3 s5 wq => ∃ (j : Nat) (z : Int), s5 = .int .i64 j ∧ s3 = .int .i64 z ∧ j ≤ T.length ∧ kx = T.length - j ∧ Below wa.heap.size wa wq)
        case atStart => exact ⟨0, _, rfl, rfl, Nat.zero_le _, rfl, hbr0⟩
        case round =>
          obtain ⟨j, z, rfl, rfl, hj, hkx, hbr1⟩ := hrel
          have d1 := (hA.keep hbr1).cell
          have d2 : ∀ o, wr.drew.cell? ⟨w.heap.size, o, none⟩ = _ := (hA.keep hbr1).cell
          by_cases hjl : j < T.length
          · by_cases hj3 : j < 300
            · obtain hnil | ⟨b, o, ha, hbl, hc⟩ := HRT.out
              · rw [hnil] at hjl; exact absurd hjl (Nat.not_lt_zero j)
              subst ha
              obtain ⟨x, hx⟩ : ∃ x, T[j]? = some x := ⟨_, List.getElem?_eq_getElem hjl⟩
              have hci := fun q u hq => (World.cell?_of_block (w := w) ((hb0.trans (hbr1.mono hb0.size)).block b (by omega))).trans (hc j x hx q u hq)
              obtain ⟨k0, k1, k2, k3, k4, k5⟩ := x
              have e1 := hci 1 _ rfl
              have e2 := hci 2 _ rfl
              have e3 := hci 3 _ rfl
              have hji : (j : Int) < (T.length : Int) := by omega
              clear hci hx hc
              go_wp2_with fail
              go_quiet (fail)
              go_wp2
              go_roundg (T.length - (j + 1))
              case measure => omega
              case rel => exact ⟨j + 1, _, by simp, rfl, by omega, rfl, below_dn hbr1 _⟩
            · skip
              go_wp2
              go_loopg [3, 6] E.length (fun kx s3 s6 wq => ∃ (j : Nat) (z : Int), s6 = .int .i64 j ∧ s3 = .int .i64 z ∧ j ≤ E.length ∧ kx = E.length - j ∧ Below wa.heap.size wa wq)
              case atStart => exact ⟨0, _, rfl, rfl, Nat.zero_le _, rfl, hbr1⟩
              case round =>
                obtain ⟨j, z, rfl, rfl, hj, hkx, hbr2⟩ := hrel
                have d1 := (hA.keep hbr2).cell
                have d2 : ∀ o, wr.drew.cell? ⟨w.heap.size, o, none⟩ = _ := (hA.keep hbr2).cell
                by_cases hjl : j < E.length
                · by_cases hj3 : j < 300
                  · obtain hnil | ⟨b, o, ha, hbl, hc⟩ := HRE.out
                    · rw [hnil] at hjl; exact absurd hjl (Nat.not_lt_zero j)
                    subst ha
                    obtain ⟨x, hx⟩ : ∃ x, E[j]? = some x := ⟨_, List.getElem?_eq_getElem hjl⟩
                    have hci := fun q u hq => (World.cell?_of_block (w := w) ((hb0.trans (hbr2.mono hb0.size)).block b (by omega))).trans (hc j x hx q u hq)
                    obtain ⟨k0, k1, k2, k3, k4, k5⟩ := x
                    have e1 := hci 1 _ rfl
                    have e2 := hci 2 _ rfl
                    have e3 := hci 3 _ rfl
                    have hji : (j : Int) < (E.length : Int) := by omega
                    clear hci hx hc
                    go_wp2_with fail
                    go_quiet (fail)
                    go_wp2
                    go_roundg (E.length - (j + 1))
                    case measure => omega
                    case rel => exact ⟨j + 1, _, by simp, rfl, by omega, rfl, below_dn hbr2 _⟩
                  · skip
                    go_wp2
                    all_goals (go_ret; exact ⟨⟨_, rfl⟩, hb0.trans (hbr2.mono hb0.size)⟩)
                · skip
                  go_wp2
                  all_goals (go_ret; exact ⟨⟨_, rfl⟩, hb0.trans (hbr2.mono hb0.size)⟩)
          · skip
            go_wp2
            go_loopg [3, 6] E.length (fun kx s3 s6 wq => ∃ (j : Nat) (z : Int), s6 = .int .i64 j ∧ s3 = .int .i64 z ∧ j ≤ E.length ∧ kx = E.length - j ∧ Below wa.heap.size wa wq)
            case atStart => exact ⟨0, _, rfl, rfl, Nat.zero_le _, rfl, hbr1⟩
            case round =>
              obtain ⟨j, z, rfl, rfl, hj, hkx, hbr2⟩ := hrel
              have d1 := (hA.keep hbr2).cell
              have d2 : ∀ o, wr.drew.cell? ⟨w.heap.size, o, none⟩ = _ := (hA.keep hbr2).cell
              by_cases hjl : j < E.length
              · by_cases hj3 : j < 300
                · obtain hnil | ⟨b, o, ha, hbl, hc⟩ := HRE.out
                  · rw [hnil] at hjl; exact absurd hjl (Nat.not_lt_zero j)
                  subst ha
                  obtain ⟨x, hx⟩ : ∃ x, E[j]? = some x := ⟨_, List.getElem?_eq_getElem hjl⟩
                  have hci := fun q u hq => (World.cell?_of_block (w := w) ((hb0.trans (hbr2.mono hb0.size)).block b (by omega))).trans (hc j x hx q u hq)
                  obtain ⟨k0, k1, k2, k3, k4, k5⟩ := x
                  have e1 := hci 1 _ rfl
                  have e2 := hci 2 _ rfl
                  have e3 := hci 3 _ rfl
                  have hji : (j : Int) < (E.length : Int) := by omega
                  clear hci hx hc
                  go_wp2_with fail
                  go_quiet (fail)
                  go_wp2
                  go_roundg (E.length - (j + 1))
                  case measure => omega
                  case rel => exact ⟨j + 1, _, by simp, rfl, by omega, rfl, below_dn hbr2 _⟩
                · skip
                  go_wp2
                  all_goals (go_ret; exact ⟨⟨_, rfl⟩, hb0.trans (hbr2.mono hb0.size)⟩)
              · skip
                go_wp2
                all_goals (go_ret; exact ⟨⟨_, rfl⟩, hb0.trans (hbr2.mono hb0.size)⟩)
    · skip
      go_wp2
      go_loopg [3, 5] T.length (fun kx s3 s5 wq => ∃ (j : Nat) (z : Int), s5 = .int .i64 j ∧ s3 = .int .i64 z ∧ j ≤ T.length ∧ kx = T.length - j ∧ Below wa.heap.size wa wq)
      case atStart => exact ⟨0, _, rfl, rfl, Nat.zero_le _, rfl, hbr0⟩
      case round =>
        obtain ⟨j, z, rfl, rfl, hj, hkx, hbr1⟩ := hrel
        have d1 := (hA.keep hbr1).cell
        have d2 : ∀ o, wr.drew.cell? ⟨w.heap.size, o, none⟩ = _ := (hA.keep hbr1).cell
        by_cases hjl : j < T.length
        · by_cases hj3 : j < 300
          · obtain hnil | ⟨b, o, ha, hbl, hc⟩ := HRT.out
            · rw [hnil] at hjl; exact absurd hjl (Nat.not_lt_zero j)
            subst ha
            obtain ⟨x, hx⟩ : ∃ x, T[j]? = some x := ⟨_, List.getElem?_eq_getElem hjl⟩
            have hci := fun q u hq => (World.cell?_of_block (w := w) ((hb0.trans (hbr1.mono hb0.size)).block b (by omega))).trans (hc j x hx q u hq)
            obtain ⟨k0, k1, k2, k3, k4, k5⟩ := x
            have e1 := hci 1 _ rfl
            have e2 := hci 2 _ rfl
            have e3 := hci 3 _ rfl
            have hji : (j : Int) < (T.length : Int) := by omega
            clear hci hx hc
            go_wp2_with fail
            go_quiet (fail)
            go_wp2
            go_roundg (T.length - (j + 1))
            case measure => omega
            case rel => exact ⟨j + 1, _, by simp, rfl, by omega, rfl, below_dn hbr1 _⟩
          · skip
            go_wp2
            go_loopg [3, 6] E.length (fun kx s3 s6 wq => ∃ (j : Nat) (z : Int), s6 = .int .i64 j ∧ s3 = .int .i64 z ∧ j ≤ E.length ∧ kx = E.length - j ∧ Below wa.heap.size wa wq)
            case atStart => exact ⟨0, _, rfl, rfl, Nat.zero_le _, rfl, hbr1⟩
            case round =>
              obtain ⟨j, z, rfl, rfl, hj, hkx, hbr2⟩ := hrel
              have d1 := (hA.keep hbr2).cell
              have d2 : ∀ o, wr.drew.cell? ⟨w.heap.size, o, none⟩ = _ := (hA.keep hbr2).cell
              by_cases hjl : j < E.length
              · by_cases hj3 : j < 300
                · obtain hnil | ⟨b, o, ha, hbl, hc⟩ := HRE.out
                  · rw [hnil] at hjl; exact absurd hjl (Nat.not_lt_zero j)
                  subst ha
                  obtain ⟨x, hx⟩ : ∃ x, E[j]? = some x := ⟨_, List.getElem?_eq_getElem hjl⟩
                  have hci := fun q u hq => (World.cell?_of_block (w := w) ((hb0.trans (hbr2.mono hb0.size)).block b (by omega))).trans (hc j x hx q u hq)
                  obtain ⟨k0, k1, k2, k3, k4, k5⟩ := x
                  have e1 := hci 1 _ rfl
                  have e2 := hci 2 _ rfl
                  have e3 := hci 3 _ rfl
                  have hji : (j : Int) < (E.length : Int) := by omega
                  clear hci hx hc
                  go_wp2_with fail
                  go_quiet (fail)
                  go_wp2
                  go_roundg (E.length - (j + 1))
                  case measure => omega
                  case rel => exact ⟨j + 1, _, by simp, rfl, by omega, rfl, below_dn hbr2 _⟩
                · skip
                  go_wp2
                  all_goals (go_ret; exact ⟨⟨_, rfl⟩, hb0.trans (hbr2.mono hb0.size)⟩)
              · skip
                go_wp2
                all_goals (go_ret; exact ⟨⟨_, rfl⟩, hb0.trans (hbr2.mono hb0.size)⟩)
        · skip
          go_wp2
          go_loopg [3, 6] E.length (fun kx s3 s6 wq => ∃ (j : Nat) (z : Int), s6 = .int .i64 j ∧ s3 = .int .i64 z ∧ j ≤ E.length ∧ kx = E.length - j ∧ Below wa.heap.size wa wq)
          case atStart => exact ⟨0, _, rfl, rfl, Nat.zero_le _, rfl, hbr1⟩
          case round =>
            obtain ⟨j, z, rfl, rfl, hj, hkx, hbr2⟩ := hrel
            have d1 := (hA.keep hbr2).cell
            have d2 : ∀ o, wr.drew.cell? ⟨w.heap.size, o, none⟩ = _ := (hA.keep hbr2).cell
            by_cases hjl : j < E.length
            · by_cases hj3 : j < 300
              · obtain hnil | ⟨b, o, ha, hbl, hc⟩ := HRE.out
                · rw [hnil] at hjl; exact absurd hjl (Nat.not_lt_zero j)
                subst ha
                obtain ⟨x, hx⟩ : ∃ x, E[j]? = some x := ⟨_, List.getElem?_eq_getElem hjl⟩
                have hci := fun q u hq => (World.cell?_of_block (w := w) ((hb0.trans (hbr2.mono hb0.size)).block b (by omega))).trans (hc j x hx q u hq)
                obtain ⟨k0, k1, k2, k3, k4, k5⟩ := x
                have e1 := hci 1 _ rfl
                have e2 := hci 2 _ rfl
                have e3 := hci 3 _ rfl
                have hji : (j : Int) < (E.length : Int) := by omega
                clear hci hx hc
                go_wp2_with fail
                go_quiet (fail)
                go_wp2
                go_roundg (E.length - (j + 1))
                case measure => omega
                case rel => exact ⟨j + 1, _, by simp, rfl, by omega, rfl, below_dn hbr2 _⟩
              · skip
                go_wp2
                all_goals (go_ret; exact ⟨⟨_, rfl⟩, hb0.trans (hbr2.mono hb0.size)⟩)
            · skip
              go_wp2
              all_goals (go_ret; exact ⟨⟨_, rfl⟩, hb0.trans (hbr2.mono hb0.size)⟩)
end Go.Proofs.YtbheebpfbabffaaGreat.Wat

