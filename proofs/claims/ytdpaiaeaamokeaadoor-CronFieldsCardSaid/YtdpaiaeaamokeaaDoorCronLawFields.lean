/- CronFields, walked. -/
import Derived.Test.YtdpaiaeaamokeaaDoorCronListK
namespace Go.Proofs.YtdpaiaeaamokeaaDoor.Cron
open Go.RowKit Go Go.Proofs.YtdpaiaeaamokeaaDoor.Cal
set_option maxHeartbeats 4000000 in
set_option maxRecDepth 100000 in
theorem fields_walk (w : World) (ao0 : Option Addr) (cap0 : Nat) (xs0 : List Int) (v0 : SlOk w ao0 xs0 ∧ xs0.length ≤ 140737488355328) (ao1 : Option Addr) (cap1 : Nat) (xs1 : List Int) (v1 : SlOk w ao1 xs1 ∧ xs1.length ≤ 140737488355328) (ao2 : Option Addr) (cap2 : Nat) (xs2 : List Int) (v2 : SlOk w ao2 xs2 ∧ xs2.length ≤ 140737488355328) (a3 : Int) (w3 : (Lit.int .i64 a3).wf = true) (hL : Laid w) :
    Calls Tryd.prog 5 #[.slice ao0 xs0.length cap0, .slice ao1 xs1.length cap1, .slice ao2 xs2.length cap2, .int .i64 a3] w fun e w' => e = .returned (.bool true) ∧ Below w.heap.size w w' := by
  obtain ⟨v0, l0⟩ := v0
  obtain ⟨v1, l1⟩ := v1
  obtain ⟨v2, l2⟩ := v2
  have HS0 := Lib.hid v0
  have HS1 := Lib.hid v1
  have HS2 := Lib.hid v2
  clear v0 v1 v2 w3
  go_enter Tryd.func5, Tryd.ntmps5
  go_wp2_with fail
  go_at_call 15
  refine (known6 _ hL).mono ?_
  rintro x wk0 ⟨rfl, hbel⟩
  by_cases z0 : xs0.length = 0
  · have q0 : ((xs0.length : Int) == 0) = true := by simp only [beq_iff_eq]; omega
    clear z0
    go_wp2
    go_ret
    exact ⟨rfl, hbel⟩
  have q0 : ((xs0.length : Int) == 0) = false := by simp only [beq_eq_false_iff_ne]; omega
  by_cases z1 : xs1.length = 0
  · have q1 : ((xs1.length : Int) == 0) = true := by simp only [beq_iff_eq]; omega
    clear z1
    go_wp2
    go_ret
    exact ⟨rfl, hbel⟩
  have q1 : ((xs1.length : Int) == 0) = false := by simp only [beq_eq_false_iff_ne]; omega
  by_cases z2 : xs2.length = 0
  · have q2 : ((xs2.length : Int) == 0) = true := by simp only [beq_iff_eq]; omega
    clear z2
    go_wp2
    go_ret
    exact ⟨rfl, hbel⟩
  have q2 : ((xs2.length : Int) == 0) = false := by simp only [beq_eq_false_iff_ne]; omega
  by_cases h20 : 20 < xs0.length + xs1.length + xs2.length
  · have q3 : (20 : Int) < (xs0.length : Int) + (xs1.length : Int) + (xs2.length : Int) := by omega
    go_wp2
    go_ret
    exact ⟨rfl, hbel⟩
  have q3 : ¬ (20 : Int) < (xs0.length : Int) + (xs1.length : Int) + (xs2.length : Int) := by omega
  go_wp2
  obtain ⟨N0, hN0⟩ : ∃ N0, xs0.map (fun x => (x % 60).toNat) = N0 := ⟨_, rfl⟩
  obtain ⟨N1, hN1⟩ : ∃ N1, xs1.map (fun x => (x % 24).toNat) = N1 := ⟨_, rfl⟩
  obtain ⟨N2, hN2⟩ : ∃ N2, xs2.map (fun x => (x % 12).toNat + 1) = N2 := ⟨_, rfl⟩
  have HN0 := Lib.hid hN0
  have HN1 := Lib.hid hN1
  have HN2 := Lib.hid hN2
  have n0 : N0.length = xs0.length := by rw [← hN0]; simp
  have n1 : N1.length = xs1.length := by rw [← hN1]; simp
  have n2 : N2.length = xs2.length := by rw [← hN2]; simp
  clear hN0 hN1 hN2
  have hfi0 := fi_start w wk0 #[.slice ao0 xs0.length cap0, .slice ao1 xs1.length cap1, .slice ao2 xs2.length cap2] hbel
  generalize (((wk0.alloc (.cells #[.slice ao0 xs0.length cap0, .slice ao1 xs1.length cap1, .slice ao2 xs2.length cap2] 22)).alloc (.cells #[.int .i64 60, .int .i64 24, .int .i64 12] 3)).alloc (.cells Tryd.zeroCells48 48)).alloc (.cells #[.string ⟨#[]⟩, .string ⟨#[]⟩, .string ⟨#[]⟩] 49) = wl at *
  go_loopg [13] 3 (fun gk fv wr => ∃ (f : Nat) (P0 P1 P2 : ByteArray), fv = .int .i64 f ∧ f ≤ 3 ∧ FI wk0.heap.size w wr #[.slice ao0 xs0.length cap0, .slice ao1 xs1.length cap1, .slice ao2 xs2.length cap2] (if 0 < f then N0 else []) (if 1 < f then N1 else []) (if 2 < f then N2 else []) P0 P1 P2 ∧ Hid (P0.data.toList = txtN (if 0 < f then N0 else [])) ∧ Hid (P1.data.toList = txtN (if 1 < f then N1 else [])) ∧ Hid (P2.data.toList = txtN (if 2 < f then N2 else [])) ∧ gk = 3 - f)
  case atStart => exact ⟨0, ⟨#[]⟩, ⟨#[]⟩, ⟨#[]⟩, rfl, by omega, hfi0, rfl, rfl, rfl, rfl⟩
  case round =>
    clear hfi0
    obtain ⟨f, P0, P1, P2, rfl, hf, hfi, HP0, HP1, HP2, hgk⟩ := hrel
    have HG := Lib.hid hgk
    clear hgk
    have h4 : f = 0 ∨ f = 1 ∨ f = 2 ∨ f = 3 := by omega
    rcases h4 with rfl | rfl | rfl | rfl
    · skip
      have hrow := hfi.row 0
      simp at hrow
      go_wp2
      go_loopg [14] xs0.length (fun gk2 iv wr => ∃ (i : Nat) (P0 P1 P2 : ByteArray), iv = .int .i64 i ∧ i ≤ xs0.length ∧ FI wk0.heap.size w wr #[.slice ao0 xs0.length cap0, .slice ao1 xs1.length cap1, .slice ao2 xs2.length cap2] (N0.take i) ([]) ([]) P0 P1 P2 ∧ Hid (P0.data.toList = txtN (N0.take i)) ∧ Hid (P1.data.toList = txtN ([])) ∧ Hid (P2.data.toList = txtN ([])) ∧ gk2 = xs0.length - i)
      case atStart => exact ⟨0, P0, P1, P2, rfl, by omega, hfi, HP0, HP1, HP2, rfl⟩
      case round =>
        clear hfi HP0 HP1 HP2 hrow
        obtain ⟨i, P0, P1, P2, rfl, hi, hfi, HP0, HP1, HP2, hgk⟩ := hrel
        have HG2 := Lib.hid hgk
        clear hgk
        have hrow := hfi.row 0
        have hmost := hfi.most 0
        simp at hrow hmost
        by_cases hlt : i < xs0.length
        · have hlti : (i : Int) < (xs0.length : Int) := by omega
          have hPz := part_size P0 N0 i HP0.out (by omega)
          obtain ⟨b, o, rfl, hbb, hcell, hx1, hx2⟩ := HS0.out i hlt
          have hcw : wr.cell? ⟨b, o + i, none⟩ = some (.int .i64 (xs0.getD i 0)) := (keep0 hfi.bel hbb (o + i)).trans hcell
          obtain ⟨x, hx⟩ : ∃ x, xs0.getD i 0 = x := ⟨_, rfl⟩
          rw [hx] at hcw
          obtain ⟨q, hq⟩ : ∃ q : Nat, (x % 60).toNat = q := ⟨_, rfl⟩
          have HTK : Hid (N0.take (i + 1) = N0.take i ++ [q]) := map_take _ _ _ HN0.out i hlt q (by rw [hx]; exact hq)
          have hq60 : q < 60 := by omega
          have HW : Hid (∀ w, Calls Tryd.prog 21 #[.int .i64 x, .int .i64 60] w fun e w' => e = .returned (.int .i64 (q : Int)) ∧ w = w') := by
            intro w; rw [show (q : Int) = x % 60 by omega]; exact within6 x 60 w (by omega) (by omega)
          clear hcell hx1 hx2 hx hq
          go_wp2_with fail
          go_quiet ((go_at_call 21; exact quiet_same (HW.out _)))
          have hfid := fun dn => hfi.drewN dn
          have hh0 := hfi.has0 q hq60
          have hf0 := hfi.hfz (q)
          have hp0 := hfi.part 0
          have hpf0 := hfi.pfz 0
          simp at hp0
          have k1 : ¬ 9223372036854775807 < P0.size + 1 := by omega
          have hP : IntKind.u8.wrap (IntKind.i64.wrap (48 + IntKind.i64.wrap ((q : Int) / 10))) = ((48 + q / 10 : Nat) : Int) := by
            rw [show IntKind.i64.wrap ((q : Int) / 10) = ((q / 10 : Nat) : Int) by rw [IntKind.wrap_i64]; omega]; exact dig_u8L _ (by omega)
          have hQ : IntKind.u8.wrap (IntKind.i64.wrap (48 + (q : Int).tmod 10)) = ((48 + q % 10 : Nat) : Int) := by
            rw [show (q : Int).tmod 10 = ((q % 10 : Nat) : Int) by rw [Int.tmod_eq_emod_of_nonneg (by omega)]; omega]; exact dig_u8L _ (by omega)
          have tP : ((48 : Int) + (q : Int) / 10).toNat = 48 + q / 10 := by omega
          have tQ : ((48 : Int) + (q : Int) % 10).toNat = 48 + q % 10 := by omega
          have hcv2 := conv2L
          by_cases hi0 : 0 < i
          · skip
            have hii : (0 : Int) < (i : Int) := by omega
            have HT : Hid ((P0 ++ ⟨#[44]⟩ ++ ⟨#[UInt8.ofNat (48 + q / 10), UInt8.ofNat (48 + q % 10)]⟩).data.toList = txtN (N0.take (i + 1))) := (txt_next P0 N0 i q HP0.out HTK.out (by omega)).1 hi0
            clear hi0
            go_upto_region 21 with fail
            have hfi2 := (((hfi.drewN nq).set0 q hq60).part0 (P0 ++ ⟨#[44]⟩))
            generalize (((wr.drewN nq).setCell ⟨wk0.heap.size + 1 + 1, q, none⟩ (.bool true)).setCell ⟨wk0.heap.size + 1 + 1 + 1, 0, none⟩ (.string (P0 ++ ⟨#[44]⟩))) = W at *
            have HF2 : Hid (FI wk0.heap.size w W #[.slice (some ⟨b, o, none⟩) xs0.length cap0, .slice ao1 xs1.length cap1, .slice ao2 xs2.length cap2] (N0.take i ++ [q]) ([]) ([]) (P0 ++ ⟨#[44]⟩) P1 P2) := hfi2
            have hpp : W.cell? ⟨wk0.heap.size + 1 + 1 + 1, 0, none⟩ = some (.string (P0 ++ ⟨#[44]⟩)) := hfi2.part 0
            have hppf : W.frozen? ⟨wk0.heap.size + 1 + 1 + 1, 0, none⟩ = false := hfi2.pfz 0
            have hWz : wk0.heap.size + 1 + 1 + 1 < W.heap.size := hfi2.top
            have k2 : ¬ 9223372036854775807 < (P0 ++ ⟨#[44]⟩).size + 2 := by rw [ByteArray.size_append]; show ¬ 9223372036854775807 < P0.size + 1 + 2; omega
            clear hfi hfi2 hfid hh0 hf0 hp0 hpf0 hcw hbb hrow hmost
            obtain ⟨PP, hPP⟩ : ∃ PP, P0 ++ ⟨#[44]⟩ = PP := ⟨_, rfl⟩
            rw [hPP] at HT hpp k2
            have HPP := Lib.hid hPP
            clear hPP
            go_region
            all_goals (
              go_wp2
              go_roundg (xs0.length - (i + 1))
              case measure => have := HG2.out; omega
              case rel =>
                refine ⟨i + 1, _, P1, P2, rfl, by omega, ?_, HT, HP1, HP2, rfl⟩
                rw [HTK.out, UInt8.ofNat_add, UInt8.ofNat_add]
                first
                  | exact ((HF2.out.part0 _).alloc _).drew
                  | exact ((HF2.out.part0 _).alloc _)
                  | exact ((HF2.out.alloc _).part0 _).drew
                  | exact ((HF2.out.alloc _).drew.part0 _)
                  | exact ((HF2.out.alloc _).part0 _))
          · skip
            have hii : ¬ (0 : Int) < (i : Int) := by omega
            have HT : Hid ((P0 ++ ⟨#[UInt8.ofNat (48 + q / 10), UInt8.ofNat (48 + q % 10)]⟩).data.toList = txtN (N0.take (i + 1))) := (txt_next P0 N0 i q HP0.out HTK.out (by omega)).2 hi0
            clear hi0
            go_upto_region 21 with fail
            have hfi2 := ((hfi.drewN nq).set0 q hq60)
            generalize ((wr.drewN nq).setCell ⟨wk0.heap.size + 1 + 1, q, none⟩ (.bool true)) = W at *
            have HF2 : Hid (FI wk0.heap.size w W #[.slice (some ⟨b, o, none⟩) xs0.length cap0, .slice ao1 xs1.length cap1, .slice ao2 xs2.length cap2] (N0.take i ++ [q]) ([]) ([]) (P0) P1 P2) := hfi2
            have hpp : W.cell? ⟨wk0.heap.size + 1 + 1 + 1, 0, none⟩ = some (.string (P0)) := hfi2.part 0
            have hppf : W.frozen? ⟨wk0.heap.size + 1 + 1 + 1, 0, none⟩ = false := hfi2.pfz 0
            have hWz : wk0.heap.size + 1 + 1 + 1 < W.heap.size := hfi2.top
            have k2 : ¬ 9223372036854775807 < (P0).size + 2 := by omega
            clear hfi hfi2 hfid hh0 hf0 hp0 hpf0 hcw hbb hrow hmost
            obtain ⟨PP, hPP⟩ : ∃ PP, P0 = PP := ⟨_, rfl⟩
            rw [hPP] at HT hpp k2
            have HPP := Lib.hid hPP
            clear hPP
            go_region
            all_goals (
              go_wp2
              go_roundg (xs0.length - (i + 1))
              case measure => have := HG2.out; omega
              case rel =>
                refine ⟨i + 1, _, P1, P2, rfl, by omega, ?_, HT, HP1, HP2, rfl⟩
                rw [HTK.out, UInt8.ofNat_add, UInt8.ofNat_add]
                first
                  | exact ((HF2.out.part0 _).alloc _).drew
                  | exact ((HF2.out.part0 _).alloc _)
                  | exact ((HF2.out.alloc _).part0 _).drew
                  | exact ((HF2.out.alloc _).drew.part0 _)
                  | exact ((HF2.out.alloc _).part0 _))
        · have hlti : ¬ (i : Int) < (xs0.length : Int) := by omega
          have htk : N0.take i = N0 := List.take_of_length_le (by omega)
          rw [htk] at hfi HP0
          have HFI := Lib.hid hfi
          clear htk hfi
          go_wp2
          go_roundg (3 - 1)
          case measure => have := HG.out; omega
          case rel => exact ⟨1, P0, P1, P2, rfl, by omega, HFI.out, HP0, HP1, HP2, rfl⟩
    · skip
      have hrow := hfi.row 1
      simp at hrow
      go_wp2
      go_loopg [14] xs1.length (fun gk2 iv wr => ∃ (i : Nat) (P0 P1 P2 : ByteArray), iv = .int .i64 i ∧ i ≤ xs1.length ∧ FI wk0.heap.size w wr #[.slice ao0 xs0.length cap0, .slice ao1 xs1.length cap1, .slice ao2 xs2.length cap2] (N0) (N1.take i) ([]) P0 P1 P2 ∧ Hid (P0.data.toList = txtN (N0)) ∧ Hid (P1.data.toList = txtN (N1.take i)) ∧ Hid (P2.data.toList = txtN ([])) ∧ gk2 = xs1.length - i)
      case atStart => exact ⟨0, P0, P1, P2, rfl, by omega, hfi, HP0, HP1, HP2, rfl⟩
      case round =>
        clear hfi HP0 HP1 HP2 hrow
        obtain ⟨i, P0, P1, P2, rfl, hi, hfi, HP0, HP1, HP2, hgk⟩ := hrel
        have HG2 := Lib.hid hgk
        clear hgk
        have hrow := hfi.row 1
        have hmost := hfi.most 1
        simp at hrow hmost
        by_cases hlt : i < xs1.length
        · have hlti : (i : Int) < (xs1.length : Int) := by omega
          have hPz := part_size P1 N1 i HP1.out (by omega)
          obtain ⟨b, o, rfl, hbb, hcell, hx1, hx2⟩ := HS1.out i hlt
          have hcw : wr.cell? ⟨b, o + i, none⟩ = some (.int .i64 (xs1.getD i 0)) := (keep0 hfi.bel hbb (o + i)).trans hcell
          obtain ⟨x, hx⟩ : ∃ x, xs1.getD i 0 = x := ⟨_, rfl⟩
          rw [hx] at hcw
          obtain ⟨q, hq⟩ : ∃ q : Nat, (x % 24).toNat = q := ⟨_, rfl⟩
          have HTK : Hid (N1.take (i + 1) = N1.take i ++ [q]) := map_take _ _ _ HN1.out i hlt q (by rw [hx]; exact hq)
          have hq60 : q < 60 := by omega
          have HW : Hid (∀ w, Calls Tryd.prog 21 #[.int .i64 x, .int .i64 24] w fun e w' => e = .returned (.int .i64 (q : Int)) ∧ w = w') := by
            intro w; rw [show (q : Int) = x % 24 by omega]; exact within6 x 24 w (by omega) (by omega)
          clear hcell hx1 hx2 hx hq
          go_wp2_with fail
          go_quiet ((go_at_call 21; exact quiet_same (HW.out _)))
          have hfid := fun dn => hfi.drewN dn
          have hh0 := hfi.has1 q hq60
          have hf0 := hfi.hfz (60 + q)
          have hp0 := hfi.part 1
          have hpf0 := hfi.pfz 1
          simp at hp0
          have k1 : ¬ 9223372036854775807 < P1.size + 1 := by omega
          have hP : IntKind.u8.wrap (IntKind.i64.wrap (48 + IntKind.i64.wrap ((q : Int) / 10))) = ((48 + q / 10 : Nat) : Int) := by
            rw [show IntKind.i64.wrap ((q : Int) / 10) = ((q / 10 : Nat) : Int) by rw [IntKind.wrap_i64]; omega]; exact dig_u8L _ (by omega)
          have hQ : IntKind.u8.wrap (IntKind.i64.wrap (48 + (q : Int).tmod 10)) = ((48 + q % 10 : Nat) : Int) := by
            rw [show (q : Int).tmod 10 = ((q % 10 : Nat) : Int) by rw [Int.tmod_eq_emod_of_nonneg (by omega)]; omega]; exact dig_u8L _ (by omega)
          have tP : ((48 : Int) + (q : Int) / 10).toNat = 48 + q / 10 := by omega
          have tQ : ((48 : Int) + (q : Int) % 10).toNat = 48 + q % 10 := by omega
          have hcv2 := conv2L
          by_cases hi0 : 0 < i
          · skip
            have hii : (0 : Int) < (i : Int) := by omega
            have HT : Hid ((P1 ++ ⟨#[44]⟩ ++ ⟨#[UInt8.ofNat (48 + q / 10), UInt8.ofNat (48 + q % 10)]⟩).data.toList = txtN (N1.take (i + 1))) := (txt_next P1 N1 i q HP1.out HTK.out (by omega)).1 hi0
            clear hi0
            go_upto_region 21 with fail
            have hfi2 := (((hfi.drewN nq).set1 q hq60).part1 (P1 ++ ⟨#[44]⟩))
            generalize (((wr.drewN nq).setCell ⟨wk0.heap.size + 1 + 1, 60 + q, none⟩ (.bool true)).setCell ⟨wk0.heap.size + 1 + 1 + 1, 1, none⟩ (.string (P1 ++ ⟨#[44]⟩))) = W at *
            have HF2 : Hid (FI wk0.heap.size w W #[.slice ao0 xs0.length cap0, .slice (some ⟨b, o, none⟩) xs1.length cap1, .slice ao2 xs2.length cap2] (N0) (N1.take i ++ [q]) ([]) P0 (P1 ++ ⟨#[44]⟩) P2) := hfi2
            have hpp : W.cell? ⟨wk0.heap.size + 1 + 1 + 1, 1, none⟩ = some (.string (P1 ++ ⟨#[44]⟩)) := hfi2.part 1
            have hppf : W.frozen? ⟨wk0.heap.size + 1 + 1 + 1, 1, none⟩ = false := hfi2.pfz 1
            have hWz : wk0.heap.size + 1 + 1 + 1 < W.heap.size := hfi2.top
            have k2 : ¬ 9223372036854775807 < (P1 ++ ⟨#[44]⟩).size + 2 := by rw [ByteArray.size_append]; show ¬ 9223372036854775807 < P1.size + 1 + 2; omega
            clear hfi hfi2 hfid hh0 hf0 hp0 hpf0 hcw hbb hrow hmost
            obtain ⟨PP, hPP⟩ : ∃ PP, P1 ++ ⟨#[44]⟩ = PP := ⟨_, rfl⟩
            rw [hPP] at HT hpp k2
            have HPP := Lib.hid hPP
            clear hPP
            go_region
            all_goals (
              go_wp2
              go_roundg (xs1.length - (i + 1))
              case measure => have := HG2.out; omega
              case rel =>
                refine ⟨i + 1, P0, _, P2, rfl, by omega, ?_, HP0, HT, HP2, rfl⟩
                rw [HTK.out, UInt8.ofNat_add, UInt8.ofNat_add]
                first
                  | exact ((HF2.out.part1 _).alloc _).drew
                  | exact ((HF2.out.part1 _).alloc _)
                  | exact ((HF2.out.alloc _).part1 _).drew
                  | exact ((HF2.out.alloc _).drew.part1 _)
                  | exact ((HF2.out.alloc _).part1 _))
          · skip
            have hii : ¬ (0 : Int) < (i : Int) := by omega
            have HT : Hid ((P1 ++ ⟨#[UInt8.ofNat (48 + q / 10), UInt8.ofNat (48 + q % 10)]⟩).data.toList = txtN (N1.take (i + 1))) := (txt_next P1 N1 i q HP1.out HTK.out (by omega)).2 hi0
            clear hi0
            go_upto_region 21 with fail
            have hfi2 := ((hfi.drewN nq).set1 q hq60)
            generalize ((wr.drewN nq).setCell ⟨wk0.heap.size + 1 + 1, 60 + q, none⟩ (.bool true)) = W at *
            have HF2 : Hid (FI wk0.heap.size w W #[.slice ao0 xs0.length cap0, .slice (some ⟨b, o, none⟩) xs1.length cap1, .slice ao2 xs2.length cap2] (N0) (N1.take i ++ [q]) ([]) P0 (P1) P2) := hfi2
            have hpp : W.cell? ⟨wk0.heap.size + 1 + 1 + 1, 1, none⟩ = some (.string (P1)) := hfi2.part 1
            have hppf : W.frozen? ⟨wk0.heap.size + 1 + 1 + 1, 1, none⟩ = false := hfi2.pfz 1
            have hWz : wk0.heap.size + 1 + 1 + 1 < W.heap.size := hfi2.top
            have k2 : ¬ 9223372036854775807 < (P1).size + 2 := by omega
            clear hfi hfi2 hfid hh0 hf0 hp0 hpf0 hcw hbb hrow hmost
            obtain ⟨PP, hPP⟩ : ∃ PP, P1 = PP := ⟨_, rfl⟩
            rw [hPP] at HT hpp k2
            have HPP := Lib.hid hPP
            clear hPP
            go_region
            all_goals (
              go_wp2
              go_roundg (xs1.length - (i + 1))
              case measure => have := HG2.out; omega
              case rel =>
                refine ⟨i + 1, P0, _, P2, rfl, by omega, ?_, HP0, HT, HP2, rfl⟩
                rw [HTK.out, UInt8.ofNat_add, UInt8.ofNat_add]
                first
                  | exact ((HF2.out.part1 _).alloc _).drew
                  | exact ((HF2.out.part1 _).alloc _)
                  | exact ((HF2.out.alloc _).part1 _).drew
                  | exact ((HF2.out.alloc _).drew.part1 _)
                  | exact ((HF2.out.alloc _).part1 _))
        · have hlti : ¬ (i : Int) < (xs1.length : Int) := by omega
          have htk : N1.take i = N1 := List.take_of_length_le (by omega)
          rw [htk] at hfi HP1
          have HFI := Lib.hid hfi
          clear htk hfi
          go_wp2
          go_roundg (3 - 2)
          case measure => have := HG.out; omega
          case rel => exact ⟨2, P0, P1, P2, rfl, by omega, HFI.out, HP0, HP1, HP2, rfl⟩
    · skip
      have hrow := hfi.row 2
      simp at hrow
      go_wp2
      go_loopg [14] xs2.length (fun gk2 iv wr => ∃ (i : Nat) (P0 P1 P2 : ByteArray), iv = .int .i64 i ∧ i ≤ xs2.length ∧ FI wk0.heap.size w wr #[.slice ao0 xs0.length cap0, .slice ao1 xs1.length cap1, .slice ao2 xs2.length cap2] (N0) (N1) (N2.take i) P0 P1 P2 ∧ Hid (P0.data.toList = txtN (N0)) ∧ Hid (P1.data.toList = txtN (N1)) ∧ Hid (P2.data.toList = txtN (N2.take i)) ∧ gk2 = xs2.length - i)
      case atStart => exact ⟨0, P0, P1, P2, rfl, by omega, hfi, HP0, HP1, HP2, rfl⟩
      case round =>
        clear hfi HP0 HP1 HP2 hrow
        obtain ⟨i, P0, P1, P2, rfl, hi, hfi, HP0, HP1, HP2, hgk⟩ := hrel
        have HG2 := Lib.hid hgk
        clear hgk
        have hrow := hfi.row 2
        have hmost := hfi.most 2
        simp at hrow hmost
        by_cases hlt : i < xs2.length
        · have hlti : (i : Int) < (xs2.length : Int) := by omega
          have hPz := part_size P2 N2 i HP2.out (by omega)
          obtain ⟨b, o, rfl, hbb, hcell, hx1, hx2⟩ := HS2.out i hlt
          have hcw : wr.cell? ⟨b, o + i, none⟩ = some (.int .i64 (xs2.getD i 0)) := (keep0 hfi.bel hbb (o + i)).trans hcell
          obtain ⟨x, hx⟩ : ∃ x, xs2.getD i 0 = x := ⟨_, rfl⟩
          rw [hx] at hcw
          obtain ⟨q, hq⟩ : ∃ q : Nat, (x % 12).toNat + 1 = q := ⟨_, rfl⟩
          have HTK : Hid (N2.take (i + 1) = N2.take i ++ [q]) := map_take _ _ _ HN2.out i hlt q (by rw [hx]; exact hq)
          have hq60 : q < 60 := by omega
          have HW : Hid (∀ w, Calls Tryd.prog 21 #[.int .i64 x, .int .i64 12] w fun e w' => e = .returned (.int .i64 ((q : Int) - 1)) ∧ w = w') := by
            intro w; rw [show ((q : Int) - 1) = x % 12 by omega]; exact within6 x 12 w (by omega) (by omega)
          have hq1 : 1 ≤ q := by omega
          clear hcell hx1 hx2 hx hq
          go_wp2_with fail
          go_quiet ((go_at_call 21; exact quiet_same (HW.out _)))
          have hfid := fun dn => hfi.drewN dn
          have hh0 := hfi.has2 q hq60
          have hf0 := hfi.hfz (120 + q)
          have hp0 := hfi.part 2
          have hpf0 := hfi.pfz 2
          simp at hp0
          have k1 : ¬ 9223372036854775807 < P2.size + 1 := by omega
          have hP : IntKind.u8.wrap (IntKind.i64.wrap (48 + IntKind.i64.wrap ((q : Int) / 10))) = ((48 + q / 10 : Nat) : Int) := by
            rw [show IntKind.i64.wrap ((q : Int) / 10) = ((q / 10 : Nat) : Int) by rw [IntKind.wrap_i64]; omega]; exact dig_u8L _ (by omega)
          have hQ : IntKind.u8.wrap (IntKind.i64.wrap (48 + (q : Int).tmod 10)) = ((48 + q % 10 : Nat) : Int) := by
            rw [show (q : Int).tmod 10 = ((q % 10 : Nat) : Int) by rw [Int.tmod_eq_emod_of_nonneg (by omega)]; omega]; exact dig_u8L _ (by omega)
          have tP : ((48 : Int) + (q : Int) / 10).toNat = 48 + q / 10 := by omega
          have tQ : ((48 : Int) + (q : Int) % 10).toNat = 48 + q % 10 := by omega
          have hcv2 := conv2L
          by_cases hi0 : 0 < i
          · skip
            have hii : (0 : Int) < (i : Int) := by omega
            have HT : Hid ((P2 ++ ⟨#[44]⟩ ++ ⟨#[UInt8.ofNat (48 + q / 10), UInt8.ofNat (48 + q % 10)]⟩).data.toList = txtN (N2.take (i + 1))) := (txt_next P2 N2 i q HP2.out HTK.out (by omega)).1 hi0
            clear hi0
            go_upto_region 21 with fail
            have hfi2 := (((hfi.drewN nq).set2 q hq60).part2 (P2 ++ ⟨#[44]⟩))
            generalize (((wr.drewN nq).setCell ⟨wk0.heap.size + 1 + 1, 120 + q, none⟩ (.bool true)).setCell ⟨wk0.heap.size + 1 + 1 + 1, 2, none⟩ (.string (P2 ++ ⟨#[44]⟩))) = W at *
            have HF2 : Hid (FI wk0.heap.size w W #[.slice ao0 xs0.length cap0, .slice ao1 xs1.length cap1, .slice (some ⟨b, o, none⟩) xs2.length cap2] (N0) (N1) (N2.take i ++ [q]) P0 P1 (P2 ++ ⟨#[44]⟩)) := hfi2
            have hpp : W.cell? ⟨wk0.heap.size + 1 + 1 + 1, 2, none⟩ = some (.string (P2 ++ ⟨#[44]⟩)) := hfi2.part 2
            have hppf : W.frozen? ⟨wk0.heap.size + 1 + 1 + 1, 2, none⟩ = false := hfi2.pfz 2
            have hWz : wk0.heap.size + 1 + 1 + 1 < W.heap.size := hfi2.top
            have k2 : ¬ 9223372036854775807 < (P2 ++ ⟨#[44]⟩).size + 2 := by rw [ByteArray.size_append]; show ¬ 9223372036854775807 < P2.size + 1 + 2; omega
            clear hfi hfi2 hfid hh0 hf0 hp0 hpf0 hcw hbb hrow hmost
            obtain ⟨PP, hPP⟩ : ∃ PP, P2 ++ ⟨#[44]⟩ = PP := ⟨_, rfl⟩
            rw [hPP] at HT hpp k2
            have HPP := Lib.hid hPP
            clear hPP
            go_region
            all_goals (
              go_wp2
              go_roundg (xs2.length - (i + 1))
              case measure => have := HG2.out; omega
              case rel =>
                refine ⟨i + 1, P0, P1, _, rfl, by omega, ?_, HP0, HP1, HT, rfl⟩
                rw [HTK.out, UInt8.ofNat_add, UInt8.ofNat_add]
                first
                  | exact ((HF2.out.part2 _).alloc _).drew
                  | exact ((HF2.out.part2 _).alloc _)
                  | exact ((HF2.out.alloc _).part2 _).drew
                  | exact ((HF2.out.alloc _).drew.part2 _)
                  | exact ((HF2.out.alloc _).part2 _))
          · skip
            have hii : ¬ (0 : Int) < (i : Int) := by omega
            have HT : Hid ((P2 ++ ⟨#[UInt8.ofNat (48 + q / 10), UInt8.ofNat (48 + q % 10)]⟩).data.toList = txtN (N2.take (i + 1))) := (txt_next P2 N2 i q HP2.out HTK.out (by omega)).2 hi0
            clear hi0
            go_upto_region 21 with fail
            have hfi2 := ((hfi.drewN nq).set2 q hq60)
            generalize ((wr.drewN nq).setCell ⟨wk0.heap.size + 1 + 1, 120 + q, none⟩ (.bool true)) = W at *
            have HF2 : Hid (FI wk0.heap.size w W #[.slice ao0 xs0.length cap0, .slice ao1 xs1.length cap1, .slice (some ⟨b, o, none⟩) xs2.length cap2] (N0) (N1) (N2.take i ++ [q]) P0 P1 (P2)) := hfi2
            have hpp : W.cell? ⟨wk0.heap.size + 1 + 1 + 1, 2, none⟩ = some (.string (P2)) := hfi2.part 2
            have hppf : W.frozen? ⟨wk0.heap.size + 1 + 1 + 1, 2, none⟩ = false := hfi2.pfz 2
            have hWz : wk0.heap.size + 1 + 1 + 1 < W.heap.size := hfi2.top
            have k2 : ¬ 9223372036854775807 < (P2).size + 2 := by omega
            clear hfi hfi2 hfid hh0 hf0 hp0 hpf0 hcw hbb hrow hmost
            obtain ⟨PP, hPP⟩ : ∃ PP, P2 = PP := ⟨_, rfl⟩
            rw [hPP] at HT hpp k2
            have HPP := Lib.hid hPP
            clear hPP
            go_region
            all_goals (
              go_wp2
              go_roundg (xs2.length - (i + 1))
              case measure => have := HG2.out; omega
              case rel =>
                refine ⟨i + 1, P0, P1, _, rfl, by omega, ?_, HP0, HP1, HT, rfl⟩
                rw [HTK.out, UInt8.ofNat_add, UInt8.ofNat_add]
                first
                  | exact ((HF2.out.part2 _).alloc _).drew
                  | exact ((HF2.out.part2 _).alloc _)
                  | exact ((HF2.out.alloc _).part2 _).drew
                  | exact ((HF2.out.alloc _).drew.part2 _)
                  | exact ((HF2.out.alloc _).part2 _))
        · have hlti : ¬ (i : Int) < (xs2.length : Int) := by omega
          have htk : N2.take i = N2 := List.take_of_length_le (by omega)
          rw [htk] at hfi HP2
          have HFI := Lib.hid hfi
          clear htk hfi
          go_wp2
          go_roundg (3 - 3)
          case measure => have := HG.out; omega
          case rel => exact ⟨3, P0, P1, P2, rfl, by omega, HFI.out, HP0, HP1, HP2, rfl⟩
    · have hfi3 : FI wk0.heap.size w wr #[.slice ao0 xs0.length cap0, .slice ao1 xs1.length cap1, .slice ao2 xs2.length cap2] N0 N1 N2 P0 P1 P2 := hfi
      have HP0' : Hid (P0.data.toList = txtN N0) := HP0
      have HP1' : Hid (P1.data.toList = txtN N1) := HP1
      have HP2' : Hid (P2.data.toList = txtN N2) := HP2
      clear hfi HP0 HP1 HP2
      have hp0 : wr.cell? ⟨wk0.heap.size + 1 + 1 + 1, 0, none⟩ = some (.string P0) := hfi3.part 0
      have hp1 : wr.cell? ⟨wk0.heap.size + 1 + 1 + 1, 1, none⟩ = some (.string P1) := hfi3.part 1
      have hp2 : wr.cell? ⟨wk0.heap.size + 1 + 1 + 1, 2, none⟩ = some (.string P2) := hfi3.part 2
      have s0 := part_size P0 N0 N0.length (by rw [List.take_length]; exact HP0'.out) (by omega)
      have s1 := part_size P1 N1 N1.length (by rw [List.take_length]; exact HP1'.out) (by omega)
      have s2 := part_size P2 N2 N2.length (by rw [List.take_length]; exact HP2'.out) (by omega)
      obtain ⟨e0, m0⟩ := map_bd xs0 N0 _ HN0.out 0 59 (fun x => by omega) z0
      obtain ⟨e1, m1⟩ := map_bd xs1 N1 _ HN1.out 0 23 (fun x => by omega) z1
      obtain ⟨e2, m2⟩ := map_bd xs2 N2 _ HN2.out 1 12 (fun x => by omega) z2
      obtain ⟨T, hT⟩ : ∃ T, P0 ++ ⟨#[32]⟩ ++ P1 ++ ⟨#[9, 42, 32]⟩ ++ P2 ++ ⟨#[32, 32, 42]⟩ = T := ⟨_, rfl⟩
      obtain ⟨hX, hTz⟩ := list_pres T N0 N1 N2 (by
        rw [← hT]
        have h0 := HP0'.out
        have h1 := HP1'.out
        have h2 := HP2'.out
        simp [listTxt, h0, h1, h2]) (by omega) ⟨e0, fun n hn => (m0 n hn).2⟩ ⟨e1, fun n hn => (m1 n hn).2⟩ ⟨e2, m2⟩
      have HMT : Hid (∀ n y m d : Int, -1035593280 ≤ n → n ≤ 4223371679 → IsDay ((n + 1035593280) / 1440) y m d → mt (exL3 N0 N1 N2) n = (decide (((n + 1035593280) % 60).toNat ∈ N0) && (decide (((n + 1035593280) % 1440 / 60).toNat ∈ N1) && decide (m.toNat ∈ N2)))) :=
        fun n y m d h1 h2 hd => exL3_match N0 N1 N2 n _ y m d h1 h2 rfl hd
      have HO : Hid (ExOk (exL3 N0 N1 N2)) := by have h := pres_ok T; rw [hX] at h; exact h
      have HX := Lib.hid hX
      have HT := Lib.hid hT
      have HFI := Lib.hid hfi3
      have hLr := hL.below hfi3.bel
      have k0 : ¬ 9223372036854775807 < P0.size + 1 := by omega
      have k1 : ¬ 9223372036854775807 < P0.size + 1 + P1.size := by omega
      have k2 : ¬ 9223372036854775807 < P0.size + 1 + P1.size + 3 := by omega
      have k3 : ¬ 9223372036854775807 < P0.size + 1 + P1.size + 3 + P2.size := by omega
      have k4 : ¬ 9223372036854775807 < P0.size + 1 + P1.size + 3 + P2.size + 3 := by omega
      clear hX hT e0 e1 e2 m0 m1 m2 hfi3 HN0 HN1 HN2 HS0 HS1 HS2
      go_wp2_with fail
      go_at_call 16
      rw [HT.out]
      generalize exL3 N0 N1 N2 = e at HX HO HMT
      obtain ⟨mi, ho, da, mo, wk, ad, aw⟩ := e
      refine (parse_any T _ hLr.tabs hLr.max (by omega)).mono ?_
      rintro x wp ⟨hx, hbp⟩
      unfold ParPost exV at hx
      rw [HX.out] at hx
      subst hx
      have hfp := HFI.out.keep hbp
      have hfe := hfp.alloc (.cells #[.int .u64 mi, .int .u64 ho, .int .u64 da, .int .u64 mo, .int .u64 wk, .bool ad, .bool aw] 35)
      have hce := alloc_new wp #[.int .u64 mi, .int .u64 ho, .int .u64 da, .int .u64 mo, .int .u64 wk, .bool ad, .bool aw] 35
      have hze : wp.heap.size < (wp.alloc (.cells #[.int .u64 mi, .int .u64 ho, .int .u64 da, .int .u64 mo, .int .u64 wk, .bool ad, .bool aw] 35)).heap.size := by simp
      obtain ⟨a, ha⟩ : ∃ a, a3 % 5250000000 - 1035500000 = a := ⟨_, rfl⟩
      have hab : -1035500000 ≤ a ∧ a ≤ 4214499999 := by omega
      have HAA := Lib.hid ha
      clear ha hfp HFI hp0 hp1 hp2 hbp hLr k0 k1 k2 k3 k4 HT
      dsimp only
      go_wp2_with fail
      go_at_call 22
      refine (minute6 a3 a _ HAA.out).mono ?_
      rintro x w5 ⟨rfl, rfl⟩
      generalize wp.alloc (.cells #[.int .u64 mi, .int .u64 ho, .int .u64 da, .int .u64 mo, .int .u64 wk, .bool ad, .bool aw] 35) = we at *
      have HFE := Lib.hid hfe
      clear hfe
      go_wp2
      go_loopg [18, 19] 3 (fun gk mv kv wr2 => ∃ (m : Int) (k : Nat), mv = .int .i64 m ∧ kv = .int .i64 k ∧ k ≤ 3 ∧ -1035593280 ≤ m ∧ m ≤ 4223371679 ∧ (∀ o, wr2.cell? ⟨wp.heap.size, o, none⟩ = (#[.int .u64 mi, .int .u64 ho, .int .u64 da, .int .u64 mo, .int .u64 wk, .bool ad, .bool aw] : Array Value)[o]?) ∧ Hid (FI wk0.heap.size w wr2 #[.slice ao0 xs0.length cap0, .slice ao1 xs1.length cap1, .slice ao2 xs2.length cap2] N0 N1 N2 P0 P1 P2) ∧ wp.heap.size < wr2.heap.size ∧ gk = 3 - k)
      case atStart => exact ⟨a, 0, rfl, rfl, by omega, by omega, by omega, hce, HFE, hze, rfl⟩
      case round =>
        clear hce hze HFE
        obtain ⟨m, k, rfl, rfl, hk, hm1, hm2, hce, HFE, hze, hgk⟩ := hrel
        have HG2 := Lib.hid hgk
        clear hgk
        by_cases hk3 : k < 3
        · have hk3i : (k : Int) < 3 := by omega
          go_wp2_with fail
          go_at_call 23
          refine (of_natL m _ hm1 hm2).mono ?_
          rintro x w6 ⟨⟨y, d, wd, mn, Hn, Mn, rfl, HD, hHn, hMn, hmn, HHn, HMn⟩, hb6⟩
          obtain ⟨b0, hb0⟩ : ∃ b, decide (Mn ∈ N0) = b := ⟨_, rfl⟩
          obtain ⟨b1, hb1⟩ : ∃ b, decide (Hn ∈ N1) = b := ⟨_, rfl⟩
          obtain ⟨b2, hb2⟩ : ∃ b, decide (mn ∈ N2) = b := ⟨_, rfl⟩
          have HMM : Hid (mt ⟨mi, ho, da, mo, wk, ad, aw⟩ m = (b0 && (b1 && b2))) := by
            show _ = _
            rw [HMT.out m y mn d hm1 hm2 HD.out, HMn.out, HHn.out, Int.toNat_natCast, hb0, hb1, hb2]
          have hf6 := HFE.out.keep (bmore hb6 (.cells #[.int .i64 y, .int .i64 mn, .int .i64 d, .int .i64 Hn, .int .i64 Mn, .int .i64 wd] 53))
          have hc6 := fun o => (alloc_old w6 (.cells #[.int .i64 y, .int .i64 mn, .int .i64 d, .int .i64 Hn, .int .i64 Mn, .int .i64 wd] 53) (Nat.lt_of_lt_of_le hze hb6.size) o).trans ((keep0 hb6 hze o).trans (hce o))
          have hd6 := alloc_new w6 #[.int .i64 y, .int .i64 mn, .int .i64 d, .int .i64 Hn, .int .i64 Mn, .int .i64 wd] 53
          have hz6 : w6.heap.size < (w6.alloc (.cells #[.int .i64 y, .int .i64 mn, .int .i64 d, .int .i64 Hn, .int .i64 Mn, .int .i64 wd] 53)).heap.size := by simp
          have hz7 : wp.heap.size < w6.heap.size := Nat.lt_of_lt_of_le hze hb6.size
          clear hb6 hce hze HFE
          dsimp only
          go_upto_region 30 with fail
          generalize w6.alloc (.cells #[.int .i64 y, .int .i64 mn, .int .i64 d, .int .i64 Hn, .int .i64 Mn, .int .i64 wd] 53) = wa at *
          obtain ⟨HH, hHH⟩ := cells_arr wa (wk0.heap.size + 1 + 1)
          have a0 : HH[Mn]? = some (.bool b0) := by rw [← hHH, hf6.has0 Mn hMn, hb0]
          have a1 : HH[60 + Hn]? = some (.bool b1) := by rw [← hHH, hf6.has1 Hn (by omega), hb1]
          have a2 : HH[120 + mn]? = some (.bool b2) := by rw [← hHH, hf6.has2 mn (by omega), hb2]
          have hhz : wk0.heap.size + 1 + 1 < wa.heap.size := by have := hf6.top; omega
          have HF6 := Lib.hid hf6
          have hze := Nat.lt_trans hz7 hz6
          have hbs : Below wa.heap.size wa wa := Below.refl _ _
          have hnb : ∀ b : Bool, (b != b) = false := by decide
          have i0 : (0 : Int) ≤ (Mn : Int) := by omega
          have i1 : (Mn : Int) < 60 := by omega
          have i2 : IntKind.i64.wrap (Mn : Int) = (Mn : Int) := by rw [IntKind.wrap_i64]; omega
          have i3 : (0 : Int) ≤ (Hn : Int) := by omega
          have i4 : (Hn : Int) < 60 := by omega
          have i5 : IntKind.i64.wrap (Hn : Int) = (Hn : Int) := by rw [IntKind.wrap_i64]; omega
          have i6 : (0 : Int) ≤ (mn : Int) := by omega
          have i7 : (mn : Int) < 60 := by omega
          have i8 : IntKind.i64.wrap (mn : Int) = (mn : Int) := by rw [IntKind.wrap_i64]; omega
          clear hf6 hb0 hb1 hb2 HD HHn HMn
          go_cut [162] (fun s162 wx => s162 = .bool false ∧ (∀ o, wx.cell? ⟨wp.heap.size, o, none⟩ = (#[.int .u64 mi, .int .u64 ho, .int .u64 da, .int .u64 mo, .int .u64 wk, .bool ad, .bool aw] : Array Value)[o]?) ∧ Below wa.heap.size wa wx)
          case first =>
            cases b0 with
            | false =>
              have HM2 : Hid (mt ⟨mi, ho, da, mo, wk, ad, aw⟩ m = false) := HMM
              have hgd : decide ((false : Bool) = true) = false := by decide
              refine wp_region_held_drew (S := (fun w' => (∀ o, w'.cell? ⟨wp.heap.size, o, none⟩ = (#[.int .u64 mi, .int .u64 ho, .int .u64 da, .int .u64 mo, .int .u64 wk, .bool ad, .bool aw] : Array Value)[o]?) ∧ (∀ o, w'.cell? ⟨w6.heap.size, o, none⟩ = (#[.int .i64 y, .int .i64 mn, .int .i64 d, .int .i64 Hn, .int .i64 Mn, .int .i64 wd] : Array Value)[o]?) ∧ (∀ o, w'.cell? ⟨wk0.heap.size + 1 + 1, o, none⟩ = HH[o]?) ∧ Below wa.heap.size wa w')) (by kernel_rfl) ?_ (fun hH1 => ?_)
              · exact threeL_keep hc6 hd6 hHH hze hz6 hhz hbs.drew
              refine wpAnyH_take (i := 0) (v := ?_) rfl (by kernel_rfl) (by kernel_rfl) (by kernel_rfl) (fun _ _ _ h => h) (Or.inl ⟨by rfl, ?_⟩) hH1 ?_
              rotate_left
              · intro w hSw
                try dsimp only at hSw
                first
                  | (go_simp; done)
                  | (go_simp; with_reducible rfl)
              try simp only [Act.put, List.getElem_toArray, List.getElem_cons_zero, List.getElem_cons_succ, List.setIfInBounds_toArray, List.set_cons_zero, List.set_cons_succ]
              refine wpAnyH_take (i := 1) (v := ?_) rfl (by kernel_rfl) (by kernel_rfl) (by kernel_rfl) (fun _ _ _ h => h) (Or.inl ⟨by rfl, ?_⟩) hH1 ?_
              rotate_left
              · intro w hSw
                try dsimp only at hSw
                first
                  | (go_simp; done)
                  | (go_simp; with_reducible rfl)
              try simp only [Act.put, List.getElem_toArray, List.getElem_cons_zero, List.getElem_cons_succ, List.setIfInBounds_toArray, List.set_cons_zero, List.set_cons_succ]
              refine wpAnyH_take (i := 3) (v := ?_) rfl (by kernel_rfl) (by kernel_rfl) (by kernel_rfl) (fun _ _ _ h => h) (Or.inl ⟨by rfl, ?_⟩) hH1 ?_
              rotate_left
              · intro w hSw
                try dsimp only at hSw
                first
                  | (go_simp; done)
                  | (go_simp; with_reducible rfl)
              try simp only [Act.put, List.getElem_toArray, List.getElem_cons_zero, List.getElem_cons_succ, List.setIfInBounds_toArray, List.set_cons_zero, List.set_cons_succ]
              refine wpAnyH_take (i := 4) (v := ?_) rfl (by kernel_rfl) (by kernel_rfl) (by kernel_rfl) (fun _ _ _ h => h) (Or.inl ⟨by rfl, ?_⟩) hH1 ?_
              rotate_left
              · intro w hSw
                try dsimp only at hSw
                first
                  | (go_simp; done)
                  | (go_simp; with_reducible rfl)
              try simp only [Act.put, List.getElem_toArray, List.getElem_cons_zero, List.getElem_cons_succ, List.setIfInBounds_toArray, List.set_cons_zero, List.set_cons_succ]
              refine wpAnyH_take (i := 5) (v := ?_) rfl (by kernel_rfl) (by kernel_rfl) (by kernel_rfl) (fun _ _ _ h => h) (Or.inl ⟨by rfl, ?_⟩) hH1 ?_
              rotate_left
              · intro w hSw
                try dsimp only at hSw
                first
                  | (go_simp; done)
                  | (go_simp; with_reducible rfl)
              try simp only [Act.put, List.getElem_toArray, List.getElem_cons_zero, List.getElem_cons_succ, List.setIfInBounds_toArray, List.set_cons_zero, List.set_cons_succ]
              refine wpAnyH_take (i := 6) (v := ?_) rfl (by kernel_rfl) (by kernel_rfl) (by kernel_rfl) (fun _ _ _ h => h) (Or.inl ⟨by rfl, ?_⟩) hH1 ?_
              rotate_left
              · intro w hSw
                try dsimp only at hSw
                first
                  | (go_simp; done)
                  | (go_simp; with_reducible rfl)
              try simp only [Act.put, List.getElem_toArray, List.getElem_cons_zero, List.getElem_cons_succ, List.setIfInBounds_toArray, List.set_cons_zero, List.set_cons_succ]
              refine wpAnyH_take (i := 7) (v := .bool false) rfl (by kernel_rfl) (by kernel_rfl) (by kernel_rfl) (fun _ _ _ h => h) (Or.inl ⟨by rfl, ?_⟩) hH1 ?_
              · intro w hSw
                try dsimp only at hSw
                first
                  | (go_simp; done)
                  | (go_simp; with_reducible rfl)
              try simp only [Act.put, List.getElem_toArray, List.getElem_cons_zero, List.getElem_cons_succ, List.setIfInBounds_toArray, List.set_cons_zero, List.set_cons_succ]
              refine wpAnyH_ready (rs := [2]) (by kernel_rfl) (by simp) ?_
              refine AllReadyH.cons rfl (fun K hK => ?_) AllReadyH.nil
              go_simp
              go_at_call 24
              refine (matches_any ⟨mi, ho, da, mo, wk, ad, aw⟩ m _ HO.out).mono ?_
              rw [HM2.out]
              rintro x wy ⟨rfl, hb⟩
              go_wp2_with fail
              refine hK.out _ _ ?_ (fun hH2 => ?_)
              · exact threeL_keep hc6 hd6 hHH hze hz6 hhz (bthen hbs.drew hb)
              clear hK K
              try simp only [Act.put, List.getElem_toArray, List.getElem_cons_zero, List.getElem_cons_succ, List.setIfInBounds_toArray, List.set_cons_zero, List.set_cons_succ]
              refine wpAnyH_take (i := 8) (v := .bool false) rfl (by kernel_rfl) (by kernel_rfl) (by kernel_rfl) (fun _ _ _ h => h) (Or.inl ⟨by rfl, ?_⟩) hH2 ?_
              · intro w hSw
                try dsimp only at hSw
                first
                  | (go_simp; done)
                  | (go_simp; with_reducible rfl)
              try simp only [Act.put, List.getElem_toArray, List.getElem_cons_zero, List.getElem_cons_succ, List.setIfInBounds_toArray, List.set_cons_zero, List.set_cons_succ]
              refine wpAnyH_take (i := 9) (v := undef) rfl (by kernel_rfl) (by kernel_rfl) (by kernel_rfl) (fun _ _ _ h => h) (Or.inr ⟨by rfl, rfl⟩) hH2 ?_
              try simp only [Act.put, List.getElem_toArray, List.getElem_cons_zero, List.getElem_cons_succ, List.setIfInBounds_toArray, List.set_cons_zero, List.set_cons_succ]
              refine wpAnyH_take (i := 10) (v := undef) rfl (by kernel_rfl) (by kernel_rfl) (by kernel_rfl) (fun _ _ _ h => h) (Or.inr ⟨by rfl, rfl⟩) hH2 ?_
              try simp only [Act.put, List.getElem_toArray, List.getElem_cons_zero, List.getElem_cons_succ, List.setIfInBounds_toArray, List.set_cons_zero, List.set_cons_succ]
              refine wpAnyH_take (i := 11) (v := undef) rfl (by kernel_rfl) (by kernel_rfl) (by kernel_rfl) (fun _ _ _ h => h) (Or.inr ⟨by rfl, rfl⟩) hH2 ?_
              try simp only [Act.put, List.getElem_toArray, List.getElem_cons_zero, List.getElem_cons_succ, List.setIfInBounds_toArray, List.set_cons_zero, List.set_cons_succ]
              refine wpAnyH_take (i := 12) (v := undef) rfl (by kernel_rfl) (by kernel_rfl) (by kernel_rfl) (fun _ _ _ h => h) (Or.inr ⟨by rfl, rfl⟩) hH2 ?_
              try simp only [Act.put, List.getElem_toArray, List.getElem_cons_zero, List.getElem_cons_succ, List.setIfInBounds_toArray, List.set_cons_zero, List.set_cons_succ]
              refine wpAnyH_take (i := 13) (v := undef) rfl (by kernel_rfl) (by kernel_rfl) (by kernel_rfl) (fun _ _ _ h => h) (Or.inr ⟨by rfl, rfl⟩) hH2 ?_
              try simp only [Act.put, List.getElem_toArray, List.getElem_cons_zero, List.getElem_cons_succ, List.setIfInBounds_toArray, List.set_cons_zero, List.set_cons_succ]
              refine wpAnyH_take (i := 14) (v := .bool false) rfl (by kernel_rfl) (by kernel_rfl) (by kernel_rfl) (fun _ _ _ h => h) (Or.inl ⟨by rfl, ?_⟩) hH2 ?_
              · intro w hSw
                try dsimp only at hSw
                first
                  | (go_simp; done)
                  | (go_simp; with_reducible rfl)
              try simp only [Act.put, List.getElem_toArray, List.getElem_cons_zero, List.getElem_cons_succ, List.setIfInBounds_toArray, List.set_cons_zero, List.set_cons_succ]
              refine wpAnyH_take (i := 15) (v := .bool false) rfl (by kernel_rfl) (by kernel_rfl) (by kernel_rfl) (fun _ _ _ h => h) (Or.inl ⟨by rfl, ?_⟩) hH2 ?_
              · intro w hSw
                try dsimp only at hSw
                first
                  | (go_simp; done)
                  | (go_simp; with_reducible rfl)
              try simp only [Act.put, List.getElem_toArray, List.getElem_cons_zero, List.getElem_cons_succ, List.setIfInBounds_toArray, List.set_cons_zero, List.set_cons_succ]
              refine wpAnyH_take (i := 16) (v := undef) rfl (by kernel_rfl) (by kernel_rfl) (by kernel_rfl) (fun _ _ _ h => h) (Or.inr ⟨by rfl, rfl⟩) hH2 ?_
              try simp only [Act.put, List.getElem_toArray, List.getElem_cons_zero, List.getElem_cons_succ, List.setIfInBounds_toArray, List.set_cons_zero, List.set_cons_succ]
              refine wpAnyH_take (i := 17) (v := undef) rfl (by kernel_rfl) (by kernel_rfl) (by kernel_rfl) (fun _ _ _ h => h) (Or.inr ⟨by rfl, rfl⟩) hH2 ?_
              try simp only [Act.put, List.getElem_toArray, List.getElem_cons_zero, List.getElem_cons_succ, List.setIfInBounds_toArray, List.set_cons_zero, List.set_cons_succ]
              refine wpAnyH_take (i := 18) (v := undef) rfl (by kernel_rfl) (by kernel_rfl) (by kernel_rfl) (fun _ _ _ h => h) (Or.inr ⟨by rfl, rfl⟩) hH2 ?_
              try simp only [Act.put, List.getElem_toArray, List.getElem_cons_zero, List.getElem_cons_succ, List.setIfInBounds_toArray, List.set_cons_zero, List.set_cons_succ]
              refine wpAnyH_take (i := 19) (v := undef) rfl (by kernel_rfl) (by kernel_rfl) (by kernel_rfl) (fun _ _ _ h => h) (Or.inr ⟨by rfl, rfl⟩) hH2 ?_
              try simp only [Act.put, List.getElem_toArray, List.getElem_cons_zero, List.getElem_cons_succ, List.setIfInBounds_toArray, List.set_cons_zero, List.set_cons_succ]
              refine wpAnyH_take (i := 20) (v := undef) rfl (by kernel_rfl) (by kernel_rfl) (by kernel_rfl) (fun _ _ _ h => h) (Or.inr ⟨by rfl, rfl⟩) hH2 ?_
              try simp only [Act.put, List.getElem_toArray, List.getElem_cons_zero, List.getElem_cons_succ, List.setIfInBounds_toArray, List.set_cons_zero, List.set_cons_succ]
              refine wpAnyH_take (i := 21) (v := .bool false) rfl (by kernel_rfl) (by kernel_rfl) (by kernel_rfl) (fun _ _ _ h => h) (Or.inl ⟨by rfl, ?_⟩) hH2 ?_
              · intro w hSw
                try dsimp only at hSw
                first
                  | (go_simp; done)
                  | (go_simp; with_reducible rfl)
              try simp only [Act.put, List.getElem_toArray, List.getElem_cons_zero, List.getElem_cons_succ, List.setIfInBounds_toArray, List.set_cons_zero, List.set_cons_succ]
              refine wpAnyH_take (i := 22) (v := .bool false) rfl (by kernel_rfl) (by kernel_rfl) (by kernel_rfl) (fun _ _ _ h => h) (Or.inl ⟨by rfl, ?_⟩) hH2 ?_
              · intro w hSw
                try dsimp only at hSw
                first
                  | (go_simp; done)
                  | (go_simp; with_reducible rfl)
              try simp only [Act.put, List.getElem_toArray, List.getElem_cons_zero, List.getElem_cons_succ, List.setIfInBounds_toArray, List.set_cons_zero, List.set_cons_succ]
              refine wpAnyH_done (by kernel_rfl) ?_ _
              go_wp2_with fail
              go_meet
              exact ⟨rfl, hH2.1, hH2.2.2.2⟩
            | true =>
              cases b1 with
              | false =>
                have HM2 : Hid (mt ⟨mi, ho, da, mo, wk, ad, aw⟩ m = false) := HMM
                refine wp_region_held_drew (S := (fun w' => (∀ o, w'.cell? ⟨wp.heap.size, o, none⟩ = (#[.int .u64 mi, .int .u64 ho, .int .u64 da, .int .u64 mo, .int .u64 wk, .bool ad, .bool aw] : Array Value)[o]?) ∧ (∀ o, w'.cell? ⟨w6.heap.size, o, none⟩ = (#[.int .i64 y, .int .i64 mn, .int .i64 d, .int .i64 Hn, .int .i64 Mn, .int .i64 wd] : Array Value)[o]?) ∧ (∀ o, w'.cell? ⟨wk0.heap.size + 1 + 1, o, none⟩ = HH[o]?) ∧ Below wa.heap.size wa w')) (by kernel_rfl) ?_ (fun hH1 => ?_)
                · exact threeL_keep hc6 hd6 hHH hze hz6 hhz hbs.drew
                refine wpAnyH_take (i := 0) (v := ?_) rfl (by kernel_rfl) (by kernel_rfl) (by kernel_rfl) (fun _ _ _ h => h) (Or.inl ⟨by rfl, ?_⟩) hH1 ?_
                rotate_left
                · intro w hSw
                  try dsimp only at hSw
                  first
                    | (go_simp; done)
                    | (go_simp; with_reducible rfl)
                try simp only [Act.put, List.getElem_toArray, List.getElem_cons_zero, List.getElem_cons_succ, List.setIfInBounds_toArray, List.set_cons_zero, List.set_cons_succ]
                refine wpAnyH_take (i := 1) (v := ?_) rfl (by kernel_rfl) (by kernel_rfl) (by kernel_rfl) (fun _ _ _ h => h) (Or.inl ⟨by rfl, ?_⟩) hH1 ?_
                rotate_left
                · intro w hSw
                  try dsimp only at hSw
                  first
                    | (go_simp; done)
                    | (go_simp; with_reducible rfl)
                try simp only [Act.put, List.getElem_toArray, List.getElem_cons_zero, List.getElem_cons_succ, List.setIfInBounds_toArray, List.set_cons_zero, List.set_cons_succ]
                refine wpAnyH_take (i := 3) (v := ?_) rfl (by kernel_rfl) (by kernel_rfl) (by kernel_rfl) (fun _ _ _ h => h) (Or.inl ⟨by rfl, ?_⟩) hH1 ?_
                rotate_left
                · intro w hSw
                  try dsimp only at hSw
                  first
                    | (go_simp; done)
                    | (go_simp; with_reducible rfl)
                try simp only [Act.put, List.getElem_toArray, List.getElem_cons_zero, List.getElem_cons_succ, List.setIfInBounds_toArray, List.set_cons_zero, List.set_cons_succ]
                refine wpAnyH_take (i := 4) (v := ?_) rfl (by kernel_rfl) (by kernel_rfl) (by kernel_rfl) (fun _ _ _ h => h) (Or.inl ⟨by rfl, ?_⟩) hH1 ?_
                rotate_left
                · intro w hSw
                  try dsimp only at hSw
                  first
                    | (go_simp; done)
                    | (go_simp; with_reducible rfl)
                try simp only [Act.put, List.getElem_toArray, List.getElem_cons_zero, List.getElem_cons_succ, List.setIfInBounds_toArray, List.set_cons_zero, List.set_cons_succ]
                refine wpAnyH_take (i := 5) (v := ?_) rfl (by kernel_rfl) (by kernel_rfl) (by kernel_rfl) (fun _ _ _ h => h) (Or.inl ⟨by rfl, ?_⟩) hH1 ?_
                rotate_left
                · intro w hSw
                  try dsimp only at hSw
                  first
                    | (go_simp; done)
                    | (go_simp; with_reducible rfl)
                try simp only [Act.put, List.getElem_toArray, List.getElem_cons_zero, List.getElem_cons_succ, List.setIfInBounds_toArray, List.set_cons_zero, List.set_cons_succ]
                refine wpAnyH_take (i := 6) (v := ?_) rfl (by kernel_rfl) (by kernel_rfl) (by kernel_rfl) (fun _ _ _ h => h) (Or.inl ⟨by rfl, ?_⟩) hH1 ?_
                rotate_left
                · intro w hSw
                  try dsimp only at hSw
                  first
                    | (go_simp; done)
                    | (go_simp; with_reducible rfl)
                try simp only [Act.put, List.getElem_toArray, List.getElem_cons_zero, List.getElem_cons_succ, List.setIfInBounds_toArray, List.set_cons_zero, List.set_cons_succ]
                refine wpAnyH_take (i := 7) (v := .bool true) rfl (by kernel_rfl) (by kernel_rfl) (by kernel_rfl) (fun _ _ _ h => h) (Or.inl ⟨by rfl, ?_⟩) hH1 ?_
                · intro w hSw
                  try dsimp only at hSw
                  first
                    | (go_simp; done)
                    | (go_simp; with_reducible rfl)
                try simp only [Act.put, List.getElem_toArray, List.getElem_cons_zero, List.getElem_cons_succ, List.setIfInBounds_toArray, List.set_cons_zero, List.set_cons_succ]
                refine wpAnyH_ready (rs := [2]) (by kernel_rfl) (by simp) ?_
                refine AllReadyH.cons rfl (fun K hK => ?_) AllReadyH.nil
                go_simp
                go_at_call 24
                refine (matches_any ⟨mi, ho, da, mo, wk, ad, aw⟩ m _ HO.out).mono ?_
                rw [HM2.out]
                rintro x wy ⟨rfl, hb⟩
                go_wp2_with fail
                refine hK.out _ _ ?_ (fun hH2 => ?_)
                · exact threeL_keep hc6 hd6 hHH hze hz6 hhz (bthen hbs.drew hb)
                clear hK K
                try simp only [Act.put, List.getElem_toArray, List.getElem_cons_zero, List.getElem_cons_succ, List.setIfInBounds_toArray, List.set_cons_zero, List.set_cons_succ]
                refine wpAnyH_take (i := 8) (v := .bool true) rfl (by kernel_rfl) (by kernel_rfl) (by kernel_rfl) (fun _ _ _ h => h) (Or.inl ⟨by rfl, ?_⟩) hH2 ?_
                · intro w hSw
                  try dsimp only at hSw
                  first
                    | (go_simp; done)
                    | (go_simp; with_reducible rfl)
                try simp only [Act.put, List.getElem_toArray, List.getElem_cons_zero, List.getElem_cons_succ, List.setIfInBounds_toArray, List.set_cons_zero, List.set_cons_succ]
                refine wpAnyH_take (i := 9) (v := ?_) rfl (by kernel_rfl) (by kernel_rfl) (by kernel_rfl) (fun _ _ _ h => h) (Or.inl ⟨by rfl, ?_⟩) hH2 ?_
                rotate_left
                · intro w hSw
                  try dsimp only at hSw
                  first
                    | (go_simp; done)
                    | (go_simp; with_reducible rfl)
                try simp only [Act.put, List.getElem_toArray, List.getElem_cons_zero, List.getElem_cons_succ, List.setIfInBounds_toArray, List.set_cons_zero, List.set_cons_succ]
                refine wpAnyH_take (i := 10) (v := ?_) rfl (by kernel_rfl) (by kernel_rfl) (by kernel_rfl) (fun _ _ _ h => h) (Or.inl ⟨by rfl, ?_⟩) hH2 ?_
                rotate_left
                · intro w hSw
                  try dsimp only at hSw
                  first
                    | (go_simp; done)
                    | (go_simp; with_reducible rfl)
                try simp only [Act.put, List.getElem_toArray, List.getElem_cons_zero, List.getElem_cons_succ, List.setIfInBounds_toArray, List.set_cons_zero, List.set_cons_succ]
                refine wpAnyH_take (i := 11) (v := ?_) rfl (by kernel_rfl) (by kernel_rfl) (by kernel_rfl) (fun _ _ _ h => h) (Or.inl ⟨by rfl, ?_⟩) hH2 ?_
                rotate_left
                · intro w hSw
                  try dsimp only at hSw
                  first
                    | (go_simp; done)
                    | (go_simp; with_reducible rfl)
                try simp only [Act.put, List.getElem_toArray, List.getElem_cons_zero, List.getElem_cons_succ, List.setIfInBounds_toArray, List.set_cons_zero, List.set_cons_succ]
                refine wpAnyH_take (i := 12) (v := ?_) rfl (by kernel_rfl) (by kernel_rfl) (by kernel_rfl) (fun _ _ _ h => h) (Or.inl ⟨by rfl, ?_⟩) hH2 ?_
                rotate_left
                · intro w hSw
                  try dsimp only at hSw
                  first
                    | (go_simp; done)
                    | (go_simp; with_reducible rfl)
                try simp only [Act.put, List.getElem_toArray, List.getElem_cons_zero, List.getElem_cons_succ, List.setIfInBounds_toArray, List.set_cons_zero, List.set_cons_succ]
                refine wpAnyH_take (i := 13) (v := .bool false) rfl (by kernel_rfl) (by kernel_rfl) (by kernel_rfl) (fun _ _ _ h => h) (Or.inl ⟨by rfl, ?_⟩) hH2 ?_
                · intro w hSw
                  try dsimp only at hSw
                  first
                    | (go_simp; done)
                    | (go_simp; with_reducible rfl)
                try simp only [Act.put, List.getElem_toArray, List.getElem_cons_zero, List.getElem_cons_succ, List.setIfInBounds_toArray, List.set_cons_zero, List.set_cons_succ]
                refine wpAnyH_take (i := 14) (v := .bool false) rfl (by kernel_rfl) (by kernel_rfl) (by kernel_rfl) (fun _ _ _ h => h) (Or.inl ⟨by rfl, ?_⟩) hH2 ?_
                · intro w hSw
                  try dsimp only at hSw
                  first
                    | (go_simp; done)
                    | (go_simp; with_reducible rfl)
                try simp only [Act.put, List.getElem_toArray, List.getElem_cons_zero, List.getElem_cons_succ, List.setIfInBounds_toArray, List.set_cons_zero, List.set_cons_succ]
                refine wpAnyH_take (i := 15) (v := .bool false) rfl (by kernel_rfl) (by kernel_rfl) (by kernel_rfl) (fun _ _ _ h => h) (Or.inl ⟨by rfl, ?_⟩) hH2 ?_
                · intro w hSw
                  try dsimp only at hSw
                  first
                    | (go_simp; done)
                    | (go_simp; with_reducible rfl)
                try simp only [Act.put, List.getElem_toArray, List.getElem_cons_zero, List.getElem_cons_succ, List.setIfInBounds_toArray, List.set_cons_zero, List.set_cons_succ]
                refine wpAnyH_take (i := 16) (v := undef) rfl (by kernel_rfl) (by kernel_rfl) (by kernel_rfl) (fun _ _ _ h => h) (Or.inr ⟨by rfl, rfl⟩) hH2 ?_
                try simp only [Act.put, List.getElem_toArray, List.getElem_cons_zero, List.getElem_cons_succ, List.setIfInBounds_toArray, List.set_cons_zero, List.set_cons_succ]
                refine wpAnyH_take (i := 17) (v := undef) rfl (by kernel_rfl) (by kernel_rfl) (by kernel_rfl) (fun _ _ _ h => h) (Or.inr ⟨by rfl, rfl⟩) hH2 ?_
                try simp only [Act.put, List.getElem_toArray, List.getElem_cons_zero, List.getElem_cons_succ, List.setIfInBounds_toArray, List.set_cons_zero, List.set_cons_succ]
                refine wpAnyH_take (i := 18) (v := undef) rfl (by kernel_rfl) (by kernel_rfl) (by kernel_rfl) (fun _ _ _ h => h) (Or.inr ⟨by rfl, rfl⟩) hH2 ?_
                try simp only [Act.put, List.getElem_toArray, List.getElem_cons_zero, List.getElem_cons_succ, List.setIfInBounds_toArray, List.set_cons_zero, List.set_cons_succ]
                refine wpAnyH_take (i := 19) (v := undef) rfl (by kernel_rfl) (by kernel_rfl) (by kernel_rfl) (fun _ _ _ h => h) (Or.inr ⟨by rfl, rfl⟩) hH2 ?_
                try simp only [Act.put, List.getElem_toArray, List.getElem_cons_zero, List.getElem_cons_succ, List.setIfInBounds_toArray, List.set_cons_zero, List.set_cons_succ]
                refine wpAnyH_take (i := 20) (v := undef) rfl (by kernel_rfl) (by kernel_rfl) (by kernel_rfl) (fun _ _ _ h => h) (Or.inr ⟨by rfl, rfl⟩) hH2 ?_
                try simp only [Act.put, List.getElem_toArray, List.getElem_cons_zero, List.getElem_cons_succ, List.setIfInBounds_toArray, List.set_cons_zero, List.set_cons_succ]
                refine wpAnyH_take (i := 21) (v := .bool false) rfl (by kernel_rfl) (by kernel_rfl) (by kernel_rfl) (fun _ _ _ h => h) (Or.inl ⟨by rfl, ?_⟩) hH2 ?_
                · intro w hSw
                  try dsimp only at hSw
                  first
                    | (go_simp; done)
                    | (go_simp; with_reducible rfl)
                try simp only [Act.put, List.getElem_toArray, List.getElem_cons_zero, List.getElem_cons_succ, List.setIfInBounds_toArray, List.set_cons_zero, List.set_cons_succ]
                refine wpAnyH_take (i := 22) (v := .bool false) rfl (by kernel_rfl) (by kernel_rfl) (by kernel_rfl) (fun _ _ _ h => h) (Or.inl ⟨by rfl, ?_⟩) hH2 ?_
                · intro w hSw
                  try dsimp only at hSw
                  first
                    | (go_simp; done)
                    | (go_simp; with_reducible rfl)
                try simp only [Act.put, List.getElem_toArray, List.getElem_cons_zero, List.getElem_cons_succ, List.setIfInBounds_toArray, List.set_cons_zero, List.set_cons_succ]
                refine wpAnyH_done (by kernel_rfl) ?_ _
                go_wp2_with fail
                go_meet
                exact ⟨rfl, hH2.1, hH2.2.2.2⟩
              | true =>
                have HM2 : Hid (mt ⟨mi, ho, da, mo, wk, ad, aw⟩ m = b2) := HMM
                go_region_held3 (fun w' => (∀ o, w'.cell? ⟨wp.heap.size, o, none⟩ = (#[.int .u64 mi, .int .u64 ho, .int .u64 da, .int .u64 mo, .int .u64 wk, .bool ad, .bool aw] : Array Value)[o]?) ∧ (∀ o, w'.cell? ⟨w6.heap.size, o, none⟩ = (#[.int .i64 y, .int .i64 mn, .int .i64 d, .int .i64 Hn, .int .i64 Mn, .int .i64 wd] : Array Value)[o]?) ∧ (∀ o, w'.cell? ⟨wk0.heap.size + 1 + 1, o, none⟩ = HH[o]?) ∧ Below wa.heap.size wa w')
                       (first
                         | with_reducible exact threeL_keep hc6 hd6 hHH hze hz6 hhz hbs.drew
                         | (with_reducible refine threeL_keep hc6 hd6 hHH hze hz6 hhz (bthen ?_ hb)
                            first | assumption | exact hbs.drew | (go_split_ands; assumption))
                         | go_keep)
                       ((go_at_call 24; refine (matches_any ⟨mi, ho, da, mo, wk, ad, aw⟩ m _ HO.out).mono ?_; rw [HM2.out]; rintro x wy ⟨rfl, hb⟩))
                all_goals (
                  go_wp2_with fail
                  go_meet
                  first
                    | exact ⟨rfl, by assumption, by assumption⟩
                    | (refine ⟨rfl, ?_, ?_⟩ <;> (go_split_ands; assumption))
                    | trace_state)
          case rest =>
            obtain ⟨rfl, hcx, hbx⟩ := hcut
            have hfx := HF6.out.keep hbx
            have hzx := Nat.lt_of_lt_of_le hze hbx.size
            have hLx := hL.below hfx.bel
            have HFX := Lib.hid hfx
            clear hbx HF6 hbs hhz a0 a1 a2 hHH hd6 hc6 hfx
            go_wp2_with fail
            go_at_call 25
            refine (next_any ⟨mi, ho, da, mo, wk, ad, aw⟩ m _ HO.out hLx.db).mono ?_
            rintro x w8 ⟨⟨n, g, rfl, hn⟩, hb8⟩
            have hc8 := fun o => (keep0 hb8 hzx o).trans (hcx o)
            have hf8 := HFX.out.keep hb8
            have hz8 := Nat.lt_of_lt_of_le hzx hb8.size
            clear hb8 hcx hzx hLx
            by_cases hg0 : g = 0
            · subst hg0
              have hnp := next_pos hn
              have hn1 : -1035593280 ≤ n := by omega
              have hn2 : n ≤ 4223371679 := by omega
              have HF8 := Lib.hid hf8
              clear hn hnp hf8
              go_wp2
              go_roundg (3 - (k + 1))
              case measure => have := HG2.out; omega
              case rel => exact ⟨n, k + 1, rfl, rfl, by omega, hn1, hn2, hc8, HF8, hz8, rfl⟩
            · have hg1 : (g == 0) = false := by simp [hg0]
              have hbf := hf8.bel
              clear hn hg0 hf8
              go_wp2
              go_ret
              exact ⟨rfl, hbf⟩
        · have hk3i : ¬ (k : Int) < 3 := by omega
          have hbf := HFE.out.bel
          clear HFE
          go_wp2
          go_ret
          exact ⟨rfl, hbf⟩
end Go.Proofs.YtdpaiaeaamokeaaDoor.Cron
