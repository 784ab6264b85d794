/- The contract of the reference's ParseRun. -/
import Derived.Test.YtdpaiaeaamokeaaDoorJobTextP
import Derived.Test.YtdpaiaeaamokeaaDoorRefName
import Derived.Test.YtdpaiaeaamokeaaDoorCalB
namespace Go.Proofs.YtdpaiaeaamokeaaDoor.Job
open Go.RowKit Go Go.Proofs.YtdpaiaeaamokeaaDoor.Cron Go.Proofs.YtdpaiaeaamokeaaDoor.Cal

theorem rr_ret (b : Nat) (tmps : Array Value) (wf : World) (u0 u1 u2 u3 : Value) (n : Int) {post : Ending → World → Prop} (h2 : tmps[2]?.getD undef = .pointer (some ⟨b, 0, none⟩)) (h3 : tmps[3]?.getD undef = .int .i64 n)
    (S4 : wf.cell? ⟨b, 0, none⟩ = some u0 ∧ wf.cell? ⟨b, 1, none⟩ = some u1 ∧ wf.cell? ⟨b, 2, none⟩ = some u2 ∧ wf.cell? ⟨b, 3, none⟩ = some u3)
    (hp : post (.returned (.tuple #[.agg #[u0, u1, u2, u3], .int .i64 n])) wf) : bodyPost Tryd.prog Tryd.f35 post .ret ⟨tmps, []⟩ wf := by
  obtain ⟨s0, s1, s2, s3⟩ := S4
  exact bodyPost_ret (v := .tuple #[.agg #[u0, u1, u2, u3], .int .i64 n]) (by simp [results, Tryd.results35, go_sem, h2, h3, s0, s1, s2, s3]) rfl hp
theorem rof_e (n : Int) (w : World) (h0 : -9223372036854775808 ≤ n) (h9 : n ≤ 9223372036854775807) :
    Calls Tryd.prog 74 #[.int .i64 n] w fun x w' => (∃ y m d h i k c : Int, x = .returned (.tuple #[.agg #[.int .i64 y, .int .i64 m, .int .i64 d, .int .i64 h, .int .i64 i, .int .i64 k], .int .i64 c]) ∧ Hid (c = 0 ↔ (-1035593280 ≤ n ∧ n ≤ 4223371679))) ∧ Below w.heap.size w w' := by
  by_cases h : -1035593280 ≤ n ∧ n ≤ 4223371679
  · refine (rof_in n _ _ w h.1 h.2 rfl rfl).mono ?_
    rintro x w' ⟨⟨y, m, d, rfl, -⟩, hb⟩
    exact ⟨⟨_, _, _, _, _, _, 0, rfl, by show _ ↔ _; simp [h]⟩, hb⟩
  · refine (rof_out n w h0 h9 (by omega)).mono ?_
    rintro x w' ⟨rfl, hb⟩
    exact ⟨⟨_, _, _, _, _, _, 1, rfl, by show _ ↔ _; simp [h]⟩, hb⟩
theorem sp_head (l : List UInt8) (m : Nat) (w0 : List UInt8) (r : List (List UInt8)) (h : sp (m + 1) [] l = w0 :: r) : w0 = (cut1 32 l).1 := by
  rw [sp_cut] at h
  split at h <;> simp at h
  · exact h.1.symm
  · exact h.1.symm
set_option maxHeartbeats 4000000 in
set_option maxRecDepth 100000 in
theorem rrparse_any (s : ByteArray) (w : World) (hs : s.size ≤ 1000000) :
    Calls Tryd.prog 35 #[.string s] w fun x w' => PrunPost s x ∧ Below w.heap.size w w' := by
  go_enter Tryd.func35, Tryd.ntmps35
  go_wp2_with fail
  go_at_call 49
  refine (rsplit_any s 4 3 _ hs rfl (by omega)).mono ?_
  rintro e w2 ⟨⟨v, bs, rfl, hown, hpc, hbl, hbz⟩, hb2⟩
  have hBx := keepN hb2
  have hFx := keepF hb2
  have hzw := size1 hb2
  have hbelx : Below w.heap.size w w2 := ((Below.refl _ _).alloc (Nat.le_refl _) _).trans (hb2.mono (by simp))
  clear hb2
  obtain ⟨ao5, cap5, rfl⟩ : ∃ ao cap, v = .slice ao bs.length cap := by
    rcases hown.2 with ⟨h, h0⟩ | ⟨g, cap, cur, h, -⟩
    · exact ⟨none, 0, by rw [h, h0]⟩
    · exact ⟨_, cap, h⟩
  by_cases h6 : bs.length = 4
  case neg =>
    have h6i : ((bs.length : Int) == 4) = false := by simp only [beq_eq_false_iff_ne]; omega
    have HN : Hid (¬ ∃ a b c, RunIs (cutN s) (cutR s) a b c) := by
      rintro ⟨a, b, c, hj, -⟩
      obtain ⟨w1, w2, w3, h1, -⟩ := (run_pieces s a b c).1 hj
      rw [h1] at hpc
      have := congrArg List.length hpc
      simp at this
      exact h6 this
    clear h6 hown hpc hbl hbz
    generalize bs.length = n at *
    go_wp2
    have S4 := set4_cells hBx (u0 := .string ⟨#[]⟩) (u1 := .int .i64 0) (u2 := .int .i64 0) (u3 := .int .i64 0) _ rfl
    exact rr_ret w.heap.size _ _ _ _ _ _ _ rfl rfl S4 ⟨.inr ⟨HN.out, rfl⟩, zset4 hbelx⟩
  match bs, h6, hown, hpc, hbl, hbz with
  | [W0, W1, W2, W3], _, hown, hpc, hbl, hbz =>
    have HSP : Hid (sp 3 [] s.data.toList = [W0.data.toList, W1.data.toList, W2.data.toList, W3.data.toList]) := hpc.symm
    have HW0 : Hid (cutN s = W0) := bytes_ext (by rw [sp_head _ _ _ _ HSP.out]; rfl)
    have HRP : Hid (∀ a b c, RunIs (cutN s) (cutR s) a b c → jnum W1.data.toList = some a ∧ jnum W2.data.toList = some b ∧ jnum W3.data.toList = some c) := by
      rintro a b c ⟨hj, -⟩
      obtain ⟨w1, w2, w3, h1, h2, h3, h4⟩ := (run_pieces s a b c).1 hj
      rw [HSP.out] at h1
      simp only [List.cons.injEq] at h1
      obtain ⟨-, e1, e2, e3, -⟩ := h1
      exact ⟨by rw [e1]; exact h2, by rw [e2]; exact h3, by rw [e3]; exact h4⟩
    obtain ⟨g, cap, hgv, hgB, hgl⟩ := hown.form (by simp)
    cases hgv
    have y0 : W0.size ≤ s.size := hbz W0 (by simp)
    have y1 : W1.size ≤ s.size := hbz W1 (by simp)
    have y2 : W2.size ≤ s.size := hbz W2 (by simp)
    have y3 : W3.size ≤ s.size := hbz W3 (by simp)
    have c0 : w2.cell? ⟨g, 0, none⟩ = some (.string W0) := hown.cellAt 0 (by simp)
    have c1 : w2.cell? ⟨g, 1, none⟩ = some (.string W1) := hown.cellAt 1 (by simp)
    have c2 : w2.cell? ⟨g, 2, none⟩ = some (.string W2) := hown.cellAt 2 (by simp)
    have c3 : w2.cell? ⟨g, 3, none⟩ = some (.string W3) := hown.cellAt 3 (by simp)
    clear hown hpc hbl hbz
    simp only [List.length_cons, List.length_nil]
    go_wp2_with fail
    go_at_call 50
    refine (rnumber_any W1 _ (by omega)).mono ?_
    obtain ⟨o0, ho0⟩ : ∃ o, jnum W1.data.toList = o := ⟨_, rfl⟩
    rw [ho0]
    have HO0 := Lib.hid ho0
    have hr0 : -1000000000000000000 < o0.getD 0 ∧ o0.getD 0 < 1000000000000000000 := by
      cases o0 with
      | none => simp
      | some n => exact (itoa_jnum _ n ho0).2
    clear ho0
    rintro y w4 ⟨hy, rfl⟩
    unfold NumPost at hy
    obtain ⟨a0, ha0⟩ : ∃ a, o0.getD 0 = a := ⟨_, rfl⟩
    obtain ⟨i0, hi0⟩ : ∃ i, o0.isSome = i := ⟨_, rfl⟩
    rw [ha0] at hr0
    rw [ha0, hi0] at hy
    have HA0 := Lib.hid ha0
    have HI0 := Lib.hid hi0
    clear ha0 hi0
    subst hy
    go_wp2_with fail
    go_at_call 50
    refine (rnumber_any W2 _ (by omega)).mono ?_
    obtain ⟨o1, ho1⟩ : ∃ o, jnum W2.data.toList = o := ⟨_, rfl⟩
    rw [ho1]
    have HO1 := Lib.hid ho1
    have hr1 : -1000000000000000000 < o1.getD 0 ∧ o1.getD 0 < 1000000000000000000 := by
      cases o1 with
      | none => simp
      | some n => exact (itoa_jnum _ n ho1).2
    clear ho1
    rintro y w4 ⟨hy, rfl⟩
    unfold NumPost at hy
    obtain ⟨a1, ha1⟩ : ∃ a, o1.getD 0 = a := ⟨_, rfl⟩
    obtain ⟨i1, hi1⟩ : ∃ i, o1.isSome = i := ⟨_, rfl⟩
    rw [ha1] at hr1
    rw [ha1, hi1] at hy
    have HA1 := Lib.hid ha1
    have HI1 := Lib.hid hi1
    clear ha1 hi1
    subst hy
    go_wp2_with fail
    go_at_call 50
    refine (rnumber_any W3 _ (by omega)).mono ?_
    obtain ⟨o2, ho2⟩ : ∃ o, jnum W3.data.toList = o := ⟨_, rfl⟩
    rw [ho2]
    have HO2 := Lib.hid ho2
    have hr2 : -1000000000000000000 < o2.getD 0 ∧ o2.getD 0 < 1000000000000000000 := by
      cases o2 with
      | none => simp
      | some n => exact (itoa_jnum _ n ho2).2
    clear ho2
    rintro y w4 ⟨hy, rfl⟩
    unfold NumPost at hy
    obtain ⟨a2, ha2⟩ : ∃ a, o2.getD 0 = a := ⟨_, rfl⟩
    obtain ⟨i2, hi2⟩ : ∃ i, o2.isSome = i := ⟨_, rfl⟩
    rw [ha2] at hr2
    rw [ha2, hi2] at hy
    have HA2 := Lib.hid ha2
    have HI2 := Lib.hid hi2
    clear ha2 hi2
    subst hy
    have HB := Lib.hid hBx
    have HFr := Lib.hid hFx
    have HBel := Lib.hid hbelx
    clear hBx hFx hbelx
    go_wp2_with fail
    go_at_call 74
    refine (rof_e a0 _ (by omega) (by omega)).mono ?_
    rintro x w5 ⟨⟨oy, om, od, oh, oi, ok, oc, rfl, HOC⟩, hb5⟩
    have hq5 := keepN hb5
    have hz5 := size1 hb5
    have hzA : w.heap.size < (w2.alloc (.cells #[.string W0, .int .i64 a0, .int .i64 a1, .int .i64 a2] 66)).heap.size := by simp; omega
    have HB5 := Lib.hid (fun o => (keep1 hb5 hzw o).trans (HB.out o))
    have HF5 : Hid (∀ o, w5.frozen? ⟨w.heap.size, o, none⟩ = false) := fun o => (keepF0 (bthen (bmore (Below.refl w2.heap.size w2) _) hb5) hzw o).trans (HFr.out o)
    have HBel5 := Lib.hid (bthen (bmore HBel.out _) hb5)
    have hzw5 : w.heap.size < w5.heap.size := by omega
    have hBx := fun o => (alloc_old w5 (.cells #[.int .i64 oy, .int .i64 om, .int .i64 od, .int .i64 oh, .int .i64 oi, .int .i64 ok] 53) hzw5 o).trans (HB5.out o)
    have hFx : ∀ o, (w5.alloc (.cells #[.int .i64 oy, .int .i64 om, .int .i64 od, .int .i64 oh, .int .i64 oi, .int .i64 ok] 53)).frozen? ⟨w.heap.size, o, none⟩ = false := fun o => (keepF0 (bmore (Below.refl w5.heap.size w5) _) hzw5 o).trans (HF5.out o)
    have hbelx := bmore HBel5.out (.cells #[.int .i64 oy, .int .i64 om, .int .i64 od, .int .i64 oh, .int .i64 oi, .int .i64 ok] 53)
    have hqx := fun o => (alloc_old w5 (.cells #[.int .i64 oy, .int .i64 om, .int .i64 od, .int .i64 oh, .int .i64 oi, .int .i64 ok] 53) hz5 o).trans (hq5 o)
    have hzW : w.heap.size < (w5.alloc (.cells #[.int .i64 oy, .int .i64 om, .int .i64 od, .int .i64 oh, .int .i64 oi, .int .i64 ok] 53)).heap.size := by simp; omega
    have hqW : w2.heap.size < (w5.alloc (.cells #[.int .i64 oy, .int .i64 om, .int .i64 od, .int .i64 oh, .int .i64 oi, .int .i64 ok] 53)).heap.size := by simp; omega
    clear hb5 hq5 hz5 HB5 HF5 HBel5 HB HFr HBel c0 c1 c2 c3
    go_upto_region 9 with fail
    generalize w5.alloc (.cells #[.int .i64 oy, .int .i64 om, .int .i64 od, .int .i64 oh, .int .i64 oi, .int .i64 ok] 53) = W at *
    have v0 := hqx 0
    have v1 := hqx 1
    have v2 := hqx 2
    have v3 := hqx 3
    simp at v0 v1 v2 v3
    clear hqx hzA hzw5 hzw
    cases i0 with
    | false =>
      have HN : Hid (¬ ∃ a b c, RunIs (cutN s) (cutR s) a b c) := by
        rintro ⟨a, b, c, hj⟩
        obtain ⟨e1, e2, e3⟩ := HRP.out a b c hj
        have h2 := HO0.out
        rw [e1] at h2
        have h3 := HI0.out
        rw [← h2] at h3
        cases h3
      go_wp2
      have S4 := set4_cells hBx (u0 := .string ⟨#[]⟩) (u1 := .int .i64 0) (u2 := .int .i64 0) (u3 := .int .i64 0) _ rfl
      exact rr_ret w.heap.size _ _ _ _ _ _ _ rfl rfl S4 ⟨.inr ⟨HN.out, rfl⟩, zset4 hbelx⟩
    | true =>
    cases i1 with
    | false =>
      have HN : Hid (¬ ∃ a b c, RunIs (cutN s) (cutR s) a b c) := by
        rintro ⟨a, b, c, hj⟩
        obtain ⟨e1, e2, e3⟩ := HRP.out a b c hj
        have h2 := HO1.out
        rw [e2] at h2
        have h3 := HI1.out
        rw [← h2] at h3
        cases h3
      go_wp2
      have S4 := set4_cells hBx (u0 := .string ⟨#[]⟩) (u1 := .int .i64 0) (u2 := .int .i64 0) (u3 := .int .i64 0) _ rfl
      exact rr_ret w.heap.size _ _ _ _ _ _ _ rfl rfl S4 ⟨.inr ⟨HN.out, rfl⟩, zset4 hbelx⟩
    | true =>
    cases i2 with
    | false =>
      have HN : Hid (¬ ∃ a b c, RunIs (cutN s) (cutR s) a b c) := by
        rintro ⟨a, b, c, hj⟩
        obtain ⟨e1, e2, e3⟩ := HRP.out a b c hj
        have h2 := HO2.out
        rw [e3] at h2
        have h3 := HI2.out
        rw [← h2] at h3
        cases h3
      go_wp2
      have S4 := set4_cells hBx (u0 := .string ⟨#[]⟩) (u1 := .int .i64 0) (u2 := .int .i64 0) (u3 := .int .i64 0) _ rfl
      exact rr_ret w.heap.size _ _ _ _ _ _ _ rfl rfl S4 ⟨.inr ⟨HN.out, rfl⟩, zset4 hbelx⟩
    | true =>
    have HJ0 : Hid (jnum W1.data.toList = some a0) := by
      have h1 := HI0.out
      have h2 := HA0.out
      show _ = _
      rw [HO0.out]
      cases o0 with
      | none => cases h1
      | some n => rw [← h2]; rfl
    have HJ1 : Hid (jnum W2.data.toList = some a1) := by
      have h1 := HI1.out
      have h2 := HA1.out
      show _ = _
      rw [HO1.out]
      cases o1 with
      | none => cases h1
      | some n => rw [← h2]; rfl
    have HJ2 : Hid (jnum W3.data.toList = some a2) := by
      have h1 := HI2.out
      have h2 := HA2.out
      show _ = _
      rw [HO2.out]
      cases o2 with
      | none => cases h1
      | some n => rw [← h2]; rfl
    have HEQ : Hid (∀ a b c, RunIs (cutN s) (cutR s) a b c → a = a0 ∧ b = a1 ∧ c = a2) := by
      intro a b c hj
      obtain ⟨e1, e2, e3⟩ := HRP.out a b c hj
      rw [HJ0.out] at e1
      rw [HJ1.out] at e2
      rw [HJ2.out] at e3
      exact ⟨(Option.some.inj e1).symm, (Option.some.inj e2).symm, (Option.some.inj e3).symm⟩
    clear HO0 HO1 HO2 HI0 HI1 HI2 HA0 HA1 HA2
    obtain ⟨nb, hnb⟩ : ∃ nb, nameB W0 = nb := ⟨_, rfl⟩
    have HNB := Lib.hid hnb
    clear hnb
    go_wp2_with fail
    go_at_call 26
    refine (rname_any W0 _ (by omega)).mono ?_
    rw [HNB.out]
    rintro x w6 ⟨rfl, hb6⟩
    have t0 := (keep0 hb6 hqW 0).trans v0
    have t1 := (keep0 hb6 hqW 1).trans v1
    have t2 := (keep0 hb6 hqW 2).trans v2
    have t3 := (keep0 hb6 hqW 3).trans v3
    have hBy := fun o => (keep0 hb6 hzW o).trans (hBx o)
    have hFy := fun o => (keepF0 hb6 hzW o).trans (hFx o)
    have hbely := bthen hbelx hb6
    clear hb6 v0 v1 v2 v3 hBx hFx hbelx
    have hBx := hBy
    have hFx := hFy
    have hbelx := hbely
    clear hBy hFy hbely
    cases nb with
    | false =>
      have HN : Hid (¬ ∃ a b c, RunIs (cutN s) (cutR s) a b c) := by
        rintro ⟨a, b, c, -, hj, -⟩
        rw [HW0.out, HNB.out] at hj
        cases hj
      go_wp2
      have S4 := set4_cells hBx (u0 := .string ⟨#[]⟩) (u1 := .int .i64 0) (u2 := .int .i64 0) (u3 := .int .i64 0) _ rfl
      exact rr_ret w.heap.size _ _ _ _ _ _ _ rfl rfl S4 ⟨.inr ⟨HN.out, rfl⟩, zset4 hbelx⟩
    | true =>
    by_cases hoc : oc ≠ 0
    · have q1 : (oc == 0) = false := by simp [hoc]
      have q2 : (oc != 0) = true := by simp [hoc]
      have HN : Hid (¬ ∃ a b c, RunIs (cutN s) (cutR s) a b c) := by
        rintro ⟨a, b, c, hj⟩
        obtain ⟨e1, e2, e3⟩ := HEQ.out a b c hj
        obtain ⟨-, -, hj2, -⟩ := hj
        rw [e1] at hj2
        exact hoc (HOC.out.2 hj2)
      go_wp2
      have S4 := set4_cells hBx (u0 := .string ⟨#[]⟩) (u1 := .int .i64 0) (u2 := .int .i64 0) (u3 := .int .i64 0) _ rfl
      exact rr_ret w.heap.size _ _ _ _ _ _ _ rfl rfl S4 ⟨.inr ⟨HN.out, rfl⟩, zset4 hbelx⟩
    have hoc0 : oc = 0 := by omega
    have q1 : (oc == 0) = true := by simp [hoc0]
    have q2 : (oc != 0) = false := by simp [hoc0]
    have HR := Lib.hid (HOC.out.1 hoc0)
    clear hoc hoc0
    by_cases k1 : a1 < 0
    · have HN : Hid (¬ ∃ a b c, RunIs (cutN s) (cutR s) a b c) := by
        rintro ⟨a, b, c, hj⟩
        obtain ⟨e1, e2, e3⟩ := HEQ.out a b c hj
        obtain ⟨-, hj1, hj2, hj3, hj4⟩ := hj
        omega
      go_wp2
      have S4 := set4_cells hBx (u0 := .string ⟨#[]⟩) (u1 := .int .i64 0) (u2 := .int .i64 0) (u3 := .int .i64 0) _ rfl
      exact rr_ret w.heap.size _ _ _ _ _ _ _ rfl rfl S4 ⟨.inr ⟨HN.out, rfl⟩, zset4 hbelx⟩
    by_cases k2 : 3 < a1
    · have HN : Hid (¬ ∃ a b c, RunIs (cutN s) (cutR s) a b c) := by
        rintro ⟨a, b, c, hj⟩
        obtain ⟨e1, e2, e3⟩ := HEQ.out a b c hj
        obtain ⟨-, hj1, hj2, hj3, hj4⟩ := hj
        omega
      go_wp2
      have S4 := set4_cells hBx (u0 := .string ⟨#[]⟩) (u1 := .int .i64 0) (u2 := .int .i64 0) (u3 := .int .i64 0) _ rfl
      exact rr_ret w.heap.size _ _ _ _ _ _ _ rfl rfl S4 ⟨.inr ⟨HN.out, rfl⟩, zset4 hbelx⟩
    by_cases k3 : a2 < 0
    · have HN : Hid (¬ ∃ a b c, RunIs (cutN s) (cutR s) a b c) := by
        rintro ⟨a, b, c, hj⟩
        obtain ⟨e1, e2, e3⟩ := HEQ.out a b c hj
        obtain ⟨-, hj1, hj2, hj3, hj4⟩ := hj
        omega
      go_wp2
      have S4 := set4_cells hBx (u0 := .string ⟨#[]⟩) (u1 := .int .i64 0) (u2 := .int .i64 0) (u3 := .int .i64 0) _ rfl
      exact rr_ret w.heap.size _ _ _ _ _ _ _ rfl rfl S4 ⟨.inr ⟨HN.out, rfl⟩, zset4 hbelx⟩
    by_cases k4 : 1073741824 ≤ a2
    · have HN : Hid (¬ ∃ a b c, RunIs (cutN s) (cutR s) a b c) := by
        rintro ⟨a, b, c, hj⟩
        obtain ⟨e1, e2, e3⟩ := HEQ.out a b c hj
        obtain ⟨-, hj1, hj2, hj3, hj4⟩ := hj
        omega
      go_wp2
      have S4 := set4_cells hBx (u0 := .string ⟨#[]⟩) (u1 := .int .i64 0) (u2 := .int .i64 0) (u3 := .int .i64 0) _ rfl
      exact rr_ret w.heap.size _ _ _ _ _ _ _ rfl rfl S4 ⟨.inr ⟨HN.out, rfl⟩, zset4 hbelx⟩
    have HG : Hid (RunIs (cutN s) (cutR s) a0 a1 a2) := by
      refine ⟨(run_pieces s a0 a1 a2).2 ⟨_, _, _, ?_, HJ0.out, HJ1.out, HJ2.out⟩, by rw [HW0.out]; exact HNB.out, HR.out, by omega, by omega⟩
      rw [HW0.out]; exact HSP.out
    have HV : Hid (runV (cutN s) a0 a1 a2 = .agg #[.string W0, .int .i64 a0, .int .i64 a1, .int .i64 a2]) := by show _ = _; rw [HW0.out]; rfl
    go_wp2
    have S4 := set4_cells hBx (u0 := .string W0) (u1 := .int .i64 a0) (u2 := .int .i64 a1) (u3 := .int .i64 a2) _ rfl
    exact rr_ret w.heap.size _ _ _ _ _ _ _ rfl rfl S4 ⟨.inl ⟨a0, a1, a2, HG.out, by rw [HV.out]⟩, zset4 hbelx⟩
end Go.Proofs.YtdpaiaeaamokeaaDoor.Job
