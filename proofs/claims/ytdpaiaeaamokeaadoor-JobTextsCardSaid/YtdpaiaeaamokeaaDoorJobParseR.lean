/- The contract of the reference's Parse. -/
import Derived.Test.YtdpaiaeaamokeaaDoorJobParseJ
import Derived.Test.YtdpaiaeaamokeaaDoorJobEncR
namespace Go.Proofs.YtdpaiaeaamokeaaDoor.Job
open Go.RowKit Go Go.Proofs.YtdpaiaeaamokeaaDoor.Cron

theorem rp_ret (b : Nat) (tmps : Array Value) (wf : World) (u0 u1 u2 u3 u4 u5 : Value) (n : Int) {post : Ending → World → Prop} (h2 : tmps[2]?.getD undef = .pointer (some ⟨b, 0, none⟩)) (h3 : tmps[3]?.getD undef = .int .i64 n)
    (S6 : ∀ o, wf.cell? ⟨b, o, none⟩ = (#[u0, u1, u2, u3, u4, u5] : Array Value)[o]?)
    (hp : post (.returned (.tuple #[.agg #[u0, u1, u2, u3, u4, u5], .int .i64 n])) wf) : bodyPost Tryd.prog Tryd.f33 post .ret ⟨tmps, []⟩ wf := by
  have s0 := S6 0
  have s1 := S6 1
  have s2 := S6 2
  have s3 := S6 3
  have s4 := S6 4
  have s5 := S6 5
  simp at s0 s1 s2 s3 s4 s5
  exact bodyPost_ret (v := .tuple #[.agg #[u0, u1, u2, u3, u4, u5], .int .i64 n]) (by simp [results, Tryd.results33, go_sem, h2, h3, s0, s1, s2, s3, s4, s5]) rfl hp

theorem rj_keep {g : Nat} {v0 v4 v5 : Value} {W w' : World} (c0 : W.cell? ⟨g, 0, none⟩ = some v0) (c4 : W.cell? ⟨g, 4, none⟩ = some v4) (c5 : W.cell? ⟨g, 5, none⟩ = some v5) (hg : g < W.heap.size) (h : Below W.heap.size W w') :
    w'.cell? ⟨g, 0, none⟩ = some v0 ∧ w'.cell? ⟨g, 4, none⟩ = some v4 ∧ w'.cell? ⟨g, 5, none⟩ = some v5 ∧ Below W.heap.size W w' :=
  ⟨(keep0 h hg _).trans c0, (keep0 h hg _).trans c4, (keep0 h hg _).trans c5, h⟩
set_option maxHeartbeats 4000000 in
set_option maxRecDepth 100000 in
theorem rjparse_any (s : ByteArray) (w : World) (hs : s.size ≤ 1000000) :
    Calls Tryd.prog 33 #[.string s] w fun x w' => JobPost s x ∧ Below w.heap.size w w' := by
  go_enter Tryd.func33, Tryd.ntmps33
  go_wp2_with fail
  go_at_call 49
  refine (rsplit_any s 6 5 _ hs rfl (by omega)).mono ?_
  rintro e w2 ⟨⟨v, bs, rfl, hown, hpc, hbl, hbz⟩, hb2⟩
  have HB := Lib.hid (keepN hb2)
  have HFr := Lib.hid (keepF hb2)
  have hzw := size1 hb2
  have HBL : Hid (Below w.heap.size w w2) := ((Below.refl _ _).alloc (Nat.le_refl _) _).trans (hb2.mono (by simp))
  clear hb2
  obtain ⟨ao5, cap5, rfl⟩ : ∃ ao cap, v = .slice ao bs.length cap := by
    rcases hown.2 with ⟨h, h0⟩ | ⟨g, cap, cur, h, -⟩
    · exact ⟨none, 0, by rw [h, h0]⟩
    · exact ⟨_, cap, h⟩
  by_cases h6 : bs.length = 6
  case neg =>
    have h6i : ((bs.length : Int) == 6) = false := by simp only [beq_eq_false_iff_ne]; omega
    have HN : Hid (¬ ∃ nm cr p dl kp sus, JP s nm cr p dl kp sus) := by
      rintro ⟨nm, cr, p, dl, kp, sus, hj, -⟩
      rw [hj] at hpc
      have := congrArg List.length hpc
      simp at this
      exact h6 this
    have hBx := HB.out
    have hFx := HFr.out
    have hbelx := HBL.out
    clear h6 hown hpc hbl hbz
    generalize bs.length = n at *
    go_wp2
    have S6 := set6_cells hBx (u0 := .string ⟨#[]⟩) (u1 := .string ⟨#[]⟩) (u2 := .int .i64 0) (u3 := .int .i64 0) (u4 := .int .i64 0) (u5 := .bool false) _ rfl
    exact rp_ret w.heap.size _ _ _ _ _ _ _ _ _ rfl rfl S6 ⟨.inr ⟨HN.out, rfl⟩, zset6 hbelx⟩
  match bs, h6, hown, hpc, hbl, hbz with
  | [W0, W1, W2, W3, W4, W5], _, hown, hpc, hbl, hbz =>
    have HSP : Hid (sp 5 [] s.data.toList = [W0.data.toList, W1.data.toList, W2.data.toList, W3.data.toList, W4.data.toList, W5.data.toList]) := hpc.symm
    obtain ⟨g, cap, hgv, hgB, hgl⟩ := hown.form (by simp)
    cases hgv
    have y0 : W0.size ≤ s.size := hbz W0 (by simp)
    have y1 : W1.size ≤ s.size := hbz W1 (by simp)
    have y2 : W2.size ≤ s.size := hbz W2 (by simp)
    have y3 : W3.size ≤ s.size := hbz W3 (by simp)
    have y5 : W5.size ≤ s.size := hbz W5 (by simp)
    have c0 : w2.cell? ⟨g, 0, none⟩ = some (.string W0) := hown.cellAt 0 (by simp)
    have c1 : w2.cell? ⟨g, 1, none⟩ = some (.string W1) := hown.cellAt 1 (by simp)
    have c2 : w2.cell? ⟨g, 2, none⟩ = some (.string W2) := hown.cellAt 2 (by simp)
    have c3 : w2.cell? ⟨g, 3, none⟩ = some (.string W3) := hown.cellAt 3 (by simp)
    have c4 : w2.cell? ⟨g, 4, none⟩ = some (.string W4) := hown.cellAt 4 (by simp)
    have c5 : w2.cell? ⟨g, 5, none⟩ = some (.string W5) := hown.cellAt 5 (by simp)
    obtain ⟨sus, hsus⟩ : ∃ sus, (W4.toList == [49]) = sus := ⟨_, rfl⟩
    have HSU : Hid (W4.data.toList = [49] ↔ sus = true) := by
      show _ ↔ _
      rw [← hsus, Lib.toList_data]; simp
    have hbs : Below w2.heap.size w2 w2 := Below.refl _ _
    clear hown hpc hbl hbz
    simp only [List.length_cons, List.length_nil]
    go_upto_region 4 with fail
    go_cut [5] (fun s5 wx => ∃ q : Nat, s5 = .pointer (some ⟨q, 0, none⟩) ∧ w2.heap.size ≤ q ∧ q < wx.heap.size ∧ (∀ o, wx.cell? ⟨q, o, none⟩ = (#[.string W0, .string W5, .int .i64 0, .int .i64 0, .int .i64 0, .bool sus] : Array Value)[o]?) ∧ (∀ o, wx.frozen? ⟨q, o, none⟩ = false) ∧ Below w2.heap.size w2 wx)
    case first =>
      go_region_held3 (fun w' => w'.cell? ⟨g, 0, none⟩ = some (.string W0) ∧ w'.cell? ⟨g, 4, none⟩ = some (.string W4) ∧ w'.cell? ⟨g, 5, none⟩ = some (.string W5) ∧ Below w2.heap.size w2 w')
        (first
          | with_reducible exact rj_keep c0 c4 c5 hgl hbs.drew
          | (with_reducible refine rj_keep c0 c4 c5 hgl ?_
             first | exact bmore hbs.drew _ | exact bset6 (bmore hbs.drew _) (Nat.le_refl _))
          | go_keep)
        (fail)
      all_goals (
        go_wp2_with fail
        go_meet
        exact ⟨w2.heap.size, rfl, Nat.le_refl _, (by show w2.heap.size < (w2.alloc _).heap.size; simp), fun o => alloc_new w2 _ _ o, fun o => World.frozen?_alloc_at _ _ _ o rfl, (bmore (Below.refl _ _) _).drew⟩)
    case rest =>
      rename World => wx
      obtain ⟨q, rfl, hq1, hq2, hqc, hqf, hbx⟩ := hcut
      have hBx0 := fun o => (keep0 hbx hzw o).trans (HB.out o)
      have hFx0 := fun o => (keepF0 hbx hzw o).trans (HFr.out o)
      have hbelx0 := bthen HBL.out hbx
      have hzx := Nat.lt_of_lt_of_le hzw hbx.size
      have hgx := Nat.lt_of_lt_of_le hgl hbx.size
      have d1 := (keep0 hbx hgl 1).trans c1
      have d2 := (keep0 hbx hgl 2).trans c2
      have d3 := (keep0 hbx hgl 3).trans c3
      have hqw : w.heap.size ≠ q := by omega
      have hqw2 : w.heap.size ≤ q := by omega
      clear c0 c1 c2 c3 c4 c5 hbx hbs hsus
      go_wp2_with fail
      go_at_call 50
      refine (rnumber_any W1 _ (by omega)).mono ?_
      obtain ⟨o0, ho0⟩ : ∃ o, jnum W1.data.toList = o := ⟨_, rfl⟩
      rw [ho0]
      have HO0 := Lib.hid ho0
      have HR0 : Hid (∀ n, o0 = some n → -1000000000000000000 < n ∧ n < 1000000000000000000) := fun n hn => (itoa_jnum _ n (ho0.trans hn)).2
      clear ho0
      rintro y w4 ⟨hy, rfl⟩
      unfold NumPost at hy
      obtain ⟨a0, ha0⟩ : ∃ a, o0.getD 0 = a := ⟨_, rfl⟩
      obtain ⟨i0, hi0⟩ : ∃ i, o0.isSome = i := ⟨_, rfl⟩
      rw [ha0, hi0] at hy
      have HA0 := Lib.hid ha0
      have HI0 := Lib.hid hi0
      clear ha0 hi0
      subst hy
      go_wp2_with fail
      go_at_call 50
      refine (rnumber_any W2 _ (by omega)).mono ?_
      obtain ⟨o1, ho1⟩ : ∃ o, jnum W2.data.toList = o := ⟨_, rfl⟩
      rw [ho1]
      have HO1 := Lib.hid ho1
      have HR1 : Hid (∀ n, o1 = some n → -1000000000000000000 < n ∧ n < 1000000000000000000) := fun n hn => (itoa_jnum _ n (ho1.trans hn)).2
      clear ho1
      rintro y w4 ⟨hy, rfl⟩
      unfold NumPost at hy
      obtain ⟨a1, ha1⟩ : ∃ a, o1.getD 0 = a := ⟨_, rfl⟩
      obtain ⟨i1, hi1⟩ : ∃ i, o1.isSome = i := ⟨_, rfl⟩
      rw [ha1, hi1] at hy
      have HA1 := Lib.hid ha1
      have HI1 := Lib.hid hi1
      clear ha1 hi1
      subst hy
      go_wp2_with fail
      go_at_call 50
      refine (rnumber_any W3 _ (by omega)).mono ?_
      obtain ⟨o2, ho2⟩ : ∃ o, jnum W3.data.toList = o := ⟨_, rfl⟩
      rw [ho2]
      have HO2 := Lib.hid ho2
      have HR2 : Hid (∀ n, o2 = some n → -1000000000000000000 < n ∧ n < 1000000000000000000) := fun n hn => (itoa_jnum _ n (ho2.trans hn)).2
      clear ho2
      rintro y w4 ⟨hy, rfl⟩
      unfold NumPost at hy
      obtain ⟨a2, ha2⟩ : ∃ a, o2.getD 0 = a := ⟨_, rfl⟩
      obtain ⟨i2, hi2⟩ : ∃ i, o2.isSome = i := ⟨_, rfl⟩
      rw [ha2, hi2] at hy
      have HA2 := Lib.hid ha2
      have HI2 := Lib.hid hi2
      clear ha2 hi2
      subst hy
      go_upto_region 9 with fail
      have hBx := fun o => ((set_away ((wx.setCell ⟨q, 2, none⟩ (.int .i64 a0)).setCell ⟨q, 3, none⟩ (.int .i64 a1)) hqw 4 (.int .i64 a2) o).trans ((set_away (wx.setCell ⟨q, 2, none⟩ (.int .i64 a0)) hqw 3 (.int .i64 a1) o).trans ((set_away wx hqw 2 (.int .i64 a0) o).trans (hBx0 o))))
      have hFx : ∀ o, (((wx.setCell ⟨q, 2, none⟩ (.int .i64 a0)).setCell ⟨q, 3, none⟩ (.int .i64 a1)).setCell ⟨q, 4, none⟩ (.int .i64 a2)).frozen? ⟨w.heap.size, o, none⟩ = false := fun o => by simp only [World.frozen?_setCell]; exact hFx0 o
      have hbelx := bset (bset (bset hbelx0 (a := ⟨q, 2, none⟩) hqw2 (.int .i64 a0)) (a := ⟨q, 3, none⟩) hqw2 (.int .i64 a1)) (a := ⟨q, 4, none⟩) hqw2 (.int .i64 a2)
      have hqx := cells_set (cells_set (cells_set hqc 2 (.int .i64 a0) (by simp)) 3 (.int .i64 a1) (by simp)) 4 (.int .i64 a2) (by simp)
      have hzW : w.heap.size < (((wx.setCell ⟨q, 2, none⟩ (.int .i64 a0)).setCell ⟨q, 3, none⟩ (.int .i64 a1)).setCell ⟨q, 4, none⟩ (.int .i64 a2)).heap.size := by simpa [World.setCell] using hzx
      have hqW : q < (((wx.setCell ⟨q, 2, none⟩ (.int .i64 a0)).setCell ⟨q, 3, none⟩ (.int .i64 a1)).setCell ⟨q, 4, none⟩ (.int .i64 a2)).heap.size := by simpa [World.setCell] using hq2
      generalize ((wx.setCell ⟨q, 2, none⟩ (.int .i64 a0)).setCell ⟨q, 3, none⟩ (.int .i64 a1)).setCell ⟨q, 4, none⟩ (.int .i64 a2) = W at *
      have v0 := hqx 0
      have v1 := hqx 1
      have v2 := hqx 2
      have v3 := hqx 3
      have v4 := hqx 4
      have v5 := hqx 5
      simp at v0 v1 v2 v3 v4 v5
      clear hBx0 hFx0 hbelx0 hqc hqf hqx hq1 hq2 d1 d2 d3 hzx hgx
      cases i0 with
      | false =>
        have HN : Hid (¬ ∃ nm cr p dl kp sus, JP s nm cr p dl kp sus) := by
          rintro ⟨nm, cr, p, dl, kp, su, hj⟩
          have h1 := JP_nums W0 W1 W2 W3 W4 W5 hj HSP.out
          have h2 := HO0.out
          rw [h1.2.2.1] at h2
          have h3 := HI0.out
          rw [← h2] at h3
          cases h3
        go_wp2
        have S6 := set6_cells hBx (u0 := .string ⟨#[]⟩) (u1 := .string ⟨#[]⟩) (u2 := .int .i64 0) (u3 := .int .i64 0) (u4 := .int .i64 0) (u5 := .bool false) _ rfl
        exact rp_ret w.heap.size _ _ _ _ _ _ _ _ _ rfl rfl S6 ⟨.inr ⟨HN.out, rfl⟩, zset6 hbelx⟩
      | true =>
      cases i1 with
      | false =>
        have HN : Hid (¬ ∃ nm cr p dl kp sus, JP s nm cr p dl kp sus) := by
          rintro ⟨nm, cr, p, dl, kp, su, hj⟩
          have h1 := JP_nums W0 W1 W2 W3 W4 W5 hj HSP.out
          have h2 := HO1.out
          rw [h1.2.2.2.1] at h2
          have h3 := HI1.out
          rw [← h2] at h3
          cases h3
        go_wp2
        have S6 := set6_cells hBx (u0 := .string ⟨#[]⟩) (u1 := .string ⟨#[]⟩) (u2 := .int .i64 0) (u3 := .int .i64 0) (u4 := .int .i64 0) (u5 := .bool false) _ rfl
        exact rp_ret w.heap.size _ _ _ _ _ _ _ _ _ rfl rfl S6 ⟨.inr ⟨HN.out, rfl⟩, zset6 hbelx⟩
      | true =>
      cases i2 with
      | false =>
        have HN : Hid (¬ ∃ nm cr p dl kp sus, JP s nm cr p dl kp sus) := by
          rintro ⟨nm, cr, p, dl, kp, su, hj⟩
          have h1 := JP_nums W0 W1 W2 W3 W4 W5 hj HSP.out
          have h2 := HO2.out
          rw [h1.2.2.2.2.1] at h2
          have h3 := HI2.out
          rw [← h2] at h3
          cases h3
        go_wp2
        have S6 := set6_cells hBx (u0 := .string ⟨#[]⟩) (u1 := .string ⟨#[]⟩) (u2 := .int .i64 0) (u3 := .int .i64 0) (u4 := .int .i64 0) (u5 := .bool false) _ rfl
        exact rp_ret w.heap.size _ _ _ _ _ _ _ _ _ rfl rfl S6 ⟨.inr ⟨HN.out, rfl⟩, zset6 hbelx⟩
      | true =>
      have HJ0 : Hid (jnum W1.data.toList = some a0) := by
        have h1 := HI0.out
        have h2 := HA0.out
        show _ = _
        rw [HO0.out]
        cases o0 with
        | none => cases h1
        | some n => rw [← h2]; rfl
      have HJ1 : Hid (jnum W2.data.toList = some a1) := by
        have h1 := HI1.out
        have h2 := HA1.out
        show _ = _
        rw [HO1.out]
        cases o1 with
        | none => cases h1
        | some n => rw [← h2]; rfl
      have HJ2 : Hid (jnum W3.data.toList = some a2) := by
        have h1 := HI2.out
        have h2 := HA2.out
        show _ = _
        rw [HO2.out]
        cases o2 with
        | none => cases h1
        | some n => rw [← h2]; rfl
      have r0 := (itoa_jnum _ _ HJ0.out).2
      have r1 := (itoa_jnum _ _ HJ1.out).2
      have r2 := (itoa_jnum _ _ HJ2.out).2
      have HJN : Hid (∀ nm cr p dl kp su, JP s nm cr p dl kp su → nm = W0 ∧ cr = W5 ∧ p = a0 ∧ dl = a1 ∧ kp = a2 ∧ su = sus) := by
        intro nm cr p dl kp su hj
        obtain ⟨e1, e2, e3, e4, e5, -, e6⟩ := JP_nums W0 W1 W2 W3 W4 W5 hj HSP.out
        rw [HJ0.out] at e3
        rw [HJ1.out] at e4
        rw [HJ2.out] at e5
        refine ⟨e1, e2, (Option.some.inj e3).symm, (Option.some.inj e4).symm, (Option.some.inj e5).symm, ?_⟩
        have h2 := HSU.out
        rw [h2] at e6
        cases su <;> cases sus <;> simp at e6 ⊢
      have HBx := Lib.hid hBx
      have HFx := Lib.hid hFx
      have HBel := Lib.hid hbelx
      clear hBx hFx hbelx HO0 HO1 HO2 HI0 HI1 HI2 HA0 HA1 HA2 HR0 HR1 HR2
      obtain ⟨ck, hck⟩ : ∃ ck, chk W0 W5 a0 a1 a2 = ck := ⟨_, rfl⟩
      have HCK := Lib.hid hck
      clear hck
      go_wp2_with fail
      go_at_call 38
      refine (rcheck_any W0 W5 a0 a1 a2 sus _ (by omega) (by omega)).mono ?_
      rw [HCK.out]
      rintro x wc ⟨rfl, hbc⟩
      by_cases hc0 : ck ≠ 0
      · have hcn : (ck == 0) = false := by simp [hc0]
        have hcn2 : (ck != 0) = true := by simp [hc0]
        have HN : Hid (¬ ∃ nm cr p dl kp sus, JP s nm cr p dl kp sus) := by
          rintro ⟨nm, cr, p, dl, kp, su, hj⟩
          obtain ⟨rfl, rfl, rfl, rfl, rfl, rfl⟩ := HJN.out _ _ _ _ _ _ hj
          exact hc0 (HCK.out.symm.trans hj.2.1)
        have hBx := fun o => (keep0 hbc hzW o).trans (HBx.out o)
        have hFx := fun o => (keepF0 hbc hzW o).trans (HFx.out o)
        have hbelx := bthen HBel.out hbc
        clear hbc
        go_wp2
        have S6 := set6_cells hBx (u0 := .string ⟨#[]⟩) (u1 := .string ⟨#[]⟩) (u2 := .int .i64 0) (u3 := .int .i64 0) (u4 := .int .i64 0) (u5 := .bool false) _ rfl
        exact rp_ret w.heap.size _ _ _ _ _ _ _ _ _ rfl rfl S6 ⟨.inr ⟨HN.out, rfl⟩, zset6 hbelx⟩
      have hc1 : ck = 0 := by omega
      have hcn : (ck == 0) = true := by simp [hc1]
      have hcn2 : (ck != 0) = false := by simp [hc1]
      have t0 := (keep0 hbc hqW 0).trans v0
      have t1 := (keep0 hbc hqW 1).trans v1
      have t2 := (keep0 hbc hqW 2).trans v2
      have t3 := (keep0 hbc hqW 3).trans v3
      have t4 := (keep0 hbc hqW 4).trans v4
      have t5 := (keep0 hbc hqW 5).trans v5
      have HBy := Lib.hid (fun o => (keep0 hbc hzW o).trans (HBx.out o))
      have HFy := Lib.hid (fun o => (keepF0 hbc hzW o).trans (HFx.out o))
      have HBely := Lib.hid (bthen HBel.out hbc)
      have hzy := Nat.lt_of_lt_of_le hzW hbc.size
      have hqy := Nat.lt_of_lt_of_le hqW hbc.size
      have HC0 := Lib.hid (HCK.out.trans hc1)
      clear v0 v1 v2 v3 v4 v5 hbc hc0 hc1 HBx HFx HBel hzW hqW HCK
      go_wp2_with fail
      go_at_call 40
      refine (rencode_any W0 W5 a0 a1 a2 sus _ (by omega) (by omega) (by omega) (by omega) (by omega)).mono ?_
      rintro x we ⟨⟨S, rfl, hS⟩, hbe⟩
      have p0 := (keep0 hbe hqy 0).trans t0
      have p1 := (keep0 hbe hqy 1).trans t1
      have p2 := (keep0 hbe hqy 2).trans t2
      have p3 := (keep0 hbe hqy 3).trans t3
      have p4 := (keep0 hbe hqy 4).trans t4
      have p5 := (keep0 hbe hqy 5).trans t5
      have hBx := fun o => (keep0 hbe hzy o).trans (HBy.out o)
      have hFx := fun o => (keepF0 hbe hzy o).trans (HFy.out o)
      have hbelx := bthen HBely.out hbe
      clear t0 t1 t2 t3 t4 t5 hbe HBy HFy HBely
      by_cases hSs : S.data.toList = s.data.toList
      · have HJ : Hid (JP s W0 W5 a0 a1 a2 sus) := JP_of s W0 W1 W2 W3 W4 W5 a0 a1 a2 sus HSP.out HJ0.out HJ1.out HJ2.out HC0.out (hS.symm.trans hSs)
        have hSe : (S.toList == s.toList) = true := by rw [Lib.toList_data, Lib.toList_data, hSs]; simp
        clear hSs hS
        go_wp2
        have S6 := set6_cells hBx (u0 := .string W0) (u1 := .string W5) (u2 := .int .i64 a0) (u3 := .int .i64 a1) (u4 := .int .i64 a2) (u5 := .bool sus) _ rfl
        exact rp_ret w.heap.size _ _ _ _ _ _ _ _ _ rfl rfl S6 ⟨.inl ⟨_, _, _, _, _, _, HJ.out, rfl⟩, zset6 hbelx⟩
      · have hSe : (S.toList == s.toList) = false := by rw [Lib.toList_data, Lib.toList_data]; simpa using hSs
        have HN : Hid (¬ ∃ nm cr p dl kp sus, JP s nm cr p dl kp sus) := by
          rintro ⟨nm, cr, p, dl, kp, su, hj⟩
          obtain ⟨rfl, rfl, rfl, rfl, rfl, rfl⟩ := HJN.out _ _ _ _ _ _ hj
          exact hSs (hS.trans hj.2.2)
        clear hSs hS
        go_wp2
        have S6 := set6_cells hBx (u0 := .string ⟨#[]⟩) (u1 := .string ⟨#[]⟩) (u2 := .int .i64 0) (u3 := .int .i64 0) (u4 := .int .i64 0) (u5 := .bool false) _ rfl
        exact rp_ret w.heap.size _ _ _ _ _ _ _ _ _ rfl rfl S6 ⟨.inr ⟨HN.out, rfl⟩, zset6 hbelx⟩
end Go.Proofs.YtdpaiaeaamokeaaDoor.Job
