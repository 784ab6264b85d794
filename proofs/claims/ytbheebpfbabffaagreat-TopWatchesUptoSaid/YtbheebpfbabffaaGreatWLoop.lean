/- TopWatches walked: ahead of its loop. -/
import Derived.Deep.DeepCutAuto
import Derived.Test.YtbheebpfbabffaaGreatWLoop0
set_option linter.unusedSimpArgs false
set_option linter.unusedVariables false
namespace Go.Proofs.YtbheebpfbabffaaGreat.Wat
open Go.RowKit Go Go.Lib Mach Go.MapKept

theorem fl_take {l : List Ver} {k : Nat} {a b : Int} (hk : k < l.length) : fl (l.take (k + 1)) a b = fl (l.take k) a b ++ fl [l[k]] a b := by
  rw [← fl_app, List.take_succ_eq_append_getElem hk]
theorem fl_one {p : Ver} {a b : Int} (h : a ≤ p.1 ∧ p.1 < b) : fl [p] a b = [p] := fl_all fun q hq => by rw [List.mem_singleton.1 hq]; exact h
theorem fl_none {p : Ver} {a b : Int} (h : ¬ a ≤ p.1) : fl [p] a b = [] := fl_nil fun q hq h2 => by rw [List.mem_singleton.1 hq] at h2; exact h h2.1
theorem evr_one {w : World} (p : Ver) (A : Array Value) (hA : A.toList = evc p) (t : TypeId) : EvR (w.alloc (.cells A t)) (.slice (some ⟨w.heap.size, 0, none⟩) 1 1) [p] := by
  refine ⟨_, 1, rfl, .inr ⟨w.heap.size, 0, rfl, by simp, fun j u hj => ?_⟩⟩
  have h1 : evs [p] = evc p := by simp [evs]
  rw [h1, ← hA] at hj
  rw [Nat.zero_add, alloc_new]
  simpa using hj
theorem fewc_f {w : World} {N : Nat} {c : Cmd} (h : CmdAt w N c) (hN : N ≤ w.heap.size) : Calls Tryz.prog 12 #[.agg c.cells.toArray] w fun e w' => AnyBool e ∧ Below w.heap.size w w' := by
  obtain ⟨a1, a2, a3, n1, n2, n3, c1, c2, c3, e1, e2, e3⟩ := h.shape
  obtain ⟨I, T, E, hI, hT, hE⟩ := h
  obtain ⟨ccl, csq, ckd, cvi, cvt, cve, cle, ctl, cti, crv⟩ := c
  dsimp only at e1 e2 e3 hI hT hE
  subst e1 e2 e3
  unfold Cmd.cells
  dsimp only
  have hk := fun o => bmore (Below.refl w.heap.size w) o
  have hf := fun o => few_f _ _ _ I T E (hI.keep ((hk o).mono hN)) (hT.keep ((hk o).mono hN)) (hE.keep ((hk o).mono hN)) (Nat.le_trans hN (hk o).size)
  go_enter Tryz.func12, Tryz.ntmps12
  go_wp2_with fail
  go_at_call 30
  refine (hf _).mono ?_
  rintro e w1 ⟨⟨b, rfl⟩, hb⟩
  go_wp2
  go_ret
  exact ⟨⟨_, rfl⟩, bthen (hk _) hb⟩

/-- The start of the loop. -/
theorem me_start {w0 w2 w3 w5 : World} {N n fr wb : Nat} (hN : N ≤ n) (hF : Fresh w2 n) (hb2 : Below N w0 w2) (hHe : He w3 (w2.heap.size + 1) w2.heap.size (idsOf n).sb 0) (hb3 : Below w2.heap.size w2 w3) (hwb : w3.heap.size ≤ wb) (hH : Hb w5 (w2.heap.size + 1) w2.heap.size wb (idsOf n).sb 1 fr .behind [w2.heap.size + 1, w2.heap.size, wb]) (hO : Only (fun y => y = w2.heap.size + 1 ∨ y = w2.heap.size) w3 w5) :
    Me w0 w5 N (idsOf n) (w2.heap.size + 1) w2.heap.size 0 0 0 [] [] [n + 3, n + 2, n + 1] wb 1 fr .behind [w2.heap.size + 1, w2.heap.size, wb] (.slice none 0 0) (.slice none 0 0) [] [] := by
  have hz2 := hF.tb.lt
  have hz3 := hb3.size
  have hnl : N ≤ w2.heap.size := by omega
  have hz : w2.heap.size + 1 < w3.heap.size := hHe.1.lt
  have hm3 := (fresh_ma [w2.heap.size + 1, w2.heap.size, wb] hF).keep hb3
  have hft : ∀ y ∈ (idsOf n).foot [n + 3, n + 2, n + 1], n ≤ y ∧ y ≤ n + 7 := fun y hy => by
    simp [Ids.foot, idsOf] at hy
    omega
  refine ⟨hm3.only hO (fun y hy e => by have := hft y hy; omega) (fun y hy _ => by rcases hy with rfl | rfl <;> simp) (fun y hy _ => by simpa [blk, Value.ownBlock] using hy), hH, Evs.nil _ _, Evs.nil _ _, ?_, ?_, hb2.trans ((hb3.mono hnl).trans (hO.below N (by omega) (fun y hy e => by omega))), by have := hO.size; omega⟩
  · intro a
    have : (Fa (idsOf n) [n + 3, n + 2, n + 1] [w2.heap.size + 1, w2.heap.size, wb] (.slice none 0 0) (.slice none 0 0)).Nodup := by
      simp [Fa, Ids.foot, idsOf, blk, Value.ownBlock]
      omega
    exact List.nodup_iff_count.1 this a
  · intro y hy
    simp [Fa, Ids.foot, idsOf, blk, Value.ownBlock] at hy
    omega

set_option maxHeartbeats 16000000 in
set_option maxRecDepth 100000 in
theorem watches_walk (hkn : ∀ w : World, Calls Tryz.prog 5 #[] w fun e w' => e = .returned (.bool true) ∧ Below w.heap.size w w') {w0 : World} {N : Nat} {vl vp : Value} {l : List Cmd} {ps : List Int} (hl : CmdsAt w0 N vl l) (hp : RdAt w0 N vp 1 (fun x : Int => [Value.int .i64 x]) ps) (hN : N ≤ w0.heap.size) (fm : Int) :
    Calls Tryz.prog 3 #[vl, .int .i64 fm, vp] w0 fun e w' => e = .returned (.bool true) ∧ Below N w0 w' := by
  obtain ⟨⟨al, cl0, rfl, hrl⟩, hcl⟩ := hl
  obtain ⟨ap, cp0, rfl, hrp⟩ := hp
  have HRL : Aside _ := hrl
  have HCL : Aside _ := hcl
  have HRP : Aside _ := hrp
  clear hrl hcl hrp
  obtain ⟨fr, hfr⟩ : ∃ fr : Nat, (1 : Int) + fm % 5 = (fr : Int) := ⟨(1 + fm % 5).toNat, by omega⟩
  have hfr1 : 1 ≤ fr ∧ fr ≤ 5 := by omega
  go_enter Tryz.func3, Tryz.ntmps3
  go_wp2_with fail
  go_at_call 5
  refine (hkn w0).mono ?_
  rintro e w1 ⟨rfl, hb1⟩
  go_wp2_with fail
  go_at_call 6
  refine (mnew w1).mono ?_
  rintro e w2 ⟨rfl, hF, hb2⟩
  have hMa := fresh_ma [] hF
  have hbw2 : Below N w0 w2 := (hb1.mono hN).trans (hb2.mono (Nat.le_trans hN hb1.size))
  have hNn : N ≤ w1.heap.size := Nat.le_trans hN hb1.size
  generalize w1.heap.size = n at *
  go_wp2_with fail
  go_at_call 8
  refine (mstore_w hMa.1).mono ?_
  rintro e w3 ⟨rfl, rfl⟩
  go_wp2_with fail
  go_at_call 7
  refine (hub_new (idsOf n).sb _).mono ?_
  rintro e w3 ⟨rfl, hHe, hb3⟩
  go_wp2_with fail
  go_at_call 9
  refine (within_f fm 5 _ (by omega) (by omega)).mono ?_
  rintro e w4 ⟨rfl, rfl⟩
  go_wp2_with fail
  go_at_call 11
  refine (top_f _).mono ?_
  rintro e w4 ⟨rfl, rfl⟩
  go_wp2_with fail
  go_at_call 10
  refine (watch_f hHe ⟨by omega, by omega⟩ fr hfr1.1 (by omega)).mono ?_
  rintro e w5 ⟨rfl, ⟨wb, hwb, hH⟩, hO5⟩
  have hMe := me_start hNn hF hbw2 hHe hb3 hwb hH hO5
  go_wp2
  clear hMa hF hb1 hb2 hHe hb3 hO5 hwb hH
  generalize w2.heap.size + 1 = hb at *
  generalize w2.heap.size = hm at *
  clear hbw2
  go_loopg [9, 10, 11, 12, 13, 14, 15, 16, 17, 18, 19, 20, 21, 22, 23] 40 (fun kx s9 s10 s11 s12 s13 s14 _ _ _ _ _ _ _ _ _ wq => ∃ (i : Nat) (ag : Int) (cl : Int) (rev C : Nat) (chs : List Ver) (Ks : List Value) (S : List Nat) (wb : Nat) (id : Int) (pl : Nat) (mo : Mo) (B : List Nat) (all told : List Ver) (next : Nat), s14 = .int .i64 i ∧ s13 = .int .i64 ag ∧ s9 = .int .i64 id ∧ s12 = .int .i64 next ∧ kx = 40 - i ∧ 0 ≤ ag ∧ ag ≤ i ∧ Me w0 wq N (idsOf n) hb hm cl rev C chs Ks S wb id pl mo B s10 s11 all told ∧ Gl chs rev fr all told pl mo next ∧ Nu i fr rev C Ks id)
  case atStart => exact ⟨0, 0, 0, 0, 0, [], [], _, wb, 1, fr, .behind, _, [], [], fr, rfl, rfl, rfl, rfl, rfl, Int.le_refl _, Int.le_refl _, hMe, Gl.start fr, ⟨Nat.le_refl _, Nat.le_refl _, Nat.le_refl _, by omega, by omega, by omega, hfr1.1, hfr1.2⟩⟩
  case round =>
    clear hMe hNn w1 w2 w3 w5 wb
    obtain ⟨i, ag, cl, rev, C, chs, Ks, S, wb, id, pl, mo, B, all, told, next, rfl, rfl, rfl, rfl, hkx, hag0, hag1, hMe, hGl, hNu⟩ := hrel
    obtain ⟨aa, ca, rfl⟩ := hMe.ea.shape
    obtain ⟨ab, cb, rfl⟩ := hMe.et.shape
    by_cases hil : i < l.length
    · by_cases hi40 : i < 40
      · obtain hnil | ⟨bl, o, ha, hbl, hcx⟩ := HRL.out
        · rw [hnil] at hil; exact absurd hil (Nat.not_lt_zero i)
        subst ha
        obtain ⟨x, hx⟩ : ∃ x, l[i]? = some x := ⟨_, List.getElem?_eq_getElem hil⟩
        have hxc : CmdAt w0 N x := HCL.out x (List.mem_of_getElem? hx)
        have hci : ∀ W, Below N w0 W → ∀ q u, x.cells[q]? = some u → W.cell? ⟨bl, o + i * 10 + q, none⟩ = some u := fun W hb q u hq => (World.cell?_of_block (w := w0) (hb.block bl hbl)).trans (hcx i x hx q u hq)
        have hfew := fewc_f (hxc.keep hMe.bw) hMe.nw
        obtain ⟨a1, a2, a3, n1, n2, n3, c1, c2, c3, e1, e2, e3⟩ := hxc.shape
        obtain ⟨ccl, csq, ckd, cvi, cvt, cve, cle, ctl, cti, crv⟩ := x
        dsimp only at e1 e2 e3
        subst e1 e2 e3
        unfold Cmd.cells at hci hfew
        dsimp only at hci hfew
        have HCI : Aside _ := hci
        have hcr := hci wr hMe.bw
        have f0 : wr.cell? ⟨bl, o + i * 10, none⟩ = _ := hcr 0 _ rfl
        have f1 := hcr 1 _ rfl
        have f2 := hcr 2 _ rfl
        have f3 := hcr 3 _ rfl
        have f4 := hcr 4 _ rfl
        have f5 := hcr 5 _ rfl
        have f6 := hcr 6 _ rfl
        have f7 := hcr 7 _ rfl
        have f8 := hcr 8 _ rfl
        have f9 := hcr 9 _ rfl
        have hii : (i : Int) < (l.length : Int) := by omega
        have hi4 : (i : Int) < 40 := by omega
        clear hci hcr hx hcx
        go_wp2_with fail
        go_at_call 12
        refine hfew.mono ?_
        rintro e wa ⟨⟨bf, rfl⟩, hba⟩
        have hMa := hMe.keep hba
        clear f0 f1 f2 f3 f4 f5 f6 f7 f8 f9 hfew
        have hNu1 : Nu (i + 1) fr rev C Ks id := by obtain ⟨n1, n2, n3, n4, n5, n6, n7, n8⟩ := hNu; exact ⟨by omega, by omega, by omega, n4, by omega, by omega, n7, n8⟩
        cases bf with
        | false =>
          go_wp2
          go_roundg (40 - (i + 1))
          case measure => omega
          case rel => exact ⟨i + 1, ag, cl, rev, C, chs, Ks, S, wb, id, pl, mo, B, all, told, next, by simp, rfl, rfl, rfl, rfl, hag0, by omega, hMa, hGl, hNu1⟩
        | true =>
          have hcr := HCI.out wa hMa.bw
          have f2 := hcr 2 _ rfl
          cases hk6 : (ckd == 6) with
          | true =>
            go_wp2
            go_roundg (40 - (i + 1))
            case measure => omega
            case rel => exact ⟨i + 1, ag, cl, rev, C, chs, Ks, S, wb, id, pl, mo, B, all, told, next, by simp, rfl, rfl, rfl, rfl, hag0, by omega, hMa, hGl, hNu1⟩
          | false =>
            have hk6' : ckd ≠ 6 := by simpa using hk6
            obtain ⟨op, hst⟩ := hMa.ma.1.st
            have f0 : wa.cell? ⟨bl, o + i * 10, none⟩ = _ := hcr 0 _ rfl
            have f1 := hcr 1 _ rfl
            have f3 := hcr 3 _ rfl
            have f4 := hcr 4 _ rfl
            have f5 := hcr 5 _ rfl
            have f6 := hcr 6 _ rfl
            have f7 := hcr 7 _ rfl
            have f8 := hcr 8 _ rfl
            have f9 := hcr 9 _ rfl
            have hlo := hMa.lo
            have hnu := hNu
            obtain ⟨nu1, nu2, nu3, nu4, nu5, nu6, nu7, nu8⟩ := hNu
            have hap := apply_f hMa.ma hMa.xlt (by omega) (by omega) (hxc.keep hMa.bw) hk6' hMa.nw (fun y hy => hlo y (fa_mem.2 (.inl (((idsOf n).foot_iff S y).2 (by simp [hy])))))
            unfold Cmd.cells at hap
            dsimp only at hap
            clear hlo hcr
            go_wp2_with fail
            go_at_call 8
            refine (mstore_w hMa.ma.1).mono ?_
            rintro e w5 ⟨rfl, rfl⟩
            go_wp2_with fail
            go_at_call 13
            refine (rev_c _ _ _ hst.rev_cell).mono ?_
            rintro e w5 ⟨rfl, rfl⟩
            go_wp2_with fail
            go_at_call 14
            refine hap.mono ?_
            rintro e w5 ⟨⟨vr, rfl⟩, hP⟩
            clear f0 f1 f2 f3 f4 f5 f6 f7 f8 f9 hap
            obtain ⟨cl', rev', C', new, Ks', S', hMb, hC', hK', hNO⟩ := hMa.apply hP
            have hGa := hGl.apply hNO
            have hrv' : rev' ≤ i + 1 := by rcases hNO with ⟨-, h⟩ | ⟨-, h, -⟩ <;> omega
            have hNu' : Nu (i + 1) fr rev' C' Ks' id := ⟨hrv', by omega, by omega, nu4, by omega, by omega, nu7, nu8⟩
            obtain ⟨op', hst'⟩ := hMb.ma.1.st
            go_wp2_with fail
            go_at_call 8
            refine (mstore_w hMb.ma.1).mono ?_
            rintro e w6 ⟨rfl, rfl⟩
            go_wp2_with fail
            go_at_call 15
            refine (since_f hst' (by omega) hGa.so ((rev : Int) + 1) (by omega)).mono ?_
            rintro e w6 ⟨⟨vv, k0, rfl, hAt, hEv⟩, hb6⟩
            rw [since_new hGl.rv hNO hAt] at hEv
            have hMc := hMb.keep hb6
            obtain ⟨ae, ce, rfl⟩ := hEv.shape
            have hEr := hEv.read
            have hdj0 : ∀ y ∈ blk (.slice ae new.length ce), y ∉ blk (.slice aa all.length ca) := fun y hy hm => by
              have := (hEv.lt y hy).1
              have := hMb.lt y (fa_mem.2 (.inr (.inr (.inl hm))))
              omega
            have hnl : new.length ≤ 100000 := by
              have := hMb.chl
              rw [List.length_append] at this
              omega
            have hrn : ∀ p ∈ new, p.1 < (rev' : Int) + 1 := fun p hp => by have := (hGa.rv p (List.mem_append.2 (.inr hp))).2; omega
            have HRN : Aside _ := hrn
            clear hrn hMa hst hst' hEv hP hMb
            go_wp2
            go_loopg [10, 18] new.length (fun kx s10 s18 wq => ∃ k : Nat, s18 = .int .i64 k ∧ k ≤ new.length ∧ kx = new.length - k ∧ Me w0 wq N (idsOf n) hb hm cl' rev' C' (chs ++ new) Ks' S' wb id pl mo B s10 (.slice ab told.length cb) (all ++ fl (new.take k) fr ((rev' : Int) + 1)) told ∧ EvR wq (.slice ae new.length ce) new ∧ ∀ y ∈ blk (.slice ae new.length ce), y ∉ blk s10)
            case atStart => exact ⟨0, rfl, Nat.zero_le _, rfl, by simpa [fl] using hMc, hEr, hdj0⟩
            case round =>
              clear hMc hEr hdj0
              obtain ⟨k, rfl, hk, hkx2, hMq, hEq, hdj⟩ := hrel
              obtain ⟨a10, c10, hs10⟩ := hMq.ea.shape
              subst hs10
              have hal : (all ++ fl (new.take k) fr ((rev' : Int) + 1)).length ≤ 200000 := by
                have h1 := hGl.len
                have h2 : (fl (new.take k) fr ((rev' : Int) + 1)).length ≤ (new.take k).length := List.length_filter_le ..
                have h3 := List.length_take_le k new
                have h4 := hMq.chl
                rw [List.length_append] at h4
                rw [List.length_append]
                omega
              by_cases hkn : k < new.length
              · obtain ⟨g, o2, cc, eq2, hg, hcc⟩ := hEq.at k hkn
                cases eq2
                have hstep := fl_take (l := new) (k := k) (a := fr) (b := (rev' : Int) + 1) hkn
                have hp1 := HRN.out new[k] (List.getElem_mem _)
                have hone := evr_one (w := wr) new[k]
                obtain ⟨dl, vv, pa, pb, pc, pd, hev⟩ := evc_form new[k]
                have hf1 := @fl_one new[k] fr ((rev' : Int) + 1)
                have hf0 := @fl_none new[k] fr ((rev' : Int) + 1)
                rw [hev] at hcc hone
                generalize hpk : new[k] = pk at *
                generalize pk.1 = r at hcc hone hp1 hf1 hf0
                generalize pk.2.key = kk at hcc hone
                have e0 : wr.cell? ⟨g, o2 + k * 8, none⟩ = _ := hcc 0 _ (by omega) rfl
                have e1 := hcc 1 _ (by omega) rfl
                have e2 := hcc 2 _ (by omega) rfl
                have e3 := hcc 3 _ (by omega) rfl
                have e4 := hcc 4 _ (by omega) rfl
                have e5 := hcc 5 _ (by omega) rfl
                have e6 := hcc 6 _ (by omega) rfl
                have e7 := hcc 7 _ (by omega) rfl
                have hki : (k : Int) < (new.length : Int) := by omega
                generalize hL2 : all ++ fl (new.take k) (fr : Int) ((rev' : Int) + 1) = L2 at *
                clear hcc hev hpk
                by_cases hge : (fr : Int) ≤ r
                · have hfl := hf1 ⟨hge, hp1⟩
                  have HFL : Aside _ := hfl
                  have HST : Aside _ := hstep
                  have HL2 : Aside _ := hL2
                  clear hfl hstep hf1 hf0 hL2
                  go_wp2_with (at_builtin; refine wpList_app_evs rfl _ _ rfl (.slice a10 L2.length c10) (.slice (some ⟨wr.heap.size, 0, none⟩) 1 1) L2 [pk] rfl rfl (hMq.ea.keep (bmore (Below.refl _ _) _)) (hone _ rfl _) (by simp; omega) (Nat.zero_le _) ?_; intro a' c' w' hE' hO' hb')
                  have hOw := (Only.of_below (F := fun y => y ∈ blk (.slice a10 L2.length c10)) (bmore (Below.refl wr.heap.size wr) _)).trans hO' (fun _ _ h => h)
                  have hbw : ∀ y ∈ blk (.slice a' (L2.length + [pk].length) c'), y ∈ blk (.slice a10 L2.length c10) ∨ wr.heap.size ≤ y := fun y hy => by
                    rcases hb' y hy with h1 | h1
                    · exact .inl h1
                    · simp at h1; exact .inr (by omega)
                  go_roundg (new.length - (k + 1))
                  case measure => omega
                  case rel =>
                    refine ⟨k + 1, by simp, by omega, rfl, ?_, hEq.only hOw hdj, fun y hy hm => ?_⟩
                    · rw [HST.out, HFL.out, ← List.append_assoc, HL2.out]
                      exact hMq.all hOw hE' hbw
                    · rcases hbw y hm with h1 | h1
                      · exact hdj y hy h1
                      · obtain rfl : y = g := by simpa [blk, Value.ownBlock] using hy
                        omega
                · have hfl := hf0 hge
                  have HFL : Aside _ := hfl
                  have HST : Aside _ := hstep
                  have HL2 : Aside _ := hL2
                  clear hfl hstep hf1 hf0 hL2
                  go_wp2
                  go_roundg (new.length - (k + 1))
                  case measure => omega
                  case rel =>
                    refine ⟨k + 1, by simp, by omega, rfl, ?_, hEq, hdj⟩
                    rw [HST.out, HFL.out, List.append_nil, HL2.out]
                    exact hMq
              · obtain rfl : k = new.length := by omega
                rw [List.take_length] at hMq hal hdj ⊢
                generalize all ++ fl new (fr : Int) ((rev' : Int) + 1) = all2 at *
                clear hEq hdj
                obtain ⟨op8, hst8⟩ := hMq.ma.1.st
                have hpls := hGa.pls hNu'
                have hrvl : ∀ p ∈ chs ++ new, p.1 ≤ (rev' : Int) := fun p hp => (hGa.rv p hp).2
                have hSwb : ∀ y ∈ S', y ≠ wb := fun y hy e => (hMq.mem.1 y (((idsOf n).foot_iff S' y).2 (by simp [hy]))).1 (e ▸ hMq.wb3.1)
                have hCb : C' ≤ 1000000 := by omega
                have hrb : rev' ≤ 1000000 := by omega
                have hfd := feed_f hMq.hu hst8 hCb hGa.so hrvl hrb hpls.1 (by omega) hSwb
                go_wp2_with fail
                go_at_call 16
                refine hfd.mono ?_
                rintro e w8 ⟨rfl, hFP⟩
                obtain ⟨pl2, mo2, B2, hFR, hM8⟩ := hMq.feed hFP
                have hG8 := hGa.feed hFR
                clear hFP hMq hst8 hfd hGa hFR
                by_cases hip : i < ps.length
                · obtain hnil | ⟨bp, op2, hap, hbp, hcp⟩ := HRP.out
                  · rw [hnil] at hip; exact absurd hip (Nat.not_lt_zero i)
                  subst hap
                  obtain ⟨px, hpx⟩ : ∃ x, ps[i]? = some x := ⟨_, List.getElem?_eq_getElem hip⟩
                  have hpc : w8.cell? ⟨bp, op2 + i, none⟩ = some (.int .i64 px) := by
                    have := (World.cell?_of_block (w := w0) (hM8.bw.block bp hbp)).trans (hcp i px hpx 0 _ rfl)
                    simpa using this
                  have hpi : (i : Int) < (ps.length : Int) := by omega
                  obtain ⟨op8, hst8⟩ := hM8.ma.1.st
                  have hpls := hG8.pls hNu'
                  have hrvl : ∀ p ∈ chs ++ new, p.1 ≤ (rev' : Int) := fun p hp => (hG8.rv p hp).2
                  have hSwb : ∀ y ∈ S', y ≠ wb := fun y hy e => (hM8.mem.1 y (((idsOf n).foot_iff S' y).2 (by simp [hy]))).1 (e ▸ hM8.wb3.1)
                  have hpo := poll_f hM8.hu hst8 hCb hG8.so hrvl hrb hpls.1 (by omega) hSwb (px % 9)
                  have HCP : Aside _ := hcp
                  clear hcp hpx
                  go_wp2_with fail
                  go_at_call 9
                  refine (within_f px 9 _ (by omega) (by omega)).mono ?_
                  rintro e w9 ⟨rfl, rfl⟩
                  go_wp2_with fail
                  go_at_call 17
                  refine hpo.mono ?_
                  clear hpo hpc
                  rintro e w9 (⟨v', out, pl3, mo3, B3, rfl, hPR, ⟨hER, hEf⟩, hH9, hg9, hO9⟩ | ⟨rfl, hmo, hHe, hO9⟩)
                  · have hM9 := hM8.hub hO9 (fun y hy _ => hy ▸ hM8.wb3.1) hH9 hg9
                    have hER2 := hER
                    obtain ⟨av, cv, hv', -⟩ := hER2
                    subst hv'
                    have hol := hG8.outlen hPR
                    have hom := hG8.outmem hPR
                    have hch := hM8.chl
                    have hlen := hG8.len
                    have hEt9 := hM9.et
                    have hlt8 := hM8.lt
                    go_upto_region 33 with (at_builtin; refine wpList_app_evs rfl _ _ rfl (.slice ab told.length cb) (.slice av out.length cv) told out rfl rfl hEt9 hER (by omega) (Nat.zero_le _) ?_; intro a' c' w10 hE10 hO10 hb10)
                    have hwt : ∀ y ∈ blk (.slice ab told.length cb), y < w8.heap.size := fun y hy => hlt8 y (fa_mem.2 (.inr (.inr (.inr hy))))
                    have hM10 : Me w0 w10 N (idsOf n) hb hm cl' rev' C' (chs ++ new) Ks' S' wb id pl3 mo3 B3 (.slice a10 all2.length c10) (.slice a' (told.length + out.length) c') all2 (told ++ out) := hM9.told hO10 hE10 hb10
                    have hEtR := hM10.et.read
                    have hEr10 : EvR w10 (.slice av out.length cv) out := hER.only hO10 (fun y hy hm => by have := hEf y hy; have := hwt y hm; omega)
                    have hob : out.length ≤ 100000 ∧ told.length ≤ 100000 ∧ all2.length ≤ 100000 := by omega
                    obtain ⟨hob1, hob2, hob3⟩ := hob
                    by_cases ho : out = []
                    · subst ho
                      have hNR : NextR all2 told [] next next := ⟨fun _ => rfl, fun y hy => by cases hy⟩
                      have hG10 := hG8.poll hPR hNR
                      rw [List.append_nil] at hG10
                      have hM11 : Me w0 w10 N (idsOf n) hb hm cl' rev' C' (chs ++ new) Ks' S' wb id pl3 mo3 B3 (.slice a10 all2.length c10) (.slice a' told.length c') all2 told := by
                        have := hM10
                        rw [List.append_nil] at this
                        exact this
                      have hE11 := hM11.et.read
                      clear hM10 hEtR hER hEr10 hE10 hPR hNR hob1 hH9 hg9 hEf hwt hO10
                      have hle2 : (told.length : Int) ≤ (all2.length : Int) := by have := hG10.len; omega
                      have hle1 : (told.length : Int) ≤ (all2.length : Int) + 32 := by omega
                      simp only [List.length_nil, Nat.add_zero]
                      by_cases hag : 0 < ag
                      · go_wp2
                        go_ret
                        exact ⟨rfl, hM11.bw⟩
                      · obtain ⟨r10, hr10⟩ := hG10.pre
                        rcases own_open hM11.ea with ⟨hnil0, hn0, -⟩ | ⟨ga, capa, heqa, -, hgla, hcapa, hcella⟩
                        · injection hnil0 with q1 q2 q3
                          subst q1 q3
                          have hA0 := List.length_eq_zero_iff.1 hn0
                          have hTO : told = [] := by rw [hA0] at hr10; exact (List.append_eq_nil_iff.1 hr10.symm).1
                          clear hn0 q2 hr10 hle1 hle2
                          subst hTO
                          subst hA0
                          simp only [List.length_nil] at hE11 ⊢
                          have hsm := same_f hE11 (⟨none, 0, rfl, .inl rfl⟩ : EvR w10 (.slice none 0 0) []) (by simp)
                          go_wp2_with fail
                          go_at_call 18
                          refine hsm.mono ?_
                          rintro e w11 ⟨rfl, hb11⟩
                          go_wp2
                          go_roundg (40 - (i + 1))
                          case measure => omega
                          case rel => exact ⟨i + 1, ag, cl', rev', C', chs ++ new, Ks', S', wb, id, pl3, mo3, B3, [], [], next, by simp, rfl, rfl, rfl, rfl, hag0, by omega, hM11.keep hb11, hG10, hNu'⟩
                        · injection heqa with q1 q2 q3
                          subst q1 q3
                          have hEz : EvR w10 (.slice (some ⟨ga, 0, none⟩) told.length c10) told := ⟨_, c10, rfl, .inr ⟨ga, 0, rfl, hgla, fun j u hj => by
                            rw [Nat.zero_add]
                            refine hcella j u ?_
                            rw [hr10, evs_append, List.getElem?_append_left (List.getElem?_eq_some_iff.1 hj).1]
                            exact hj⟩⟩
                          have hcap1 : (told.length : Int) ≤ (c10 : Int) := by omega
                          clear hcella hr10
                          have hsm := same_f hE11 hEz (by omega)
                          clear hEz
                          go_wp2_with fail
                          go_at_call 18
                          refine hsm.mono ?_
                          rintro e w11 ⟨rfl, hb11⟩
                          go_wp2
                          go_roundg (40 - (i + 1))
                          case measure => omega
                          case rel => exact ⟨i + 1, ag, cl', rev', C', chs ++ new, Ks', S', wb, id, pl3, mo3, B3, all2, told, next, by simp, rfl, rfl, rfl, rfl, hag0, by omega, hM11.keep hb11, hG10, hNu'⟩
                    · have hlp := List.length_pos_iff.2 ho
                      obtain ⟨m, hmo⟩ : ∃ m, m + 1 = out.length := ⟨out.length - 1, by omega⟩
                      obtain ⟨y, hy⟩ : ∃ y, out[m]? = some y := ⟨_, List.getElem?_eq_getElem (by omega)⟩
                      have hyl : out.getLast? = some y := by rw [List.getLast?_eq_getElem?, show out.length - 1 = m by omega]; exact hy
                      have hyb := hG8.rv y (hom y (List.mem_of_getElem? hy))
                      obtain ⟨g3, o3, k3, e3, hg3, hc3⟩ := hEr10.at m (by omega)
                      cases e3
                      have hyc : w10.cell? ⟨g3, o3 + m * 8, none⟩ = some (.int .i64 y.1) := by
                        have hye : out[m]'(by omega) = y := (List.getElem?_eq_some_iff.1 hy).2
                        rw [hye] at hc3
                        obtain ⟨dl, vv, pa, pb, pc, pd, hev⟩ := evc_form y
                        rw [hev] at hc3
                        exact hc3 0 _ (by omega) rfl
                      have hNRw : ∀ nx : Nat, (Whole all2 (told ++ out) y.1 → (nx : Int) = y.1 + 1) → (¬ Whole all2 (told ++ out) y.1 → (nx : Int) = y.1) → NextR all2 told out next nx := fun nx h1 h2 => ⟨fun h => absurd h ho, fun z hz => by rw [hyl] at hz; cases hz; exact ⟨h1, h2⟩⟩
                      have hidx : (out.length : Int) - 1 = (m : Int) := by omega
                      have hmi : (m : Int) < (out.length : Int) := by omega
                      have hop : (0 : Int) < (out.length : Int) := by omega
                      have hEa10 := hM10.ea.read
                      have HA10 : Aside _ := hEa10.at
                      have hWdef : ∀ b : Bool, (b = true ↔ ∀ j x, j < all2.length → all2[j]? = some x → x.1 = y.1 → j < told.length + out.length) → (b = true ↔ Whole all2 (told ++ out) y.1) := fun b h => by
                        rw [h]
                        unfold Whole
                        rw [List.length_append]
                        exact ⟨fun h1 k x hx he => h1 k x (List.getElem?_eq_some_iff.1 hx).1 hx he, fun h1 k x _ hx he => h1 k x hx he⟩
                      have hyn : ((y.1.toNat : Nat) : Int) = y.1 := by omega
                      generalize y.1 = yv at hyb hyc hNRw hWdef hyn
                      clear hc3 hy hyl hEa10
                      go_wp2
                      go_loopg [22, 23] all2.length (fun kx s22 s23 wq => ∃ (k : Nat) (b : Bool), s23 = .int .i64 k ∧ s22 = .bool b ∧ k ≤ all2.length ∧ kx = all2.length - k ∧ Aside (b = true ↔ ∀ j x, j < k → all2[j]? = some x → x.1 = yv → j < told.length + out.length) ∧ w10 = wq)
                      case atStart => exact ⟨0, true, rfl, rfl, Nat.zero_le _, rfl, ⟨fun _ j x h => absurd h (Nat.not_lt_zero j), fun _ => rfl⟩, rfl⟩
                      case round =>
                        obtain ⟨k, b, rfl, rfl, hk, hkx3, hB, rfl⟩ := hrel
                        by_cases hka : k < all2.length
                        · obtain ⟨g4, o4, k4, e4, hg4, hc4⟩ := HA10.out k hka
                          cases e4
                          have hsp : ∀ b2 : Bool, (b2 = true ↔ b = true ∧ (all2[k].1 = yv → k < told.length + out.length)) → Aside (b2 = true ↔ ∀ j x, j < k + 1 → all2[j]? = some x → x.1 = yv → j < told.length + out.length) := fun b2 h => by
                            refine show _ ↔ _ from ?_
                            rw [h, hB.out]
                            refine ⟨fun h1 j x hj hx he => ?_, fun h1 => ⟨fun j x hj hx he => h1 j x (by omega) hx he, fun he => h1 k _ (by omega) (List.getElem?_eq_getElem hka) he⟩⟩
                            rcases Nat.lt_or_ge j k with hjk | hjk
                            · exact h1.1 j x hjk hx he
                            · obtain rfl : j = k := by omega
                              rw [List.getElem?_eq_getElem hka] at hx
                              cases hx
                              exact h1.2 he
                          have HSP : Aside _ := hsp
                          clear hsp
                          obtain ⟨dl, vv, pa, pb, pc, pd, hev⟩ := evc_form all2[k]
                          rw [hev] at hc4
                          have hcr : w10.cell? ⟨g4, o4 + k * 8, none⟩ = _ := hc4 0 _ (by omega) rfl
                          have hki2 : (k : Int) < (all2.length : Int) := by omega
                          clear hc4 hev
                          generalize all2[k].1 = r at hcr HSP
                          cases b with
                          | false =>
                            go_wp2
                            go_roundg (all2.length - (k + 1))
                            case measure => omega
                            case rel => exact ⟨k + 1, false, by simp, rfl, by omega, rfl, HSP.out false (by simp), rfl⟩
                          | true =>
                            cases hne : (r != yv) with
                            | true =>
                              go_wp2
                              go_roundg (all2.length - (k + 1))
                              case measure => omega
                              case rel => exact ⟨k + 1, true, by simp, rfl, by omega, rfl, HSP.out true (by simp at hne; simp [hne]), rfl⟩
                            | false =>
                              by_cases hkt : (k : Int) < (told.length : Int) + (out.length : Int)
                              · go_wp2
                                go_roundg (all2.length - (k + 1))
                                case measure => omega
                                case rel => exact ⟨k + 1, true, by simp, rfl, by omega, rfl, HSP.out true (by simp; omega), rfl⟩
                              · go_wp2
                                go_roundg (all2.length - (k + 1))
                                case measure => omega
                                case rel => exact ⟨k + 1, false, by simp, rfl, by omega, rfl, HSP.out false (by simp at hne; simp [hne]; omega), rfl⟩
                        · obtain rfl : k = all2.length := by omega
                          have hWH := hWdef b hB.out
                          cases b with
                          | true =>
                            have hw := hWH.1 rfl
                            have hny : (((yv + 1).toNat : Nat) : Int) = yv + 1 := by omega
                            obtain ⟨nx, hnx⟩ : ∃ nx : Nat, (nx : Int) = yv + 1 := ⟨_, hny⟩
                            have hNR := hNRw nx (fun _ => hnx) (fun h => absurd hw h)
                            have HNY : Aside _ := hnx
                            clear hny hyn hnx hw hWH hNRw hWdef HA10 hB
                            have hG10 := hG8.poll hPR hNR
                            have hlen10 := hG10.len
                            have hta : (told ++ out).length = told.length + out.length := List.length_append
                            have hle2 : (told.length : Int) + (out.length : Int) ≤ (all2.length : Int) := by omega
                            have hle1 : (told.length : Int) + (out.length : Int) ≤ (all2.length : Int) + 32 := by omega
                            clear hta hlen10 hNR
                            by_cases hag : 0 < ag
                            · go_wp2
                              go_ret
                              exact ⟨rfl, hM10.bw⟩
                            · obtain ⟨r10, hr10⟩ := hG10.pre
                              rcases own_open hM10.ea with ⟨hnil0, hn0, -⟩ | ⟨ga, capa, heqa, -, hgla, hcapa, hcella⟩
                              · injection hnil0 with q1 q2 q3
                                subst q1 q3
                                have hA0 := List.length_eq_zero_iff.1 hn0
                                have hTO : told ++ out = [] := by rw [hA0] at hr10; exact (List.append_eq_nil_iff.1 hr10.symm).1
                                have hz1 : told.length + out.length = 0 := by rw [← List.length_append, hTO]; rfl
                                exact absurd hz1 (by omega)
                              · injection heqa with q1 q2 q3
                                subst q1 q3
                                have hEz : EvR w10 (.slice (some ⟨ga, 0, none⟩) (told.length + out.length) c10) (told ++ out) := ⟨_, c10, by rw [List.length_append], .inr ⟨ga, 0, rfl, hgla, fun j u hj => by
                                  rw [Nat.zero_add]
                                  refine hcella j u ?_
                                  rw [hr10, evs_append, List.getElem?_append_left (List.getElem?_eq_some_iff.1 hj).1]
                                  exact hj⟩⟩
                                have hcap1 : (told.length : Int) + (out.length : Int) ≤ (c10 : Int) := by omega
                                clear hcella hr10
                                have hsm := same_f hEtR hEz (by rw [List.length_append]; omega)
                                clear hEz
                                go_wp2_with fail
                                go_at_call 18
                                refine hsm.mono ?_
                                rintro e w11 ⟨rfl, hb11⟩
                                go_wp2
                                go_roundg (40 - (i + 1))
                                case measure => omega
                                case rel => exact ⟨i + 1, ag, cl', rev', C', chs ++ new, Ks', S', wb, id, pl3, mo3, B3, all2, told ++ out, nx, by simp, rfl, rfl, by rw [HNY.out], rfl, hag0, by omega, hM10.keep hb11, hG10, hNu'⟩
                          | false =>
                            have hw : ¬ Whole all2 (told ++ out) yv := fun h => by have := hWH.2 h; cases this
                            have hNR := hNRw yv.toNat (fun h => absurd h hw) (fun _ => hyn)
                            have HNY : Aside _ := hyn
                            clear hyn hw hWH hNRw hWdef HA10 hB
                            have hG10 := hG8.poll hPR hNR
                            have hlen10 := hG10.len
                            have hta : (told ++ out).length = told.length + out.length := List.length_append
                            have hle2 : (told.length : Int) + (out.length : Int) ≤ (all2.length : Int) := by omega
                            have hle1 : (told.length : Int) + (out.length : Int) ≤ (all2.length : Int) + 32 := by omega
                            clear hta hlen10 hNR
                            by_cases hag : 0 < ag
                            · go_wp2
                              go_ret
                              exact ⟨rfl, hM10.bw⟩
                            · obtain ⟨r10, hr10⟩ := hG10.pre
                              rcases own_open hM10.ea with ⟨hnil0, hn0, -⟩ | ⟨ga, capa, heqa, -, hgla, hcapa, hcella⟩
                              · injection hnil0 with q1 q2 q3
                                subst q1 q3
                                have hA0 := List.length_eq_zero_iff.1 hn0
                                have hTO : told ++ out = [] := by rw [hA0] at hr10; exact (List.append_eq_nil_iff.1 hr10.symm).1
                                have hz1 : told.length + out.length = 0 := by rw [← List.length_append, hTO]; rfl
                                exact absurd hz1 (by omega)
                              · injection heqa with q1 q2 q3
                                subst q1 q3
                                have hEz : EvR w10 (.slice (some ⟨ga, 0, none⟩) (told.length + out.length) c10) (told ++ out) := ⟨_, c10, by rw [List.length_append], .inr ⟨ga, 0, rfl, hgla, fun j u hj => by
                                  rw [Nat.zero_add]
                                  refine hcella j u ?_
                                  rw [hr10, evs_append, List.getElem?_append_left (List.getElem?_eq_some_iff.1 hj).1]
                                  exact hj⟩⟩
                                have hcap1 : (told.length : Int) + (out.length : Int) ≤ (c10 : Int) := by omega
                                clear hcella hr10
                                have hsm := same_f hEtR hEz (by rw [List.length_append]; omega)
                                clear hEz
                                go_wp2_with fail
                                go_at_call 18
                                refine hsm.mono ?_
                                rintro e w11 ⟨rfl, hb11⟩
                                go_wp2
                                go_roundg (40 - (i + 1))
                                case measure => omega
                                case rel => exact ⟨i + 1, ag, cl', rev', C', chs ++ new, Ks', S', wb, id, pl3, mo3, B3, all2, told ++ out, yv.toNat, by simp, rfl, rfl, by rw [HNY.out], rfl, hag0, by omega, hM10.keep hb11, hG10, hNu'⟩
                  · subst hmo
                    go_wp2_with fail
                    go_at_call 11
                    refine (top_f _).mono ?_
                    rintro e w10 ⟨rfl, rfl⟩
                    go_wp2_with fail
                    go_at_call 10
                    refine (watch_f hHe ⟨nu4, by omega⟩ next hpls.2.2.1 (by omega)).mono ?_
                    rintro e w10 ⟨rfl, ⟨wb', hwb', hH10⟩, hO10⟩
                    have hz9 := hO9.size
                    have hO := (only_weak hO9 (fun y e => Or.inr (a := y = hb) e)).trans hO10 (fun _ _ h => h)
                    have hwB := hM8.wb3
                    have hBl := hM8.hu.lt
                    have hnB := hM8.hu.nd
                    have hgB : Grow w8 B2 [hb, hm, wb'] := by
                      have hne := hHe.ne
                      refine ⟨fun a ha => ?_, fun a ha => ?_⟩
                      · have h1 : ([hb, hm, wb'] : List Nat).count a = ([hb] : List Nat).count a + ([hm] : List Nat).count a + ([wb'] : List Nat).count a := by
                          rw [show [hb, hm, wb'] = [hb] ++ [hm] ++ [wb'] from rfl, List.count_append, List.count_append]
                        have h2 := single_zero (k := wb') (a := a) (by omega)
                        have h3 := single_one hb a
                        have h4 := single_one hm a
                        by_cases ea : hb = a
                        · have := single_zero (k := hm) (a := a) (by omega)
                          have := count_in (ea ▸ hwB.2.2)
                          omega
                        · have := single_zero ea
                          by_cases eb : hm = a
                          · have := count_in (eb ▸ hwB.2.1)
                            omega
                          · have := single_zero eb
                            omega
                      · exact hH10.nd a
                    have hM10 := hM8.hub hO (fun y hy _ => by rcases hy with rfl | rfl; exact hwB.2.2; exact hwB.2.1) hH10 hgB
                    go_wp2
                    go_roundg (40 - (i + 1))
                    case measure => omega
                    case rel => exact ⟨i + 1, ag + 1, cl', rev', C', chs ++ new, Ks', S', wb', id + 1, next, .behind, _, all2, told, next, by simp, rfl, rfl, rfl, rfl, by omega, by omega, hM10, hG8.anew, ⟨by omega, by omega, by omega, by omega, by omega, by omega, nu7, nu8⟩⟩
                · go_wp2
                  go_roundg (40 - (i + 1))
                  case measure => omega
                  case rel => exact ⟨i + 1, ag, cl', rev', C', chs ++ new, Ks', S', wb, id, pl2, mo2, B2, all2, told, next, by simp, rfl, rfl, rfl, rfl, hag0, by omega, hM8, hG8, hNu'⟩
      · go_wp2
        go_ret
        exact ⟨rfl, hMe.bw⟩
    · go_wp2
      go_ret
      exact ⟨rfl, hMe.bw⟩
end Go.Proofs.YtbheebpfbabffaaGreat.Wat

