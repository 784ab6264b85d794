/- The machine's Apply. -/
import Derived.StillTailTactics
import Derived.Test.YtbheebpfbabffaaGreatWDoes
import Derived.Test.YtbheebpfbabffaaGreatVM
set_option linter.unusedSimpArgs false
set_option linter.unusedVariables false
namespace Go.Proofs.YtbheebpfbabffaaGreat.Wat
open Go.RowKit Go Go.Lib Mach Go.MapKept

/-- A machine's table: X: blocks that it does not read. -/
def Tb (w : World) (m : Ids) (S X : List Nat) : Prop := ∃ rows, Table w m.tb m.tm rows (fun y => y ∈ m.foot S ∨ y ∈ X)
theorem Table.grow {G H H' : Nat → Prop} {w w' : World} {tb tm : Nat} {rows : List MapEntry} (ht : Table w tb tm rows H) (k : Only G w w') (h1 : ¬ G tb) (h2 : ¬ G tm) (h3 : ∀ y, y < w.heap.size → ¬ H y → ¬ G y) (h4 : ∀ y, y < w.heap.size → ¬ H y → ¬ H' y) : Table w' tb tm rows H' := by
  refine ⟨ht.1.only k h1, ht.2.1.only k h2, ht.2.2.1, fun e he => ?_⟩
  obtain ⟨cl, sq, er, rv, t, th, v, rs, hv, hR, hnn, hH⟩ := ht.2.2.2 e he
  exact ⟨cl, sq, er, rv, t, th, v, rs, hv, hR.only k (fun y hy hm => h3 y (hR.lt y hy).2 (hH y hy) hm), hnn, fun y hy => h4 y (hR.lt y hy).2 (hH y hy)⟩
theorem Table.weak {H H' : Nat → Prop} {w : World} {tb tm : Nat} {rows : List MapEntry} (h : Table w tb tm rows H) (k : ∀ y, H' y → H y) : Table w tb tm rows H' := by
  refine ⟨h.1, h.2.1, h.2.2.1, fun e he => ?_⟩
  obtain ⟨cl, sq, er, rv, t, th, v, rs, hv, hR, hnn, hH⟩ := h.2.2.2 e he
  exact ⟨cl, sq, er, rv, t, th, v, rs, hv, hR, hnn, fun y hy g => hH y hy (k y g)⟩
theorem grow_refl (w : World) {S : List Nat} (h : Nd S) : Grow w S S := ⟨fun _ _ => Nat.le_refl _, fun a _ => h a⟩
theorem nd_foot_right {m : Ids} {S : List Nat} (h : Nd (m.foot S)) : Nd S := nd_right h
/-- A machine, whole. -/
def Ma (w : World) (m : Ids) (cl : Int) (rev C : Nat) (chs : List Ver) (Ks : List Value) (S X : List Nat) : Prop := Mc w m cl rev C chs Ks S ∧ Tb w m S X
theorem Ma.only {G : Nat → Prop} {w w' : World} {m : Ids} {cl : Int} {rev C : Nat} {chs : List Ver} {Ks : List Value} {S X : List Nat} {X' : List Nat} (h : Ma w m cl rev C chs Ks S X) (k : Only G w w') (hG : ∀ y ∈ m.foot S, ¬ G y) (hr : ∀ y, G y → y < w.heap.size → y ∈ X) (hX : ∀ y ∈ X', y < w.heap.size → y ∈ X) : Ma w' m cl rev C chs Ks S X' := by
  refine ⟨h.1.only k (fun y hy => hG y (Ids.own_foot hy)), ?_⟩
  obtain ⟨rows, ht⟩ := h.2
  refine ⟨rows, ht.grow k (hG _ ((m.foot_iff S _).2 (by simp))) (hG _ ((m.foot_iff S _).2 (by simp))) (fun y hy hn g => hn (.inr (hr y g hy))) (fun y hy hn hm => hn ?_)⟩
  rcases hm with hm | hm
  · exact .inl hm
  · exact .inr (hX y hm hy)
theorem Ma.keep {w w' : World} {m : Ids} {cl : Int} {rev C : Nat} {chs : List Ver} {Ks : List Value} {S X : List Nat} (h : Ma w m cl rev C chs Ks S X) (k : Below w.heap.size w w') : Ma w' m cl rev C chs Ks S X :=
  h.only (G := fun _ => False) (Only.of_below k) (fun _ _ h => h) (fun _ h => h.elim) (fun _ h _ => h)
theorem blk5 {w : World} {b : Nat} {c0 c1 c2 c3 c4 : Value} (h : Blk w b #[c0, c1, c2, c3, c4]) (a0 a1 a2 a3 a4 : Value) :
    Blk (((((w.setCell ⟨b, 0, none⟩ a0).setCell ⟨b, 1, none⟩ a1).setCell ⟨b, 2, none⟩ a2).setCell ⟨b, 3, none⟩ a3).setCell ⟨b, 4, none⟩ a4) b #[a0, a1, a2, a3, a4] := by
  have := ((((h.setCell 0 a0).setCell 1 a1).setCell 2 a2).setCell 3 a3).setCell 4 a4
  simpa using this
/-- What Apply leaves. -/
def ApPost (w : World) (m : Ids) (rev C : Nat) (chs : List Ver) (Ks : List Value) (S X : List Nat) (w' : World) : Prop :=
  Only (fun y => y ∈ m.foot S) w w' ∧ ∃ (cl' : Int) (rev' C' : Nat) (new : List Ver) (Ks' : List Value) (S' : List Nat), Ma w' m cl' rev' C' (chs ++ new) Ks' S' X ∧ Grow w S S' ∧ C' ≤ C + Ks.length + 32 ∧ Ks'.length ≤ Ks.length + 32 ∧ NewOk rev rev' new
theorem ApPost.still {w w' : World} {m : Ids} {cl : Int} {rev C : Nat} {chs : List Ver} {Ks : List Value} {S X : List Nat} (h : Ma w m cl rev C chs Ks S X) (k : Below w.heap.size w w') : ApPost w m rev C chs Ks S X w' :=
  ⟨Only.of_below k, cl, rev, C, [], Ks, S, by simpa using h.keep k, grow_refl w (nd_foot_right h.1.nd), by omega, by omega, .inl ⟨rfl, rfl⟩⟩

attribute [local irreducible] wpStill in
set_option maxHeartbeats 16000000 in
set_option maxRecDepth 100000 in
theorem apply_f {w : World} {m : Ids} {cl : Int} {rev C : Nat} {chs : List Ver} {Ks : List Value} {S X : List Nat} (h : Ma w m cl rev C chs Ks S X) (hXl : ∀ y ∈ X, y < w.heap.size) (hC : C + Ks.length + 32 ≤ 1000000) (hrev : rev ≤ 1000000) {N0 : Nat} {c : Cmd} (hc : CmdAt w N0 c) (hk6 : c.kd ≠ 6) (hN0 : N0 ≤ w.heap.size) (hSN : ∀ y ∈ S, N0 ≤ y) :
    Calls Tryz.prog 14 #[Ptr m.mb, .agg c.cells.toArray] w fun e w' => (∃ v, e = .returned v) ∧ ApPost w m rev C chs Ks S X w' := by
  obtain ⟨a1, a2, a3, n1, n2, n3, c1, c2, k3, e1, e2, e3⟩ := hc.shape
  obtain ⟨ccl, csq, ckd, cvi, cvt, cve, cle, ctl, cti, crv⟩ := c
  dsimp only at e1 e2 e3 hk6
  subst e1 e2 e3
  unfold Cmd.cells
  dsimp only
  obtain ⟨wa, hwa⟩ : ∃ wa, wa = (w.alloc (.cells #[.int .i64 ccl, .int .i64 csq, .int .i64 ckd, .slice a1 n1 c1, .slice a2 n2 c2, .slice a3 n3 k3, .int .i64 cle, .int .i64 ctl, .int .i64 cti, .int .i64 crv] 41)).alloc (.cells rep0 46) := ⟨_, rfl⟩
  have hba : Below w.heap.size w wa := by rw [hwa]; exact bmore (bmore (Below.refl _ _) _) _
  have hsa : wa.heap.size = w.heap.size + 2 := by rw [hwa]; simp
  have hA3 : Blk wa w.heap.size #[.int .i64 ccl, .int .i64 csq, .int .i64 ckd, .slice a1 n1 c1, .slice a2 n2 c2, .slice a3 n3 k3, .int .i64 cle, .int .i64 ctl, .int .i64 cti, .int .i64 crv] := by rw [hwa]; exact (Blk.new w _ _).alloc _
  have hA4 : Blk wa (w.heap.size + 1) rep0 := by rw [hwa]; exact Blk.newAt (by simp)
  have hlt := h.1.lt
  have hft := fun y => m.foot_iff S y
  have hm1 := h.keep hba.drew
  have q1 : ∀ o, wa.drew.cell? ⟨m.mb, o, none⟩ = _ := hm1.1.blk.cell
  have q2 : ∀ o, wa.drew.cell? ⟨w.heap.size, o, none⟩ = _ := hA3.cell
  have hgt : ∀ W, Below wa.heap.size wa W → Calls Tryz.prog 31 #[Ptr m.mb] W fun e w' => e = .returned (Ptr m.tb) ∧ W = w' := fun W k => g_table (h.1.blk.keep (bthen hba k))
  obtain ⟨rows, ht⟩ := h.2
  have hask : ∀ W, Below wa.heap.size wa W → Calls Tryz.prog 32 #[Ptr m.tb, .int .i64 ccl, .int .i64 csq] W fun e w' => AskPost rows ccl e ∧ Below W.heap.size W w' := fun W k => ask_f (ht.keep (bthen hba k)) ccl csq
  have hsame := @cell_same
  have hiss := @isSome_setCell
  go_enter Tryz.func14, Tryz.ntmps14
  go_wp2_with fail
  rw [← hwa]
  clear hwa
  have HS : Aside _ := hsa
  clear hsa hm1
  go_cut [5, 6] (fun s5 s6 wx => ∃ (p : Nat) (fresh : Bool) (er rv t : Int) (th : Bool) (a : Option Addr) (n c : Nat), s5 = Ptr p ∧ s6 = .bool fresh ∧ wa.heap.size ≤ p ∧ Blk wx p #[.int .i64 er, .int .i64 rv, .bool th, .slice a n c, .int .i64 t] ∧ Below wa.heap.size wa wx)
  case first =>
    have q3 : ∀ ob o, (wa.alloc ob).drew.cell? ⟨m.mb, o, none⟩ = _ := fun ob => ((h.1.blk.keep hba).alloc ob).cell
    have q4 : ∀ ob o, (wa.alloc ob).drew.cell? ⟨w.heap.size, o, none⟩ = _ := fun ob => (hA3.alloc ob).cell
    go_region_with (first
      | (go_at_call 31; refine (hgt _ (Below.refl _ _).drew).mono ?_; rintro e w5 ⟨rfl, rfl⟩)
      | (go_at_call 31; refine (hgt _ (bmore (Below.refl _ _) _).drew).mono ?_; rintro e w5 ⟨rfl, rfl⟩)
      | (go_at_call 32; refine (hask _ (Below.refl _ _).drew).mono ?_; rintro e w5 ⟨⟨er, rv, t, th, fresh, a, n, c, rfl, -⟩, hb5⟩; have hbw := bthen (Below.refl wa.heap.size wa).drew hb5)
      | (go_at_call 32; refine (hask _ (bmore (Below.refl _ _) _).drew).mono ?_; rintro e w5 ⟨⟨er, rv, t, th, fresh, a, n, c, rfl, -⟩, hb5⟩; have hbw := bthen (bmore (Below.refl wa.heap.size wa) _).drew hb5; have hp5 := (Blk.new wa rep0 46).drew.keep hb5; have hcp := hp5.cell; have hfp := hp5.frz))
    all_goals (
      go_wp2_with fail
      go_meet
      first
        | exact ⟨_, fresh, er, rv, t, th, a, n, c, rfl, rfl, hbw.size, Blk.new _ _ _, bmore hbw _⟩
        | exact ⟨_, fresh, er, rv, t, th, a, n, c, rfl, rfl, Nat.le_refl _, blk5 hp5 _ _ _ _ _, below_set5 hbw (Nat.le_refl _)⟩
        | skip)
  case rest =>
    obtain ⟨p, fresh, er, rv, t, th, a, n, c, rfl, rfl, hpl, hp, hbc⟩ := hcut
    have hbw := bthen hba hbc
    have c4 := (hA4.keep hbc).cell
    have f4 := (hA4.keep hbc).frz
    cases fresh with
    | false =>
      have cp := hp.cell
      go_wp2
      refine bodyPost_ret (v := .agg #[.int .i64 er, .int .i64 rv, .bool th, .slice a n c, .int .i64 t]) (by simp [results, Tryz.results14, go_sem, c4, cp, cell_same, isSome_setCell]) rfl ⟨⟨_, rfl⟩, ApPost.still h (below_set5 hbw (Nat.le_succ _))⟩
    | true =>
      have c3 := (hA3.keep hbc).cell
      go_wp2_with fail
      go_at_call 34
      refine (does_f ccl csq ckd cle ctl cti crv a1 a2 a3 n1 n2 n3 c1 c2 k3 hk6 _).mono ?_
      rintro e w3 ⟨rfl, hb3⟩
      have hbw3 := bthen hbw hb3
      go_wp2_with fail
      go_at_call 33
      refine (mdo_f (h.1.keep hbw3) hC hrev (hc.keep (hbw3.mono hN0)) (Nat.le_trans hN0 hbw3.size) hSN).mono ?_
      rintro e w5 ⟨er5, b5, v5, rs, b0, rfl, hR5, hn5, hP5⟩
      obtain ⟨av, cv, rfl⟩ := hR5.shape
      obtain ⟨hO5, cl', rev', C', new, Ks', S', hM5, hG5, hC5, hK5, hN5⟩ := hP5
      go_wp2_with fail
      have hA3k := hA3.keep (bthen hbc hb3)
      have hA4k := hA4.keep (bthen hbc hb3)
      have hz4 := (bthen hbc hb3).size
      obtain ⟨wd, hwd⟩ : ∃ wd, wd = w5.alloc (.cells #[.int .i64 er5, .int .i64 0, .bool b5, .slice av rs.length cv, .int .i64 0] 46) := ⟨_, rfl⟩
      have hbd : Below w5.heap.size w5 wd := by rw [hwd]; exact bmore (Below.refl _ _) _
      have hD7 : Blk wd w5.heap.size #[.int .i64 er5, .int .i64 0, .bool b5, .slice av rs.length cv, .int .i64 0] := by rw [hwd]; exact Blk.new _ _ _
      rw [← hwd]
      clear hwd hgt hask q1 q2 c4 f4 c3
      have hMd := hM5.keep hbd
      have hMdd : Mc wd.drew m cl' rev' C' (chs ++ new) Ks' S' := hM5.keep hbd.drew
      obtain ⟨op', hstd⟩ := hMdd.st
      have hrv := hstd.rev_cell
      have q1 : ∀ o, wd.drew.cell? ⟨m.mb, o, none⟩ = _ := hMd.blk.cell
      go_cut [] (fun wx => Blk wx w5.heap.size #[.int .i64 er5, .int .i64 rev', .bool b5, .slice av rs.length cv, .int .i64 cl'] ∧ Only (fun y => y = w5.heap.size) wd wx)
      case first =>
        have q5 : ∀ o, wd.drew.cell? ⟨w5.heap.size, o, none⟩ = _ := hD7.cell
        have q6 : ∀ o, wd.drew.frozen? ⟨w5.heap.size, o, none⟩ = false := hD7.frz
        have q9 := hD7.cell
        have q10 := hD7.frz
        have hmne : m.mb ≠ w5.heap.size := Nat.ne_of_lt hM5.blk.lt
        have q7 : ∀ v o, (wd.setCell ⟨w5.heap.size, 1, none⟩ v).drew.cell? ⟨m.mb, o, none⟩ = _ := fun v => (hMd.blk.setOther ⟨w5.heap.size, 1, none⟩ hmne v).cell
        have q8 : ∀ v o, (wd.drew.setCell ⟨w5.heap.size, 1, none⟩ v).cell? ⟨m.mb, o, none⟩ = _ := fun v => (hMdd.blk.setOther ⟨w5.heap.size, 1, none⟩ hmne v).cell
        go_region_with (first
          | (go_at_call 29; refine (g_store hMdd.blk).mono ?_; rintro e w6 ⟨rfl, rfl⟩)
          | (go_at_call 13; refine (rev_c _ _ _ hrv).mono ?_; rintro e w6 ⟨rfl, rfl⟩))
        all_goals (
          go_wp2_with fail
          go_meet
          exact ⟨by have := ((hD7.setCell 1 (.int .i64 rev')).setCell 4 (.int .i64 cl')).drew; simpa using this, (((Only.refl (fun y => y = w5.heap.size) wd).set ⟨w5.heap.size, 1, none⟩ (fun _ => rfl) _).set ⟨w5.heap.size, 4, none⟩ (fun _ => rfl) _).trans (Only.of_below (F := fun y => y = w5.heap.size) (Below.refl _ _).drew) (fun _ _ h => h)⟩)
      case rest =>
        obtain ⟨hp7, hOx⟩ := hcut
        have hz := HS.out
        have hz3 := hbw3.size
        have hz5 := hO5.size
        have hzx := hOx.size
        have hzd := hbd.size
        have hOy : Only (fun y => y = w5.heap.size) w5 wc.drew := ((Only.of_below hbd).trans hOx (fun _ _ h => h)).trans (Only.of_below (F := fun y => y = w5.heap.size) (Below.refl _ _).drew) (fun _ _ h => h)
        have hO1 : Only (m.own S) w w5 := (Only.of_below hbw3).trans hO5 (fun _ _ h => h)
        have hMlt := hM5.lt
        have hMx : Mc wc.drew m cl' rev' C' (chs ++ new) Ks' S' := hM5.only hOy (fun y hy e => by have := hMlt y (Ids.own_foot hy); omega)
        have hft' := fun y => m.foot_iff S' y
        have hi := nd_ids hM5.nd
        simp at hi
        have html := hMlt m.tm ((hft' _).2 (by simp))
        have hnS := nd_foot hM5.nd
        have hHlt : ∀ y, ((y ∈ m.foot S' ∨ y ∈ X) ∨ w.heap.size ≤ y ∧ y < wc.heap.size) → y < wc.drew.heap.size := fun y hy => by
          show y < wc.heap.size
          rcases hy with (hy | hy) | hy
          · have := hMlt y hy; omega
          · have := hXl y hy; omega
          · exact hy.2
        have hTx : Table wc.drew m.tb m.tm rows (fun y => (y ∈ m.foot S' ∨ y ∈ X) ∨ w.heap.size ≤ y ∧ y < wc.heap.size) := by
          refine ht.grow (G := fun y => m.own S y ∨ y = w5.heap.size) ((only_weak hO1 (fun _ h => .inl h)).trans (only_weak hOy (fun _ h => .inr h)) (fun _ _ h => h)) ?_ ?_ ?_ ?_
          · rintro (h1 | h1)
            · have hj := nd_ids h.1.nd
              simp at hj
              rcases h1 with h1 | h1 | h1 | h1
              · omega
              · omega
              · omega
              · exact (nd_foot h.1.nd _ h1).2.2.2.1 rfl
            · have := hlt m.tb ((hft _).2 (by simp)); omega
          · rintro (h1 | h1)
            · have hj := nd_ids h.1.nd
              simp at hj
              rcases h1 with h1 | h1 | h1 | h1
              · omega
              · omega
              · omega
              · exact (nd_foot h.1.nd _ h1).2.2.2.2 rfl
            · have := hlt m.tm ((hft _).2 (by simp)); omega
          · rintro y hy hn (h1 | h1)
            · exact hn (.inl (Ids.own_foot h1))
            · omega
          · rintro y hy hn ((h1 | h1) | h1)
            · exact hn (.inl (foot_mem hG5 h1 (by omega)))
            · exact hn (.inr h1)
            · omega
        have hown0 : ∀ y, w.heap.size ≤ y → ¬ m.own S y := fun y hy ho => by have := hlt y (Ids.own_foot ho); omega
        have hA3x := (hA3k.only hO5 (hown0 _ (Nat.le_refl _))).only hOy (by omega)
        have hA4x := (hA4k.only hO5 (hown0 _ (Nat.le_succ _))).only hOy (by omega)
        have hRx : Ress wc.drew b0 (.slice av rs.length cv) rs := hR5.only hOy (fun y hy e => by have := (hR5.lt y hy).2; omega)
        have hgt := g_table hMx.blk
        have q1 := hMx.blk.cell
        have q2 := hA3x.cell
        have q3 : ∀ o, wc.drew.cell? ⟨w5.heap.size, o, none⟩ = _ := hp7.cell
        clear hz
        go_wp2_with fail
        go_still_tail 9, (by kernel_rfl)
        repeat still_step
        still_call (still_of hgt)
        repeat still_step
        refine wpStill_nil ?_
        change wpList _ _ _ _ _ wc.drew
        have hNT := fnote_f hTx hHlt (.inl (.inl ((hft' _).2 (by simp)))) hRx hn5 ccl csq er5 rev' cl' b5
        clear q1 q2 q3
        go_wp2_with fail
        go_at_call 35
        refine hNT.mono ?_
        rintro e w6 ⟨rfl, hO6, rows', hT6⟩
        have hp6 := hp7.drew.only hO6 (by omega)
        have hA46 := hA4x.only hO6 (by have := hlt m.tm ((hft _).2 (by simp)); omega)
        have c7 := hp6.cell
        have c4 := hA46.cell
        have f4 := hA46.frz
        go_wp2
        have hz := HS.out
        have html0 := hlt m.tm ((hft _).2 (by simp))
        have htbl0 := hlt m.tb ((hft _).2 (by simp))
        refine bodyPost_ret (v := .agg #[.int .i64 er5, .int .i64 rev', .bool b5, .slice av rs.length cv, .int .i64 cl']) (by simp [results, Tryz.results14, go_sem, c4, c7, cell_same, isSome_setCell]) rfl ⟨⟨_, rfl⟩, ?_⟩
        have hO7 : Only (fun y => y = w.heap.size + 1) w6 (((((w6.setCell ⟨w.heap.size + 1, 0, none⟩ (.int .i64 er5)).setCell ⟨w.heap.size + 1, 1, none⟩ (.int .i64 rev')).setCell ⟨w.heap.size + 1, 2, none⟩ (.bool b5)).setCell ⟨w.heap.size + 1, 3, none⟩ (.slice av rs.length cv)).setCell ⟨w.heap.size + 1, 4, none⟩ (.int .i64 cl')) := only_set5 (G := fun y => y = w.heap.size + 1) (Only.refl _ w6) (w.heap.size + 1) rfl
        generalize ((((w6.setCell ⟨w.heap.size + 1, 0, none⟩ (.int .i64 er5)).setCell ⟨w.heap.size + 1, 1, none⟩ (.int .i64 rev')).setCell ⟨w.heap.size + 1, 2, none⟩ (.bool b5)).setCell ⟨w.heap.size + 1, 3, none⟩ (.slice av rs.length cv)).setCell ⟨w.heap.size + 1, 4, none⟩ (.int .i64 cl') = w7 at *
        have hO57 : Only (fun y => y = w5.heap.size ∨ y = m.tm ∨ y = w.heap.size + 1) w5 w7 := ((only_weak hOy (fun _ e => .inl e)).trans (only_weak hO6 (fun _ e => .inr (.inl e))) (fun _ _ h => h)).trans (only_weak hO7 (fun _ e => .inr (.inr e))) (fun _ _ h => h)
        have hM7 : Mc w7 m cl' rev' C' (chs ++ new) Ks' S' := hM5.only hO57 (fun y hy e => by
          have h1 := hMlt y (Ids.own_foot hy)
          rcases e with e | e | e
          · omega
          · rcases hy with hy | hy | hy | hy
            · omega
            · omega
            · omega
            · exact (hnS y hy).2.2.2.2 e
          · have := hlt y (foot_mem hG5 (Ids.own_foot hy) (by omega))
            omega)
        have hT7 : Table w7 m.tb m.tm rows' (fun y => (y ∈ m.foot S' ∨ y ∈ X) ∨ w.heap.size ≤ y ∧ y < wc.heap.size) := hT6.only hO7 (by omega) (by omega) (fun y hy e => hy (.inr ⟨by omega, by omega⟩))
        refine ⟨(only_weak hO1 (fun y hy => Ids.own_foot hy)).trans hO57 (fun y hy e => ?_), cl', rev', C', new, Ks', S', ⟨hM7, rows', hT7.weak (fun y hy => .inl hy)⟩, grow_from hz3 (fun y hy => hlt y ((hft _).2 (by simp [hy]))) hG5, hC5, hK5, hN5⟩
        rcases e with e | e | e
        · omega
        · exact (hft y).2 (by simp [e])
        · omega
end Go.Proofs.YtbheebpfbabffaaGreat.Wat

