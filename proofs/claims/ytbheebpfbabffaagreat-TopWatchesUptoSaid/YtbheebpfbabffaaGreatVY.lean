/- Joined: a part of the proof of TopWatches. -/
import Derived.StillTailTactics
import Derived.Test.YtbheebpfbabffaaGreatVW
set_option linter.unusedSimpArgs false
set_option linter.unusedVariables false
namespace Go.Proofs.YtbheebpfbabffaaGreat.Wat
open Go.RowKit Go Go.Lib Mach Go.MapKept

attribute [local irreducible] wpStill in
set_option maxHeartbeats 16000000 in
set_option maxRecDepth 100000 in
theorem mdo_expiry {w : World} {m : Ids} {cl : Int} {rev C : Nat} {chs : List Ver} {Ks : List Value} {S : List Nat} (h : Mc w m cl rev C chs Ks S)  (hC : C + Ks.length + 32 ≤ 1000000) (hrev : rev ≤ 1000000) :
    Calls Tryz.prog 33 #[Ptr m.mb, .iface 184 (.agg #[])] w (MdPost w m rev C chs Ks S) := by
  have t0 := td_expiry_trade 
  have t1 := td_expiry_grant 
  have t2 := td_expiry_renewal 
  have t3 := td_expiry_revocation 
  have t4 := td_expiry_clock 
  have t5 := td_expiry_expiry 
  obtain ⟨wa, hwa⟩ : ∃ wa, wa = ((w.alloc (.cells rep0 46)).alloc (.cells rep0 46)).alloc (.cells #[] 184) := ⟨_, rfl⟩
  have hba : Below w.heap.size w wa := by rw [hwa]; exact bmore (bmore (bmore (Below.refl _ _) _) _) _
  have hsa : wa.heap.size = w.heap.size + 3 := by rw [hwa]; simp
  have hA4 : Blk wa w.heap.size rep0 := by rw [hwa]; exact ((Blk.new w _ _).alloc _).alloc _
  have hA5 : Blk wa (w.heap.size + 1) rep0 := by rw [hwa]; exact (Blk.newAt (by simp)).alloc _
  have hA7 : Blk wa (w.heap.size + 2) #[] := by rw [hwa]; exact Blk.newAt (by simp)
  have hlt := h.lt
  have hft := fun y => m.foot_iff S y
  have hbml := hlt m.bm ((hft _).2 (by simp))
  have hmbl := hlt m.mb ((hft _).2 (by simp))
  have hm1 := h.keep hba
  have hmd : Mc wa.drew m cl rev C chs Ks S := h.keep hba.drew
  have q1 : ∀ o, wa.drew.cell? ⟨m.mb, o, none⟩ = _ := hm1.blk.cell
  have q2 : ∀ o, wa.drew.cell? ⟨w.heap.size + 2, o, none⟩ = _ := hA7.cell
  have hgb := g_book hmd.blk
  have hgs := g_store hmd.blk
  have hsame := @cell_same
  have hiss := @isSome_setCell
  go_enter Tryz.func33, Tryz.ntmps33
  go_wp2_with fail
  rw [← hwa]
  clear hwa
  obtain ⟨ls, hbk⟩ := hmd.bk
  go_region_with (first
    | (go_at_call 62; refine hgb.mono ?_; rintro e w5 ⟨rfl, rfl⟩)
    | (go_at_call 78; refine (over_f hbk cl).mono ?_; rintro e w5 ⟨⟨v, n, rfl, hn, hI⟩, hb5⟩; have hbw5 := bthen hba.drew hb5)
    | (go_at_call 77; refine (mrevoke_f (h.keep hbw5) hC hrev hI hn (fun y hy hm => by have h1 := (hI.lt y hy).1; have := hlt y hm; have hd : wa.drew.heap.size = wa.heap.size := rfl; omega)).mono ?_; rintro e w6 ⟨rfl, hP6⟩))
  all_goals (
    have hB5 := (hA5.drew.keep hb5).only hP6.1 (fun e => by have := hlt _ (Ids.own_foot e); omega)
    have hB4 := (hA4.drew.keep hb5).only hP6.1 (fun e => by have := hlt _ (Ids.own_foot e); omega)
    have hc5 := hB5.cell
    have hf5 := hB5.frz
    have hc4 := hB4.cell
    have hf4 := hB4.frz
    go_wp2
    refine bodyPost_ret (v := .agg #[.int .i64 0, .int .i64 0, .bool false, .slice none 0 0, .int .i64 0]) (by simp [results, Tryz.results33, go_sem, hc4, hc5, cell_same, isSome_setCell]) rfl ⟨0, false, _, [], 0, rfl, Ress.nil _ _, by simp, ?_⟩
    exact hP6.local h hbw5 (only_set5 (G := fun y => w.heap.size ≤ y ∧ y < w5.heap.size) (Only.refl _ w6) w.heap.size ⟨Nat.le_refl _, by have := hb5.size; have hd : wa.drew.heap.size = wa.heap.size := rfl; omega⟩))
end Go.Proofs.YtbheebpfbabffaaGreat.Wat

namespace Go.Proofs.YtbheebpfbabffaaGreat.Wat
open Go.RowKit Go Go.Lib Mach Go.MapKept

attribute [local irreducible] wpStill in
set_option maxHeartbeats 16000000 in
set_option maxRecDepth 100000 in
theorem mdo_trade {w : World} {m : Ids} {cl : Int} {rev C : Nat} {chs : List Ver} {Ks : List Value} {S : List Nat} (h : Mc w m cl rev C chs Ks S) (vi vt ve : Value) (hC : C + Ks.length + 32 ≤ 1000000) (hrev : rev ≤ 1000000) {N0 : Nat} (I : List Ifr) (T E : List Opr) (hI : RdAt w N0 vi 5 Ifr.cells I) (hT : RdAt w N0 vt 6 Opr.cells T) (hE : RdAt w N0 ve 6 Opr.cells E) (hN0 : N0 ≤ w.heap.size) (hSN : ∀ y ∈ S, N0 ≤ y) :
    Calls Tryz.prog 33 #[Ptr m.mb, .iface 171 (.agg #[vi, vt, ve])] w (MdPost w m rev C chs Ks S) := by
  obtain ⟨ai, ci, rfl, hrI⟩ := id hI
  obtain ⟨at', ct, rfl, hrT⟩ := id hT
  obtain ⟨ae, ce, rfl, hrE⟩ := id hE
  clear hrI hrT hrE
  have t0 := td_trade_trade (.slice ai I.length ci) (.slice at' T.length ct) (.slice ae E.length ce)
  obtain ⟨wa, hwa⟩ : ∃ wa, wa = ((w.alloc (.cells rep0 46)).alloc (.cells rep0 46)).alloc (.cells #[.slice ai I.length ci, .slice at' T.length ct, .slice ae E.length ce] 171) := ⟨_, rfl⟩
  have hba : Below w.heap.size w wa := by rw [hwa]; exact bmore (bmore (bmore (Below.refl _ _) _) _) _
  have hsa : wa.heap.size = w.heap.size + 3 := by rw [hwa]; simp
  have hA4 : Blk wa w.heap.size rep0 := by rw [hwa]; exact ((Blk.new w _ _).alloc _).alloc _
  have hA5 : Blk wa (w.heap.size + 1) rep0 := by rw [hwa]; exact (Blk.newAt (by simp)).alloc _
  have hA7 : Blk wa (w.heap.size + 2) #[.slice ai I.length ci, .slice at' T.length ct, .slice ae E.length ce] := by rw [hwa]; exact Blk.newAt (by simp)
  have hlt := h.lt
  have hft := fun y => m.foot_iff S y
  have hbml := hlt m.bm ((hft _).2 (by simp))
  have hmbl := hlt m.mb ((hft _).2 (by simp))
  have hm1 := h.keep hba
  have hmd : Mc wa.drew m cl rev C chs Ks S := h.keep hba.drew
  have q1 : ∀ o, wa.drew.cell? ⟨m.mb, o, none⟩ = _ := hm1.blk.cell
  have q2 : ∀ o, wa.drew.cell? ⟨w.heap.size + 2, o, none⟩ = _ := hA7.cell
  have hgb := g_book hmd.blk
  have hgs := g_store hmd.blk
  have hsame := @cell_same
  have hiss := @isSome_setCell
  go_enter Tryz.func33, Tryz.ntmps33
  go_wp2_with fail
  rw [← hwa]
  clear hwa
  obtain ⟨ls, hbk⟩ := hmd.bk
  obtain ⟨op, hst⟩ := hmd.st
  have hbN : Below N0 w wa.drew := hba.drew.mono hN0
  have hI1 := hI.keep hbN
  have hT1 := hT.keep hbN
  have hE1 := hE.keep hbN
  have hN1 : N0 ≤ wa.drew.heap.size := Nat.le_trans hN0 hba.drew.size
  have hchk : ∀ w', Below wa.drew.heap.size wa.drew w' → Calls Tryz.prog 115 #[.agg #[.slice ai I.length ci, .slice at' T.length ct, .slice ae E.length ce]] w' fun e w2 => (∃ x : Int, e = .returned (.int .i64 x) ∧ (x = 0 → I.length ≤ 32 ∧ T.length ≤ 32 ∧ E.length ≤ 32)) ∧ Below w'.heap.size w' w2 := fun w' hb => check_f _ _ _ I T E (hI1.keep (hb.mono hN1)) (hT1.keep (hb.mono hN1)) (hE1.keep (hb.mono hN1)) (Nat.le_trans hN1 hb.size)
  have hdo := do_f hst hbk hC hrev _ _ _ I T E hI1 hT1 hE1 hN1 hSN hchk
  clear hI hT hE hI1 hT1 hE1 hchk
  go_region_with (first
    | (go_at_call 29; refine hgs.mono ?_; rintro e w5 ⟨rfl, rfl⟩)
    | (go_at_call 62; refine hgb.mono ?_; rintro e w5 ⟨rfl, rfl⟩)
    | (go_at_call 73; refine hdo.mono ?_; rintro e w5 ⟨b, er, v, rs, S', rfl, hR5, hn5, hP5, hd5⟩; obtain ⟨av, cv, rfl⟩ := hR5.shape; have hB5 := hA5.drew.only hP5.1 (fun e => by have := hlt _ ((hft _).2 (.inr (.inr (.inr (.inr (.inr e)))))); omega); have hB4 := hA4.drew.only hP5.1 (fun e => by have := hlt _ ((hft _).2 (.inr (.inr (.inr (.inr (.inr e)))))); omega); have hc5 := hB5.cell; have hf5 := hB5.frz; have hc4 := hB4.cell; have hf4 := hB4.frz))
  all_goals (
    have hG1 : w.heap.size ≤ w.heap.size + 1 ∧ w.heap.size + 1 < wa.heap.size := ⟨by omega, by omega⟩
    have hO8 := (((Only.refl (fun y => w.heap.size ≤ y ∧ y < wa.heap.size) w5).set ⟨w.heap.size + 1, 2, none⟩ (fun _ => hG1) (.bool b)).set ⟨w.heap.size + 1, 3, none⟩ (fun _ => hG1) (.slice av rs.length cv)).set ⟨w.heap.size + 1, 0, none⟩ (fun _ => hG1) (.int .i64 er)
    have hB58 := ((hB5.setCell 2 (.bool b)).setCell 3 (.slice av rs.length cv)).setCell 0 (.int .i64 er)
    have hB48 := ((hB4.setOther ⟨w.heap.size + 1, 2, none⟩ (by show _ ≠ w.heap.size + 1; omega) (.bool b)).setOther ⟨w.heap.size + 1, 3, none⟩ (by show _ ≠ w.heap.size + 1; omega) (.slice av rs.length cv)).setOther ⟨w.heap.size + 1, 0, none⟩ (by show _ ≠ w.heap.size + 1; omega) (.int .i64 er)
    have hB58' : Blk (((w5.setCell ⟨w.heap.size + 1, 2, none⟩ (.bool b)).setCell ⟨w.heap.size + 1, 3, none⟩ (.slice av rs.length cv)).setCell ⟨w.heap.size + 1, 0, none⟩ (.int .i64 er)) (w.heap.size + 1) #[.int .i64 er, .int .i64 0, .bool b, .slice av rs.length cv, .int .i64 0] := by simpa using hB58
    clear hB58 hc5 hf5 hc4 hf4 hB5 hB4
    generalize ((w5.setCell ⟨w.heap.size + 1, 2, none⟩ (.bool b)).setCell ⟨w.heap.size + 1, 3, none⟩ (.slice av rs.length cv)).setCell ⟨w.heap.size + 1, 0, none⟩ (.int .i64 er) = w6 at *
    have hc5 := hB58'.cell
    have hc4 := hB48.cell
    have hf4 := hB48.frz
    go_wp2
    refine bodyPost_ret (v := .agg #[.int .i64 er, .int .i64 0, .bool b, .slice av rs.length cv, .int .i64 0]) (by simp [results, Tryz.results33, go_sem, hc4, hc5, cell_same, isSome_setCell]) rfl ⟨er, b, _, rs, wa.drew.heap.size, rfl, hR5.only (only_set5 hO8 w.heap.size ⟨Nat.le_refl _, by omega⟩) (fun y hy hm => by have := (hR5.lt y hy).1; have hd : wa.drew.heap.size = wa.heap.size := rfl; omega), hn5, ?_⟩
    exact (McPost.store hmd hP5).local h hba.drew (only_set5 hO8 w.heap.size ⟨Nat.le_refl _, by omega⟩))
end Go.Proofs.YtbheebpfbabffaaGreat.Wat

