/- Joined: a part of the proof of TopWatches. -/
import Derived.StillTailTactics
import Derived.Test.YtbheebpfbabffaaGreatVW
set_option linter.unusedSimpArgs false
set_option linter.unusedVariables false
namespace Go.Proofs.YtbheebpfbabffaaGreat.Wat
open Go.RowKit Go Go.Lib Mach Go.MapKept

attribute [local irreducible] wpStill in
set_option maxHeartbeats 16000000 in
set_option maxRecDepth 100000 in
theorem mdo_grant {w : World} {m : Ids} {cl : Int} {rev C : Nat} {chs : List Ver} {Ks : List Value} {S : List Nat} (h : Mc w m cl rev C chs Ks S) (a b : Int)  :
    Calls Tryz.prog 33 #[Ptr m.mb, .iface 175 (.agg #[.int .i64 a, .int .i64 b])] w (MdPost w m rev C chs Ks S) := by
  have t0 := td_grant_trade a b
  have t1 := td_grant_grant a b
  obtain ⟨wa, hwa⟩ : ∃ wa, wa = ((w.alloc (.cells rep0 46)).alloc (.cells rep0 46)).alloc (.cells #[.int .i64 a, .int .i64 b] 175) := ⟨_, rfl⟩
  have hba : Below w.heap.size w wa := by rw [hwa]; exact bmore (bmore (bmore (Below.refl _ _) _) _) _
  have hsa : wa.heap.size = w.heap.size + 3 := by rw [hwa]; simp
  have hA4 : Blk wa w.heap.size rep0 := by rw [hwa]; exact ((Blk.new w _ _).alloc _).alloc _
  have hA5 : Blk wa (w.heap.size + 1) rep0 := by rw [hwa]; exact (Blk.newAt (by simp)).alloc _
  have hA7 : Blk wa (w.heap.size + 2) #[.int .i64 a, .int .i64 b] := by rw [hwa]; exact Blk.newAt (by simp)
  have hlt := h.lt
  have hft := fun y => m.foot_iff S y
  have hbml := hlt m.bm ((hft _).2 (by simp))
  have hmbl := hlt m.mb ((hft _).2 (by simp))
  have hm1 := h.keep hba
  have hmd : Mc wa.drew m cl rev C chs Ks S := h.keep hba.drew
  have q1 : ∀ o, wa.drew.cell? ⟨m.mb, o, none⟩ = _ := hm1.blk.cell
  have q2 : ∀ o, wa.drew.cell? ⟨w.heap.size + 2, o, none⟩ = _ := hA7.cell
  have hgb := g_book hmd.blk
  have hgs := g_store hmd.blk
  have hsame := @cell_same
  have hiss := @isSome_setCell
  go_enter Tryz.func33, Tryz.ntmps33
  go_wp2_with fail
  rw [← hwa]
  clear hwa
  go_still_tail 12, (by kernel_rfl)
  repeat still_step
  still_call (still_of hgb)
  repeat still_step
  refine wpStill_nil ?_
  change wpList _ _ _ _ _ wa.drew
  obtain ⟨ls, hbk⟩ := hmd.bk
  go_wp2_with fail
  go_at_call 74
  refine (grant_f hbk a b cl).mono ?_
  rintro e w5 ⟨⟨x, rfl⟩, hbp⟩
  have hB5 := hA5.drew.only hbp.1 (by omega)
  have hB4 := hA4.drew.only hbp.1 (by omega)
  have hc5 := hB5.cell
  have hf5 := hB5.frz
  have hc4 := hB4.cell
  have hf4 := hB4.frz
  go_wp2
  refine bodyPost_ret (v := .agg #[.int .i64 x, .int .i64 0, .bool false, .slice none 0 0, .int .i64 0]) (by simp [results, Tryz.results33, go_sem, hc4, hc5, cell_same, isSome_setCell]) rfl ⟨x, false, _, [], 0, rfl, Ress.nil _ _, by simp, ?_⟩
  exact (McPost.book hmd hbp).local h hba.drew (only_set5 (G := fun y => w.heap.size ≤ y ∧ y < wa.heap.size) ((Only.refl _ w5).set ⟨w.heap.size + 1, 0, none⟩ (fun _ => ⟨by show w.heap.size ≤ w.heap.size + 1; omega, by show w.heap.size + 1 < wa.heap.size; omega⟩) _) w.heap.size ⟨Nat.le_refl _, by omega⟩)
end Go.Proofs.YtbheebpfbabffaaGreat.Wat

namespace Go.Proofs.YtbheebpfbabffaaGreat.Wat
open Go.RowKit Go Go.Lib Mach Go.MapKept

attribute [local irreducible] wpStill in
set_option maxHeartbeats 16000000 in
set_option maxRecDepth 100000 in
theorem mdo_renewal {w : World} {m : Ids} {cl : Int} {rev C : Nat} {chs : List Ver} {Ks : List Value} {S : List Nat} (h : Mc w m cl rev C chs Ks S) (a : Int)  :
    Calls Tryz.prog 33 #[Ptr m.mb, .iface 178 (.agg #[.int .i64 a])] w (MdPost w m rev C chs Ks S) := by
  have t0 := td_renewal_trade a
  have t1 := td_renewal_grant a
  have t2 := td_renewal_renewal a
  obtain ⟨wa, hwa⟩ : ∃ wa, wa = ((w.alloc (.cells rep0 46)).alloc (.cells rep0 46)).alloc (.cells #[.int .i64 a] 178) := ⟨_, rfl⟩
  have hba : Below w.heap.size w wa := by rw [hwa]; exact bmore (bmore (bmore (Below.refl _ _) _) _) _
  have hsa : wa.heap.size = w.heap.size + 3 := by rw [hwa]; simp
  have hA4 : Blk wa w.heap.size rep0 := by rw [hwa]; exact ((Blk.new w _ _).alloc _).alloc _
  have hA5 : Blk wa (w.heap.size + 1) rep0 := by rw [hwa]; exact (Blk.newAt (by simp)).alloc _
  have hA7 : Blk wa (w.heap.size + 2) #[.int .i64 a] := by rw [hwa]; exact Blk.newAt (by simp)
  have hlt := h.lt
  have hft := fun y => m.foot_iff S y
  have hbml := hlt m.bm ((hft _).2 (by simp))
  have hmbl := hlt m.mb ((hft _).2 (by simp))
  have hm1 := h.keep hba
  have hmd : Mc wa.drew m cl rev C chs Ks S := h.keep hba.drew
  have q1 : ∀ o, wa.drew.cell? ⟨m.mb, o, none⟩ = _ := hm1.blk.cell
  have q2 : ∀ o, wa.drew.cell? ⟨w.heap.size + 2, o, none⟩ = _ := hA7.cell
  have hgb := g_book hmd.blk
  have hgs := g_store hmd.blk
  have hsame := @cell_same
  have hiss := @isSome_setCell
  go_enter Tryz.func33, Tryz.ntmps33
  go_wp2_with fail
  rw [← hwa]
  clear hwa
  go_still_tail 10, (by kernel_rfl)
  repeat still_step
  still_call (still_of hgb)
  repeat still_step
  refine wpStill_nil ?_
  change wpList _ _ _ _ _ wa.drew
  obtain ⟨ls, hbk⟩ := hmd.bk
  go_wp2_with fail
  go_at_call 75
  refine (renew_f hbk a cl).mono ?_
  rintro e w5 ⟨⟨x, rfl⟩, hbp⟩
  have hB5 := hA5.drew.only hbp.1 (by omega)
  have hB4 := hA4.drew.only hbp.1 (by omega)
  have hc5 := hB5.cell
  have hf5 := hB5.frz
  have hc4 := hB4.cell
  have hf4 := hB4.frz
  go_wp2
  refine bodyPost_ret (v := .agg #[.int .i64 x, .int .i64 0, .bool false, .slice none 0 0, .int .i64 0]) (by simp [results, Tryz.results33, go_sem, hc4, hc5, cell_same, isSome_setCell]) rfl ⟨x, false, _, [], 0, rfl, Ress.nil _ _, by simp, ?_⟩
  exact (McPost.book hmd hbp).local h hba.drew (only_set5 (G := fun y => w.heap.size ≤ y ∧ y < wa.heap.size) ((Only.refl _ w5).set ⟨w.heap.size + 1, 0, none⟩ (fun _ => ⟨by show w.heap.size ≤ w.heap.size + 1; omega, by show w.heap.size + 1 < wa.heap.size; omega⟩) _) w.heap.size ⟨Nat.le_refl _, by omega⟩)
end Go.Proofs.YtbheebpfbabffaaGreat.Wat

namespace Go.Proofs.YtbheebpfbabffaaGreat.Wat
open Go.RowKit Go Go.Lib Mach Go.MapKept

attribute [local irreducible] wpStill in
set_option maxHeartbeats 16000000 in
set_option maxRecDepth 100000 in
theorem mdo_revocation {w : World} {m : Ids} {cl : Int} {rev C : Nat} {chs : List Ver} {Ks : List Value} {S : List Nat} (h : Mc w m cl rev C chs Ks S) (a : Int) (hC : C + Ks.length + 32 ≤ 1000000) (hrev : rev ≤ 1000000) :
    Calls Tryz.prog 33 #[Ptr m.mb, .iface 180 (.agg #[.int .i64 a])] w (MdPost w m rev C chs Ks S) := by
  have t0 := td_revocation_trade a
  have t1 := td_revocation_grant a
  have t2 := td_revocation_renewal a
  have t3 := td_revocation_revocation a
  obtain ⟨wa, hwa⟩ : ∃ wa, wa = ((w.alloc (.cells rep0 46)).alloc (.cells rep0 46)).alloc (.cells #[.int .i64 a] 180) := ⟨_, rfl⟩
  have hba : Below w.heap.size w wa := by rw [hwa]; exact bmore (bmore (bmore (Below.refl _ _) _) _) _
  have hsa : wa.heap.size = w.heap.size + 3 := by rw [hwa]; simp
  have hA4 : Blk wa w.heap.size rep0 := by rw [hwa]; exact ((Blk.new w _ _).alloc _).alloc _
  have hA5 : Blk wa (w.heap.size + 1) rep0 := by rw [hwa]; exact (Blk.newAt (by simp)).alloc _
  have hA7 : Blk wa (w.heap.size + 2) #[.int .i64 a] := by rw [hwa]; exact Blk.newAt (by simp)
  have hlt := h.lt
  have hft := fun y => m.foot_iff S y
  have hbml := hlt m.bm ((hft _).2 (by simp))
  have hmbl := hlt m.mb ((hft _).2 (by simp))
  have hm1 := h.keep hba
  have hmd : Mc wa.drew m cl rev C chs Ks S := h.keep hba.drew
  have q1 : ∀ o, wa.drew.cell? ⟨m.mb, o, none⟩ = _ := hm1.blk.cell
  have q2 : ∀ o, wa.drew.cell? ⟨w.heap.size + 2, o, none⟩ = _ := hA7.cell
  have hgb := g_book hmd.blk
  have hgs := g_store hmd.blk
  have hsame := @cell_same
  have hiss := @isSome_setCell
  go_enter Tryz.func33, Tryz.ntmps33
  go_wp2_with fail
  rw [← hwa]
  clear hwa
  go_still_tail 6, (by kernel_rfl)
  repeat still_step
  still_call (still_of hgb)
  repeat still_step
  refine wpStill_nil ?_
  change wpList _ _ _ _ _ wa.drew
  obtain ⟨ls, hbk⟩ := hmd.bk
  go_wp2_with fail
  go_at_call 76
  refine (has_f hbk a).mono ?_
  rintro e w5 ⟨⟨is, rfl⟩, hb5⟩
  have q7 := (hA7.drew.keep hb5).cell
  have hbw5 := bthen hba.drew hb5
  cases is with
  | false =>
    have hc5 := (hA5.drew.keep hb5).cell
    have hf5 := (hA5.drew.keep hb5).frz
    have hc4 := (hA4.drew.keep hb5).cell
    have hf4 := (hA4.drew.keep hb5).frz
    go_wp2
    refine bodyPost_ret (v := .agg #[.int .i64 2, .int .i64 0, .bool false, .slice none 0 0, .int .i64 0]) (by simp [results, Tryz.results33, go_sem, hc4, hc5, cell_same, isSome_setCell]) rfl ⟨2, false, _, [], 0, rfl, Ress.nil _ _, by simp, ?_⟩
    exact (McPost.still hmd hb5).local h hba.drew (only_set5 (G := fun y => w.heap.size ≤ y ∧ y < wa.heap.size) ((Only.refl _ w5).set ⟨w.heap.size + 1, 0, none⟩ (fun _ => ⟨by show w.heap.size ≤ w.heap.size + 1; omega, by show w.heap.size + 1 < wa.heap.size; omega⟩) _) w.heap.size ⟨Nat.le_refl _, by omega⟩)
  | true =>
    go_wp2_with fail
    go_at_call 77
    have hI := ints_one w5 a
    refine (mrevoke_f (h.keep (bmore hbw5 _)) hC hrev hI (by omega) (fun y hy hm => by
      have := (hI.lt y hy).1
      have := hlt y hm
      have := hbw5.size
      omega)).mono ?_
    rintro e w6 ⟨rfl, hP6⟩
    have hB5 := ((hA5.drew.keep hb5).alloc _).only hP6.1 (fun e => by have := hlt _ (Ids.own_foot e); omega)
    have hB4 := ((hA4.drew.keep hb5).alloc _).only hP6.1 (fun e => by have := hlt _ (Ids.own_foot e); omega)
    have hc5 := hB5.cell
    have hf5 := hB5.frz
    have hc4 := hB4.cell
    have hf4 := hB4.frz
    go_wp2
    refine bodyPost_ret (v := .agg #[.int .i64 0, .int .i64 0, .bool false, .slice none 0 0, .int .i64 0]) (by simp [results, Tryz.results33, go_sem, hc4, hc5, cell_same, isSome_setCell]) rfl ⟨0, false, _, [], 0, rfl, Ress.nil _ _, by simp, ?_⟩
    exact hP6.local h (bmore hbw5 _) (only_set5 (G := fun y => w.heap.size ≤ y ∧ y < (w5.alloc (.cells #[.int .i64 a] 3)).heap.size) (Only.refl _ w6) w.heap.size ⟨Nat.le_refl _, by have := hbw5.size; have := hb5.size; have hd : wa.drew.heap.size = wa.heap.size := rfl; simp; omega⟩)
end Go.Proofs.YtbheebpfbabffaaGreat.Wat

namespace Go.Proofs.YtbheebpfbabffaaGreat.Wat
open Go.RowKit Go Go.Lib Mach Go.MapKept

attribute [local irreducible] wpStill in
set_option maxHeartbeats 16000000 in
set_option maxRecDepth 100000 in
theorem mdo_clock {w : World} {m : Ids} {cl : Int} {rev C : Nat} {chs : List Ver} {Ks : List Value} {S : List Nat} (h : Mc w m cl rev C chs Ks S) (a : Int)  :
    Calls Tryz.prog 33 #[Ptr m.mb, .iface 183 (.agg #[.int .i64 a])] w (MdPost w m rev C chs Ks S) := by
  have t0 := td_clock_trade a
  have t1 := td_clock_grant a
  have t2 := td_clock_renewal a
  have t3 := td_clock_revocation a
  have t4 := td_clock_clock a
  obtain ⟨wa, hwa⟩ : ∃ wa, wa = ((w.alloc (.cells rep0 46)).alloc (.cells rep0 46)).alloc (.cells #[.int .i64 a] 183) := ⟨_, rfl⟩
  have hba : Below w.heap.size w wa := by rw [hwa]; exact bmore (bmore (bmore (Below.refl _ _) _) _) _
  have hsa : wa.heap.size = w.heap.size + 3 := by rw [hwa]; simp
  have hA4 : Blk wa w.heap.size rep0 := by rw [hwa]; exact ((Blk.new w _ _).alloc _).alloc _
  have hA5 : Blk wa (w.heap.size + 1) rep0 := by rw [hwa]; exact (Blk.newAt (by simp)).alloc _
  have hA7 : Blk wa (w.heap.size + 2) #[.int .i64 a] := by rw [hwa]; exact Blk.newAt (by simp)
  have hlt := h.lt
  have hft := fun y => m.foot_iff S y
  have hbml := hlt m.bm ((hft _).2 (by simp))
  have hmbl := hlt m.mb ((hft _).2 (by simp))
  have hm1 := h.keep hba
  have hmd : Mc wa.drew m cl rev C chs Ks S := h.keep hba.drew
  have q1 : ∀ o, wa.drew.cell? ⟨m.mb, o, none⟩ = _ := hm1.blk.cell
  have q2 : ∀ o, wa.drew.cell? ⟨w.heap.size + 2, o, none⟩ = _ := hA7.cell
  have hgb := g_book hmd.blk
  have hgs := g_store hmd.blk
  have hsame := @cell_same
  have hiss := @isSome_setCell
  by_cases h0 : a < 0
  · go_enter Tryz.func33, Tryz.ntmps33
    go_wp2
    exact bodyPost_ret (v := .agg #[.int .i64 1, .int .i64 0, .bool false, .slice none 0 0, .int .i64 0]) (by simp [results, Tryz.results33, go_sem]) rfl ⟨1, false, _, [], 0, rfl, Ress.nil _ _, by simp, McPost.still h (bmore (bmore (bmore (Below.refl _ _) _) _) _)⟩
  by_cases h1 : 1099511627776 < a
  · go_enter Tryz.func33, Tryz.ntmps33
    go_wp2
    exact bodyPost_ret (v := .agg #[.int .i64 1, .int .i64 0, .bool false, .slice none 0 0, .int .i64 0]) (by simp [results, Tryz.results33, go_sem]) rfl ⟨1, false, _, [], 0, rfl, Ress.nil _ _, by simp, McPost.still h (bmore (bmore (bmore (Below.refl _ _) _) _) _)⟩
  obtain ⟨wq, hwq⟩ : ∃ wq, wq = (wa.setCell ⟨m.mb, 3, none⟩ (.int .i64 (max cl a))).drew := ⟨_, rfl⟩
  have hOd : Only (fun y => w.heap.size ≤ y ∧ y < wa.heap.size) (wa.setCell ⟨m.mb, 3, none⟩ (.int .i64 (max cl a))) wq := by rw [hwq]; exact Only.of_below (Below.refl _ _).drew
  have hOq : Only (fun y => y = m.mb) wa wq := by rw [hwq]; exact ((Only.refl (fun y => y = m.mb) wa).set ⟨m.mb, 3, none⟩ (fun _ => rfl) _).trans (Only.of_below (F := fun y => y = m.mb) (Below.refl _ _).drew) (fun _ _ h => h)
  have hPq : McPost wa m rev C chs Ks S (wa.setCell ⟨m.mb, 3, none⟩ (.int .i64 (max cl a))) := McPost.clock hm1 _
  have q3 : ∀ o, wa.drew.frozen? ⟨m.mb, o, none⟩ = false := hm1.blk.frz
  have hB5 := hA5.only hOq (by omega)
  have hB4 := hA4.only hOq (by omega)
  have hc5 := hB5.cell
  have hf5 := hB5.frz
  have hc4 := hB4.cell
  have hf4 := hB4.frz
  go_enter Tryz.func33, Tryz.ntmps33
  go_wp2_with fail
  rw [← hwa]
  clear hwa
  go_region
  rw [← hwq]
  clear hwq
  go_wp2
  refine bodyPost_ret (v := .agg #[.int .i64 0, .int .i64 0, .bool false, .slice none 0 0, .int .i64 0]) (by simp [results, Tryz.results33, go_sem, hc4, hc5, cell_same, isSome_setCell]) rfl ⟨0, false, _, [], 0, rfl, Ress.nil _ _, by simp, ?_⟩
  exact (hPq).local h hba (only_set5 (G := fun y => w.heap.size ≤ y ∧ y < wa.heap.size) hOd w.heap.size ⟨Nat.le_refl _, by omega⟩)
end Go.Proofs.YtbheebpfbabffaaGreat.Wat

namespace Go.Proofs.YtbheebpfbabffaaGreat.Wat
open Go.RowKit Go Go.Lib Mach Go.MapKept

attribute [local irreducible] wpStill in
set_option maxHeartbeats 16000000 in
set_option maxRecDepth 100000 in
theorem mdo_nil {w : World} {m : Ids} {cl : Int} {rev C : Nat} {chs : List Ver} {Ks : List Value} {S : List Nat} (h : Mc w m cl rev C chs Ks S)   :
    Calls Tryz.prog 33 #[Ptr m.mb, .nilIface] w (MdPost w m rev C chs Ks S) := by
  have t0 := td_nil_trade 
  have t1 := td_nil_grant 
  have t2 := td_nil_renewal 
  have t3 := td_nil_revocation 
  have t4 := td_nil_clock 
  have t5 := td_nil_expiry 
  have t6 := td_nil_compaction 
  have hsame := @cell_same
  have hiss := @isSome_setCell
  go_enter Tryz.func33, Tryz.ntmps33
  go_wp2
  exact bodyPost_ret (v := .agg #[.int .i64 3, .int .i64 0, .bool false, .slice none 0 0, .int .i64 0]) (by simp [results, Tryz.results33, go_sem]) rfl ⟨3, false, _, [], 0, rfl, Ress.nil _ _, by simp, McPost.still h (bmore (bmore (Below.refl _ _) _) _)⟩
end Go.Proofs.YtbheebpfbabffaaGreat.Wat

