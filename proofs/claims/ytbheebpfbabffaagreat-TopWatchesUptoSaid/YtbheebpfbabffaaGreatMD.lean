/- Joined: a part of the proof of TopWatches. -/
import Derived.Test.YtbheebpfbabffaaGreatMach10
set_option linter.unusedSimpArgs false
set_option linter.unusedVariables false
namespace Go.Proofs.YtbheebpfbabffaaGreat.Mach
open Go.RowKit Go

set_option maxRecDepth 100000 in
theorem closed_g (n q : Nat) (w : World) (hs : w.cell? ⟨n + 3, 6, none⟩ = some (.pointer (some ⟨q + 1, 0, none⟩))) (hc : w.cell? ⟨q + 1, 0, none⟩ = some (.pointer (some ⟨n + 3, 0, none⟩))) : Calls Tryz.prog 153 #[.pointer (some ⟨q + 1, 0, none⟩)] w fun e w' => e = .returned (.bool false) ∧ w = w' := by
  have hp := run_neq_ptr (P := Tryz.prog) (t := 96) (k := 4) (by kernel_rfl) ⟨q + 1, 0, none⟩ w (by kernel_rfl)
  go_enter Tryz.func153, Tryz.ntmps153
  go_wp2
  go_ret
  exact ⟨rfl, rfl⟩

theorem Only.cell {F : Nat → Prop} {w w' : World} (h : Only F w w') {b : Nat} (hb : b < w.heap.size) (hF : ¬ F b) (o : Nat) : w'.cell? ⟨b, o, none⟩ = w.cell? ⟨b, o, none⟩ := World.cell?_of_block (w := w) (h.block b hb hF)
/-- What Done leaves. -/
def DonePost (n : Nat) (w w' : World) : Prop := ∃ cl, Only (fun x => x = n + 1 ∨ x = n + 2 ∨ x = n + 3) w w' ∧ Blk w' (n + 3) #[.int .i64 1, .int .i64 0, .int .i64 1, .pointer (some ⟨n + 1, 0, none⟩), .map (some (n + 2)), cl, .pointer none]

set_option maxHeartbeats 4000000 in
set_option maxRecDepth 100000 in
theorem done_a (n q lb cap : Nat) (w : World) (hst : Blk w (n + 3) #[.int .i64 0, .int .i64 0, .int .i64 0, .pointer (some ⟨n + 1, 0, none⟩), .map (some (n + 2)), .slice none 0 0, .pointer (some ⟨q + 1, 0, none⟩)])
    (hvs : Mp w (n + 2) #[]) (hix : Blk w (n + 1) #[.pointer none, .int .i64 0]) (hwr : Blk w (q + 1) #[.pointer (some ⟨n + 3, 0, none⟩), .slice (some ⟨lb, 0, none⟩) 1 cap, .map (some q), .int .i64 1]) (hlb : w.cell? ⟨lb, 0, none⟩ = some putV) (hq : n + 3 < q) (hl : n + 3 < lb) :
    Calls Tryz.prog 119 #[.pointer (some ⟨q + 1, 0, none⟩)] w fun e w' => e = .returned (.int .i64 1) ∧ DonePost n w w' := by
  have hcs := hst.cell
  have hfs := hst.frz
  have hcw := hwr.cell
  have hq1 : q + 1 ≠ n + 3 := by omega
  have hl1 : lb ≠ n + 3 := by omega
  go_enter Tryz.func119, Tryz.ntmps119
  go_wp2_with fail
  go_at_call 153
  refine (closed_g n q _ (hst.cell 6) (hwr.cell 0)).mono ?_
  rintro e w' ⟨rfl, rfl⟩
  go_wp2
  refine wp_loop_rounds 2 ?_
  rw [rounds_succ]
  go_wp2_with fail
  have k1 := ((hst.setCell 6 (.pointer none)).setCell 0 (.int .i64 1)).setCell 2 (.int .i64 1)
  simp at k1
  have k2 := ((hvs.setOther ⟨n + 3, 6, none⟩ (by simp) (.pointer none)).setOther ⟨n + 3, 0, none⟩ (by simp) (.int .i64 1)).setOther ⟨n + 3, 2, none⟩ (by simp) (.int .i64 1)
  have k3 := ((hix.setOther ⟨n + 3, 6, none⟩ (by simp) (.pointer none)).setOther ⟨n + 3, 0, none⟩ (by simp) (.int .i64 1)).setOther ⟨n + 3, 2, none⟩ (by simp) (.int .i64 1)
  have hO0 : Only (fun x => x = n + 1 ∨ x = n + 2 ∨ x = n + 3) w (((w.setCell ⟨n + 3, 6, none⟩ (.pointer none)).setCell ⟨n + 3, 0, none⟩ (.int .i64 1)).setCell ⟨n + 3, 2, none⟩ (.int .i64 1)) :=
    (((Only.refl _ w).set _ (fun _ => .inr (.inr rfl)) _).set _ (fun _ => .inr (.inr rfl)) _).set _ (fun _ => .inr (.inr rfl)) _
  go_at_call 136
  refine (note_a n 1 0 1 (.pointer none) _ k1 k2 k3).mono ?_
  rintro e w7 ⟨rfl, cl, hO, hB⟩
  have hO7 := hO0.trans hO (fun _ _ h => h)
  have hc7 := hB.cell
  have HD : Hid (DonePost n w w7) := ⟨cl, hO7, hB⟩
  clear k1 k2 k3 hO0 hO hO7 hcs hfs hcw hst hvs hix hwr
  go_wp2
  rw [rounds_succ]
  go_wp2
  go_ret
  exact ⟨rfl, HD⟩

/-- What Do leaves. -/
def DoPost (n : Nat) (e : Ending) (w w' : World) : Prop := ∃ rb cap cl, e = .returned (.tuple #[.bool true, .slice (some ⟨rb, 0, none⟩) 1 cap, .int .i64 0]) ∧ w.heap.size ≤ rb ∧ Only (fun x => x = n + 1 ∨ x = n + 2 ∨ x = n + 3) w w' ∧
  Blk w' (n + 3) #[.int .i64 1, .int .i64 0, .int .i64 1, .pointer (some ⟨n + 1, 0, none⟩), .map (some (n + 2)), cl, .pointer none] ∧ w'.cell? ⟨rb, 0, none⟩ = some (.int .i64 0) ∧ w'.cell? ⟨rb, 1, none⟩ = some (.slice none 0 0)
theorem info_res : (Tryz.prog.info? 135).map (fun i => (i.zero, i.size, i.bytes)) = some (some (.agg #[.int .i64 0, .slice none 0 0]), 2, 32) := by kernel_rfl

set_option maxHeartbeats 4000000 in
set_option maxRecDepth 100000 in
theorem do_a (n cb : Nat) (lv : Value) (w : World) (h : Fresh w n) (hcb : Blk w cb opC) :
    Calls Tryz.prog 73 #[.pointer (some ⟨n + 3, 0, none⟩), lv, .agg (txnC cb)] w fun e w' => DoPost n e w w' := by
  obtain ⟨i0, hi0, hz0, hy1, hy2⟩ := info_parts info_res
  have hcl := hcb.lt
  have hsl := h.st.lt
  have hck := fun w => check_a cb w
  unfold txnC at hck ⊢
  go_enter Tryz.func73, Tryz.ntmps73
  go_wp2_with fail
  go_at_call 115
  refine (hck _ (hcb.alloc _)).mono ?_
  rintro e w2 ⟨rfl, hb2⟩
  have k0 : Blk w2 w.heap.size _ := (Blk.newAt rfl).keep hb2
  have hbel := bthen (bmore (Below.refl _ _) _) hb2
  have h2 := h.keep hbel
  have hcb2 := hcb.keep hbel
  have hc0 := k0.cell
  have hcc := hcb2.cell
  unfold opC at hcc
  have hz2 := k0.lt
  clear hb2
  go_wp2_with fail
  go_at_call 116
  refine (holds_n _ _).mono ?_
  rintro e w' ⟨rfl, rfl⟩
  go_wp2
  refine wp_loop_rounds 2 ?_
  rw [rounds_succ]
  go_wp2
  rw [rounds_succ]
  go_wp2_with fail
  have h3 := h2.keep (bmore (Below.refl _ _) (.cells #[.int .i64 0, .string ⟨#[97]⟩, .string ⟨#[]⟩, .string ⟨#[120]⟩, .int .i64 0, .int .i64 0] 72))
  have hcb3 := hcb2.alloc (.cells #[.int .i64 0, .string ⟨#[97]⟩, .string ⟨#[]⟩, .string ⟨#[120]⟩, .int .i64 0, .int .i64 0] 72)
  have hb3 := bmore hbel (.cells #[.int .i64 0, .string ⟨#[97]⟩, .string ⟨#[]⟩, .string ⟨#[120]⟩, .int .i64 0, .int .i64 0] 72)
  have hz3 : w.heap.size < (w2.alloc (.cells #[.int .i64 0, .string ⟨#[97]⟩, .string ⟨#[]⟩, .string ⟨#[120]⟩, .int .i64 0, .int .i64 0] 72)).heap.size := by simp; omega
  generalize w2.alloc (.cells #[.int .i64 0, .string ⟨#[97]⟩, .string ⟨#[]⟩, .string ⟨#[120]⟩, .int .i64 0, .int .i64 0] 72) = w3 at *
  clear hc0 hcc hbel h2 hcb2 k0 hz2
  go_at_call 117
  refine (swrite n _ h3).mono ?_
  rintro e w4 ⟨rfl, hw4⟩
  have hst4 := h3.st.setCell 6 (.pointer (some ⟨w3.heap.size + 1, 0, none⟩))
  simp at hst4
  have hsz4 : (w3.setCell ⟨n + 3, 6, none⟩ (.pointer (some ⟨w3.heap.size + 1, 0, none⟩))).heap.size = w3.heap.size := by simp [World.setCell]
  have hOp : Opened w4 n w3.heap.size := by
    rw [hw4]
    exact ⟨(hst4.alloc _).alloc _, ((h3.vs.setOther ⟨n + 3, 6, none⟩ (by simp) _).alloc _).alloc _, by have := (Mp.new (w3.setCell ⟨n + 3, 6, none⟩ (.pointer (some ⟨w3.heap.size + 1, 0, none⟩))) #[] 0); rw [hsz4] at this; exact this.alloc _, Blk.newAt (by simp [World.setCell])⟩
  have hO4 : Only (fun x => x = n + 1 ∨ x = n + 2 ∨ x = n + 3) w w4 := by
    rw [hw4]
    exact (((Only.of_below hb3).set ⟨n + 3, 6, none⟩ (fun _ => .inr (.inr rfl)) _).alloc _).alloc _
  have hix4 : Blk w4 (n + 1) #[.pointer none, .int .i64 0] := by
    rw [hw4]
    exact ((h3.ix.setOther ⟨n + 3, 6, none⟩ (by simp) _).alloc _).alloc _
  have hne : cb ≠ n + 3 := by
    intro e
    subst e
    obtain ⟨t1, e1⟩ := hcb3
    obtain ⟨t2, e2⟩ := h3.st
    rw [e1] at e2
    simp [opC] at e2
  have hcb4 : Blk w4 cb opC := by
    rw [hw4]
    exact ((hcb3.setOther ⟨n + 3, 6, none⟩ hne _).alloc _).alloc _
  have hq : n + 3 < w3.heap.size := h3.st.lt
  have hz4 : w3.heap.size + 1 < w4.heap.size := hOp.wr.lt
  clear hw4 hst4 hsz4 hb3 hcb3
  have hc4 := hcb4.cell
  unfold opC at hc4
  go_wp2
  refine wp_loop_rounds 2 ?_
  rw [rounds_succ]
  go_wp2_with fail
  have h5 := hOp.keep (bmore (Below.refl _ _) (.cells #[.int .i64 0, .string ⟨#[97]⟩, .string ⟨#[]⟩, .string ⟨#[120]⟩, .int .i64 0, .int .i64 0] 72))
  have hix5 := hix4.alloc (.cells #[.int .i64 0, .string ⟨#[97]⟩, .string ⟨#[]⟩, .string ⟨#[120]⟩, .int .i64 0, .int .i64 0] 72)
  have hO5 := hO4.alloc (.cells #[.int .i64 0, .string ⟨#[97]⟩, .string ⟨#[]⟩, .string ⟨#[120]⟩, .int .i64 0, .int .i64 0] 72)
  have hz5 : w3.heap.size + 1 < (w4.alloc (.cells #[.int .i64 0, .string ⟨#[97]⟩, .string ⟨#[]⟩, .string ⟨#[120]⟩, .int .i64 0, .int .i64 0] 72)).heap.size := by simp; omega
  go_at_call 118
  refine (told_a n w3.heap.size _ h5).mono ?_
  rintro e w6 ⟨rfl, cap, lb, hlb, hO6, hB6, hx6⟩
  have hst6 := h5.st.only hO6 (by omega)
  have hvs6 := h5.vs.only hO6 (by omega)
  have hix6 := hix5.only hO6 (by omega)
  have hlb1 : n + 3 < lb := by omega
  have hlb2 : lb < w6.heap.size := by
    have := hx6
    rcases Nat.lt_or_ge lb w6.heap.size with h | h
    · exact h
    · simp [World.cell?, Array.getElem?_eq_none h] at this
  have hO7 : Only (fun x => x = n + 1 ∨ x = n + 2 ∨ x = n + 3) w w6 := hO5.trans hO6 (fun x hx hx2 => by omega)
  have hz6 : w.heap.size < w6.heap.size := by have := hO6.size; omega
  clear hc4 h5 hix5 hO5 hz5 hlb hO6 hcb4 hix4 hO4 hOp hz4
  go_wp2_with (at_builtin; refine wpList_append_nil rfl _ _ 44 rfl 135 i0 (.agg #[.int .i64 0, .slice none 0 0]) 2 32 Tryz.underlying44 hi0 hz0 hy1 hy2 rfl (by decide) rfl ⟨w6.heap.size + 1, 0, none⟩ 1 1 [.int .i64 0, .slice none 0 0] rfl rfl ?c1 ?c2 (by decide) (by decide) (by decide) (w6.heap.size + 2) (by simp) ?_)
  case c1 => exact news_blk (c := #[.int .i64 0, .slice none 0 0]) (Blk.newAt (by simp))
  case c2 => intro u hu; simp at hu; rcases hu with rfl | rfl <;> rfl
  intro cap8 w8 hM
  have hb8 := hM.below
  have hst8 := ((hst6.alloc _).alloc _).keep hb8
  have hvs8 := ((hvs6.alloc _).alloc _).keep hb8
  have hix8 := ((hix6.alloc _).alloc _).keep hb8
  have hB8 := ((hB6.alloc _).alloc _).keep hb8
  have hx8 := (keep0 hb8 (b := lb) (by simp; omega) 0).trans ((alloc_old _ _ (by simp; omega) 0).trans ((alloc_old _ _ hlb2 0).trans hx6))
  have hO8 := ((hO7.alloc _).alloc _).then hb8
  have hr0 := hM.cell 0 _ rfl
  have hr1 := hM.cell 1 _ rfl
  have hrl := hM.lt
  clear hM hb8 hst6 hvs6 hix6 hB6 hx6 hO7
  go_wp2
  rw [rounds_succ]
  go_wp2_with fail
  go_at_call 119
  refine (done_a n w3.heap.size lb cap w8 hst8 hvs8 hix8 hB8 hx8 hq hlb1).mono ?_
  rintro e w9 ⟨rfl, cl, hO9, hB9⟩
  have hr0' := (hO9.cell (b := w6.heap.size + 2) hrl (by omega) 0).trans hr0
  have hr1' := (hO9.cell (b := w6.heap.size + 2) hrl (by omega) 1).trans hr1
  have HD : Hid (DoPost n (.returned (.tuple #[.bool true, .slice (some ⟨w6.heap.size + 2, 0, none⟩) 1 cap8, .int .i64 0])) w w9) := ⟨_, _, cl, rfl, by omega, hO8.trans hO9 (fun _ _ h => h), hB9, hr0', hr1'⟩
  clear hst8 hvs8 hix8 hB8 hx8 hO8 hr0 hr1 hO9 hB9 hr0' hr1'
  go_wp2
  go_ret3
  exact HD
end Go.Proofs.YtbheebpfbabffaaGreat.Mach

namespace Go.Proofs.YtbheebpfbabffaaGreat.Mach
open Go.RowKit Go

/-- The command of the example; a reply that says nothing. -/
abbrev cmdC (cb : Nat) : Array Value := #[.int .i64 0, .int .i64 0, .int .i64 0, .slice none 0 0, .slice (some ⟨cb, 0, none⟩) 1 1, .slice none 0 0, .int .i64 0, .int .i64 0, .int .i64 0, .int .i64 0]
abbrev rep0 : Array Value := #[.int .i64 0, .int .i64 0, .bool false, .slice none 0 0, .int .i64 0]

set_option maxHeartbeats 1000000 in
set_option maxRecDepth 100000 in
theorem does_a (cb : Nat) (w : World) : Calls Tryz.prog 34 #[.agg (cmdC cb)] w fun e w' => e = .returned (.iface 171 (.agg #[.slice none 0 0, .slice (some ⟨cb, 0, none⟩) 1 1, .slice none 0 0])) ∧ Below w.heap.size w w' := by
  go_enter Tryz.func34, Tryz.ntmps34
  go_wp2
  go_ret
  exact ⟨rfl, bmore (Below.refl _ _) _⟩

set_option maxHeartbeats 1000000 in
set_option maxRecDepth 100000 in
theorem ask_0 (n : Nat) (w : World) (htb : Blk w (n + 7) #[.map (some (n + 6))]) (hfm : Mp w (n + 6) #[]) : Calls Tryz.prog 32 #[.pointer (some ⟨n + 7, 0, none⟩), .int .i64 0, .int .i64 0] w fun e w' => e = .returned (.tuple #[.agg rep0, .bool true]) ∧ Below w.heap.size w w' := by
  have hc := htb.cell
  have hl := htb.lt
  go_enter Tryz.func32, Tryz.ntmps32
  go_wp2_with (at_lookup; refine wpList_look_run rfl _ _ _ _ rfl (run_look_none_int Tryz.underlying162 Tryz.underlying3 (zero_row _) (hfm.alloc _) _ _) ?_)
  exact bodyPost_ret (v := .tuple #[.agg rep0, .bool true]) (by simp [results, Tryz.results32, go_sem]) rfl ⟨rfl, bmore (bmore (Below.refl _ _) _) _⟩

set_option maxHeartbeats 1000000 in
set_option maxRecDepth 100000 in
theorem rev_a (b : Nat) (v : Value) (w : World) (h : w.cell? ⟨b, 0, none⟩ = some v) : Calls Tryz.prog 13 #[.pointer (some ⟨b, 0, none⟩)] w fun e w' => e = .returned v ∧ w = w' := by
  go_enter Tryz.func13, Tryz.ntmps13
  go_wp2
  go_ret
  exact ⟨rfl, rfl⟩

set_option maxHeartbeats 1000000 in
set_option maxRecDepth 100000 in
theorem note_0 (t : Value) (r : Array Value) (hr : r.size = 5) (w : World) (n : Nat) (htb : Blk w (n + 7) #[.map (some (n + 6))]) (hfm : Mp w (n + 6) #[]) : Calls Tryz.prog 35 #[.pointer (some ⟨n + 7, 0, none⟩), .int .i64 0, .int .i64 0, .agg r] w fun e w' => e = .returned (.tuple #[]) ∧ Below w.heap.size w w' := by
  go_enter Tryz.func35, Tryz.ntmps35
  go_wp2_with fail
  go_at_call 32
  refine (ask_0 n _ (htb.alloc _) (hfm.alloc _)).mono ?_
  rintro e w2 ⟨rfl, hb2⟩
  have hbel := bthen (bmore (Below.refl _ _) _) hb2
  go_wp2
  go_end0
  exact ⟨rfl, bmore hbel _⟩

/-- The machine's own block. -/
abbrev mC (n : Nat) : Array Value := #[.iface 29 (.pointer (some ⟨n + 3, 0, none⟩)), .iface 78 (.pointer (some ⟨n + 5, 0, none⟩)), .iface 80 (.pointer (some ⟨n + 7, 0, none⟩)), .int .i64 0]
set_option maxRecDepth 100000 in
theorem store_m (w : World) (n : Nat) (h : Blk w n (mC n)) : Calls Tryz.prog 29 #[.pointer (some ⟨n, 0, none⟩)] w fun e w' => e = .returned (.pointer (some ⟨n + 3, 0, none⟩)) ∧ w = w' := by
  have hta := ta_s
  have hc := h.cell
  clear h
  go_enter Tryz.func29, Tryz.ntmps29
  go_wp2
  go_ret
  exact ⟨rfl, rfl⟩
set_option maxRecDepth 100000 in
theorem book_m (w : World) (n : Nat) (h : Blk w n (mC n)) : Calls Tryz.prog 62 #[.pointer (some ⟨n, 0, none⟩)] w fun e w' => e = .returned (.pointer (some ⟨n + 5, 0, none⟩)) ∧ w = w' := by
  have hta := ta_b
  have hc := h.cell
  clear h
  go_enter Tryz.func62, Tryz.ntmps62
  go_wp2
  go_ret
  exact ⟨rfl, rfl⟩
set_option maxRecDepth 100000 in
theorem table_m (w : World) (n : Nat) (h : Blk w n (mC n)) : Calls Tryz.prog 31 #[.pointer (some ⟨n, 0, none⟩)] w fun e w' => e = .returned (.pointer (some ⟨n + 7, 0, none⟩)) ∧ w = w' := by
  have hta := ta_t
  have hc := h.cell
  clear h
  go_enter Tryz.func31, Tryz.ntmps31
  go_wp2
  go_ret
  exact ⟨rfl, rfl⟩
set_option maxRecDepth 100000 in
theorem mstore_m (w : World) (n : Nat) (h : Blk w n (mC n)) : Calls Tryz.prog 8 #[.pointer (some ⟨n, 0, none⟩)] w fun e w' => e = .returned (.pointer (some ⟨n + 3, 0, none⟩)) ∧ w = w' := by
  go_enter Tryz.func8, Tryz.ntmps8
  go_wp2_with fail
  go_at_call 29
  refine (store_m w n h).mono ?_
  rintro e w' ⟨rfl, rfl⟩
  go_wp2
  go_ret
  exact ⟨rfl, rfl⟩
theorem ta_tr (v : Value) (w : World) : Sem.run Tryz.prog (Instr.typeAssert (.iface 171 v) 102 171 true) w = .ok (.tuple #[v, .bool true]) w := by kernel_rfl
end Go.Proofs.YtbheebpfbabffaaGreat.Mach

