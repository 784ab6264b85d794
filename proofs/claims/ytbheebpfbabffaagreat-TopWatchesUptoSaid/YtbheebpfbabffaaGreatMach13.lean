/- The machine's do at the example. -/
import Derived.Test.YtbheebpfbabffaaGreatMD
set_option linter.unusedSimpArgs false
set_option linter.unusedVariables false
namespace Go.Proofs.YtbheebpfbabffaaGreat.Mach
open Go.RowKit Go

/-- What do leaves. -/
def MdoPost (n : Nat) (e : Ending) (w w' : World) : Prop := ∃ rb cap cl, e = .returned (.agg #[.int .i64 0, .int .i64 0, .bool true, .slice (some ⟨rb, 0, none⟩) 1 cap, .int .i64 0]) ∧ w.heap.size ≤ rb ∧ Only (fun x => x = n + 1 ∨ x = n + 2 ∨ x = n + 3) w w' ∧
  Blk w' (n + 3) #[.int .i64 1, .int .i64 0, .int .i64 1, .pointer (some ⟨n + 1, 0, none⟩), .map (some (n + 2)), cl, .pointer none] ∧ w'.cell? ⟨rb, 0, none⟩ = some (.int .i64 0) ∧ w'.cell? ⟨rb, 1, none⟩ = some (.slice none 0 0)

theorem s2_only {C D : Array Value} {x b : Nat} {F : Nat → Prop} {W W' : World} (hS : (∀ o, W.cell? ⟨x, o, none⟩ = C[o]?) ∧ (∀ o, W.cell? ⟨b, o, none⟩ = D[o]?) ∧ x < W.heap.size ∧ b < W.heap.size) (hO : Only F W W') (h1 : ¬ F x) (h2 : ¬ F b) :
    (∀ o, W'.cell? ⟨x, o, none⟩ = C[o]?) ∧ (∀ o, W'.cell? ⟨b, o, none⟩ = D[o]?) ∧ x < W'.heap.size ∧ b < W'.heap.size :=
  ⟨fun o => (hO.cell hS.2.2.1 h1 o).trans (hS.1 o), fun o => (hO.cell hS.2.2.2 h2 o).trans (hS.2.1 o), Nat.lt_of_lt_of_le hS.2.2.1 hO.size, Nat.lt_of_lt_of_le hS.2.2.2 hO.size⟩
theorem s2_set {C D : Array Value} {x b : Nat} {W : World} (hS : (∀ o, W.cell? ⟨x, o, none⟩ = C[o]?) ∧ (∀ o, W.cell? ⟨b, o, none⟩ = D[o]?) ∧ x < W.heap.size ∧ b < W.heap.size) (a : Addr) (v : Value) (h1 : x ≠ a.block) (h2 : b ≠ a.block) :
    (∀ o, (W.setCell a v).cell? ⟨x, o, none⟩ = C[o]?) ∧ (∀ o, (W.setCell a v).cell? ⟨b, o, none⟩ = D[o]?) ∧ x < (W.setCell a v).heap.size ∧ b < (W.setCell a v).heap.size :=
  ⟨fun o => (cell_setOther W a v x o h1).trans (hS.1 o), fun o => (cell_setOther W a v b o h2).trans (hS.2.1 o), by simpa [World.setCell] using hS.2.2.1, by simpa [World.setCell] using hS.2.2.2⟩

theorem Fresh.drew {w : World} {n : Nat} (h : Fresh w n) : Fresh w.drew n := ⟨h.m, h.ix, h.vs, h.st, h.lm, h.bk, h.fm, h.tb⟩
/-- Behind the transaction. -/
def MidPost (n B : Nat) (w w' : World) : Prop := ∃ rb cap cl, Blk w' (B + 1) #[.int .i64 0, .int .i64 0, .bool true, .slice (some ⟨rb, 0, none⟩) 1 cap, .int .i64 0] ∧ B ≤ rb ∧ rb ≠ B ∧ rb ≠ B + 1 ∧ rb < w'.heap.size ∧ Only (fun x => x = n + 1 ∨ x = n + 2 ∨ x = n + 3 ∨ x = B + 1) w w' ∧
  Blk w' (n + 3) #[.int .i64 1, .int .i64 0, .int .i64 1, .pointer (some ⟨n + 1, 0, none⟩), .map (some (n + 2)), cl, .pointer none] ∧ w'.cell? ⟨rb, 0, none⟩ = some (.int .i64 0) ∧ w'.cell? ⟨rb, 1, none⟩ = some (.slice none 0 0)

set_option maxHeartbeats 8000000 in
set_option maxRecDepth 100000 in
theorem mdo_a (n cb : Nat) (w : World) (h : Fresh w n) (hcb : Blk w cb opC) :
    Calls Tryz.prog 33 #[.pointer (some ⟨n, 0, none⟩), .iface 171 (.agg (txnC cb))] w fun e w' => MdoPost n e w w' := by
  have hta := ta_tr
  have hcl := hcb.lt
  have hsl := h.tb.lt
  unfold txnC
  go_enter Tryz.func33, Tryz.ntmps33
  go_wp2_with fail
  have hF1 := h.keep (bmore (bmore (bmore (Below.refl w.heap.size w) (.cells #[.int .i64 0, .int .i64 0, .bool false, .slice none 0 0, .int .i64 0] 46)) (.cells #[.int .i64 0, .int .i64 0, .bool false, .slice none 0 0, .int .i64 0] 46)) (.cells #[.slice none 0 0, .slice (some ⟨cb, 0, none⟩) 1 1, .slice none 0 0] 171))
  have hb := bmore (bmore (bmore (Below.refl w.heap.size w) (.cells #[.int .i64 0, .int .i64 0, .bool false, .slice none 0 0, .int .i64 0] 46)) (.cells #[.int .i64 0, .int .i64 0, .bool false, .slice none 0 0, .int .i64 0] 46)) (.cells #[.slice none 0 0, .slice (some ⟨cb, 0, none⟩) 1 1, .slice none 0 0] 171)
  have k0 := ((Blk.new w #[.int .i64 0, .int .i64 0, .bool false, .slice none 0 0, .int .i64 0] 46).alloc (.cells #[.int .i64 0, .int .i64 0, .bool false, .slice none 0 0, .int .i64 0] 46)).alloc (.cells #[.slice none 0 0, .slice (some ⟨cb, 0, none⟩) 1 1, .slice none 0 0] 171)
  have k1 : Blk (((w.alloc (.cells #[.int .i64 0, .int .i64 0, .bool false, .slice none 0 0, .int .i64 0] 46)).alloc (.cells #[.int .i64 0, .int .i64 0, .bool false, .slice none 0 0, .int .i64 0] 46)).alloc (.cells #[.slice none 0 0, .slice (some ⟨cb, 0, none⟩) 1 1, .slice none 0 0] 171)) (w.heap.size + 1) #[.int .i64 0, .int .i64 0, .bool false, .slice none 0 0, .int .i64 0] := (Blk.newAt (by simp)).alloc _
  have k2 : Blk (((w.alloc (.cells #[.int .i64 0, .int .i64 0, .bool false, .slice none 0 0, .int .i64 0] 46)).alloc (.cells #[.int .i64 0, .int .i64 0, .bool false, .slice none 0 0, .int .i64 0] 46)).alloc (.cells #[.slice none 0 0, .slice (some ⟨cb, 0, none⟩) 1 1, .slice none 0 0] 171)) (w.heap.size + 1 + 1) #[.slice none 0 0, .slice (some ⟨cb, 0, none⟩) 1 1, .slice none 0 0] := Blk.newAt (by simp)
  have hcb1 := ((hcb.alloc (.cells #[.int .i64 0, .int .i64 0, .bool false, .slice none 0 0, .int .i64 0] 46)).alloc (.cells #[.int .i64 0, .int .i64 0, .bool false, .slice none 0 0, .int .i64 0] 46)).alloc (.cells #[.slice none 0 0, .slice (some ⟨cb, 0, none⟩) 1 1, .slice none 0 0] 171)
  generalize ((w.alloc (.cells #[.int .i64 0, .int .i64 0, .bool false, .slice none 0 0, .int .i64 0] 46)).alloc (.cells #[.int .i64 0, .int .i64 0, .bool false, .slice none 0 0, .int .i64 0] 46)).alloc (.cells #[.slice none 0 0, .slice (some ⟨cb, 0, none⟩) 1 1, .slice none 0 0] 171) = wa at *
  have hdo := do_a n cb
  unfold txnC at hdo
  have hFd := hF1.drew
  have hcbd := hcb1.drew
  have hkd := k1.drew
  have hS : (∀ o, wa.drew.cell? ⟨n, o, none⟩ = (#[.iface 29 (.pointer (some ⟨n + 3, 0, none⟩)), .iface 78 (.pointer (some ⟨n + 5, 0, none⟩)), .iface 80 (.pointer (some ⟨n + 7, 0, none⟩)), .int .i64 0] : Array Value)[o]?) ∧ (∀ o, wa.drew.cell? ⟨w.heap.size + 1 + 1, o, none⟩ = (#[.slice none 0 0, .slice (some ⟨cb, 0, none⟩) 1 1, .slice none 0 0] : Array Value)[o]?) ∧ n < wa.drew.heap.size ∧ w.heap.size + 1 + 1 < wa.drew.heap.size := ⟨hF1.m.cell, k2.cell, hF1.m.lt, k2.lt⟩
  go_region_held3 (fun w' => (∀ o, w'.cell? ⟨n, o, none⟩ = (#[.iface 29 (.pointer (some ⟨n + 3, 0, none⟩)), .iface 78 (.pointer (some ⟨n + 5, 0, none⟩)), .iface 80 (.pointer (some ⟨n + 7, 0, none⟩)), .int .i64 0] : Array Value)[o]?) ∧ (∀ o, w'.cell? ⟨w.heap.size + 1 + 1, o, none⟩ = (#[.slice none 0 0, .slice (some ⟨cb, 0, none⟩) 1 1, .slice none 0 0] : Array Value)[o]?) ∧ n < w'.heap.size ∧ w.heap.size + 1 + 1 < w'.heap.size)
    (first
      | assumption
      | with_reducible exact hS
      | (refine s2_only ?_ hO7 (by omega) (by omega); first | assumption | exact hS)
      | (refine s2_set ?_ _ _ (by simp <;> omega) (by simp); first | assumption | exact hS))
    (first
      | (go_at_call 29; refine (store_m _ n hFd.m).mono ?_; rintro e w5 ⟨rfl, rfl⟩)
      | (go_at_call 62; refine (book_m _ n hFd.m).mono ?_; rintro e w5 ⟨rfl, rfl⟩)
      | (go_at_call 73; refine (hdo _ _ hFd hcbd).mono ?_; rintro e w7 ⟨rb, cap, cl, rfl, hrb, hO7, hB7, hx0, hx1⟩; have hr7 := hkd.only hO7 (by omega); have hrc := hr7.cell; have hrf := hr7.frz))
  have hbs := hF1.m.lt
  have hbz : w.heap.size + 1 + 1 < wa.heap.size := k2.lt
  have hrb2 : wa.heap.size ≤ rb := hrb
  have z1 := ((hr7.setCell 2 (.bool true)).setCell 3 (.slice (some ⟨rb, 0, none⟩) 1 cap)).setCell 0 (.int .i64 0)
  simp at z1
  have z0 := (((k0.drew.only hO7 (by omega)).setOther ⟨w.heap.size + 1, 2, none⟩ (by simp <;> omega) (.bool true)).setOther ⟨w.heap.size + 1, 3, none⟩ (by simp <;> omega) (.slice (some ⟨rb, 0, none⟩) 1 cap)).setOther ⟨w.heap.size + 1, 0, none⟩ (by simp <;> omega) (.int .i64 0)
  have zB := ((hB7.setOther ⟨w.heap.size + 1, 2, none⟩ (by simp <;> omega) (.bool true)).setOther ⟨w.heap.size + 1, 3, none⟩ (by simp <;> omega) (.slice (some ⟨rb, 0, none⟩) 1 cap)).setOther ⟨w.heap.size + 1, 0, none⟩ (by simp <;> omega) (.int .i64 0)
  have zx0 := ((cell_setOther _ ⟨w.heap.size + 1, 0, none⟩ (.int .i64 0) rb 0 (by simp <;> omega)).trans ((cell_setOther _ ⟨w.heap.size + 1, 3, none⟩ (.slice (some ⟨rb, 0, none⟩) 1 cap) rb 0 (by simp <;> omega)).trans ((cell_setOther w7 ⟨w.heap.size + 1, 2, none⟩ (.bool true) rb 0 (by simp <;> omega)).trans hx0)))
  have zx1 := ((cell_setOther _ ⟨w.heap.size + 1, 0, none⟩ (.int .i64 0) rb 1 (by simp <;> omega)).trans ((cell_setOther _ ⟨w.heap.size + 1, 3, none⟩ (.slice (some ⟨rb, 0, none⟩) 1 cap) rb 1 (by simp <;> omega)).trans ((cell_setOther w7 ⟨w.heap.size + 1, 2, none⟩ (.bool true) rb 1 (by simp <;> omega)).trans hx1)))
  have zO := (((((Only.of_below (F := fun x => x = n + 1 ∨ x = n + 2 ∨ x = n + 3) hb).drew.trans hO7 (fun _ _ h => h)).set ⟨w.heap.size + 1, 2, none⟩ (fun h => by simp at h; omega) (.bool true)).set ⟨w.heap.size + 1, 3, none⟩ (fun h => by simp at h; omega) (.slice (some ⟨rb, 0, none⟩) 1 cap)).set ⟨w.heap.size + 1, 0, none⟩ (fun h => by simp at h; omega) (.int .i64 0))
  generalize ((w7.setCell ⟨w.heap.size + 1, 2, none⟩ (.bool true)).setCell ⟨w.heap.size + 1, 3, none⟩ (.slice (some ⟨rb, 0, none⟩) 1 cap)).setCell ⟨w.heap.size + 1, 0, none⟩ (.int .i64 0) = w9 at *
  have zc1 := z1.cell
  have zc0 := z0.cell
  have zf0 := z0.frz
  clear hO7 hB7 hx0 hx1 hr7 hrc hrf k0 k1 k2 hcb1 hdo hFd hcbd hkd hS
  go_wp2
  refine bodyPost_ret (v := .agg #[.int .i64 0, .int .i64 0, .bool true, .slice (some ⟨rb, 0, none⟩) 1 cap, .int .i64 0]) (by simp [results, Tryz.results33, go_sem, zc0, zf0]) rfl ⟨rb, cap, cl, rfl, by omega, ?_, ?_, ?_, ?_⟩
  · repeat (first | exact zO | refine Only.set ?_ _ (fun h => by simp at h) _)
  · repeat (first | exact zB | refine Blk.setOther ?_ _ (by simp <;> omega) _)
  · repeat rw [cell_setOther _ _ _ _ _ (by simp <;> omega)]
    exact zx0
  · repeat rw [cell_setOther _ _ _ _ _ (by simp <;> omega)]
    exact zx1
end Go.Proofs.YtbheebpfbabffaaGreat.Mach

