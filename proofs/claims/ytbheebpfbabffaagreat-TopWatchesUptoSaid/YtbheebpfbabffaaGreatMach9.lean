/- The index: a key laid into an empty tree. -/
import Derived.Deep.QuietTactic
import Derived.BigQuiet
import Derived.Test.YtbheebpfbabffaaGreatMC
set_option linter.unusedSimpArgs false
set_option linter.unusedVariables false
namespace Go.Proofs.YtbheebpfbabffaaGreat.Mach
open Go.RowKit Go

set_option maxRecDepth 100000 in
theorem find_n (n : Nat) (k : ByteArray) (w : World) (h : Blk w (n + 1) #[.pointer none, .int .i64 0]) : Calls Tryz.prog 162 #[.pointer (some ⟨n + 1, 0, none⟩), .string k] w fun e w' => e = .returned (.pointer none) ∧ w = w' := by
  have hc := h.cell
  go_enter Tryz.func162, Tryz.ntmps162
  go_wp2
  refine wp_loop_rounds 1 ?_
  rw [rounds_succ]
  go_wp2
  go_ret
  exact ⟨rfl, rfl⟩

set_option maxHeartbeats 2000000 in
set_option maxRecDepth 100000 in
theorem place_0 (b : Nat) (k : ByteArray) (w : World) (h : Blk w b #[.slice none 0 0, .slice none 0 0]) : Calls Tryz.prog 163 #[.pointer (some ⟨b, 0, none⟩), .string k] w fun e w' => e = .returned (.tuple #[.int .i64 0, .bool false]) ∧ Below w.heap.size w w' := by
  have hc := h.cell
  have hl := h.lt
  go_enter Tryz.func163, Tryz.ntmps163
  go_wp2_with fail
  go_at_call 36
  refine (search_0 _ _).mono ?_
  rintro e w' ⟨rfl, rfl⟩
  go_wp2_with fail
  go_quiet (fail)
  go_wp2
  go_ret2
  exact ⟨rfl, below_drewN (bmore (bmore (Below.refl _ _) _) _) _⟩

theorem info_it : (Tryz.prog.info? 262).map (fun i => (i.zero, i.size, i.bytes)) = some (some (.pointer none), 1, 8) := by kernel_rfl

/-- What Insert onto nil leaves. -/
def InsPost (p : Value) (w : World) (e : Ending) (w' : World) : Prop := ∃ ib cap, e = .returned (.slice (some ⟨ib, 0, none⟩) 1 cap) ∧ Below w.heap.size w w'
set_option maxHeartbeats 2000000 in
set_option maxRecDepth 100000 in
theorem sinsert_n (b : Nat) (p : Value) (hp : p.oneCell' = true) (w : World) (h : w.cell? ⟨b, 0, none⟩ = some p) : Calls Tryz.prog 200 #[.slice none 0 0, .int .i64 0, .slice (some ⟨b, 0, none⟩) 1 1] w (InsPost p w) := by
  obtain ⟨i0, hi0, hz0, hz1, hz2⟩ := info_parts info_it
  go_enter Tryz.func200, Tryz.ntmps200
  go_wp2_with (at_builtin; refine wpList_append_nil rfl _ _ 294 rfl 262 i0 (.pointer none) 1 8 Tryz.underlying294 hi0 hz0 hz1 hz2 rfl (by decide) rfl ⟨b, 0, none⟩ 1 1 [p] rfl rfl ?c1 ?c2 (by decide) (by decide) (by decide) w.heap.size rfl ?_)
  case c1 =>
    intro j u hj
    match j, hj with
    | 0, hj => simp at hj; subst hj; simpa [Addr.add] using h
  case c2 => intro u hu; simp at hu; subst hu; exact hp
  intro cap w1 hM
  have hb := hM.below
  clear hM
  go_wp2
  go_ret
  exact ⟨_, cap, rfl, hb⟩

set_option maxHeartbeats 2000000 in
set_option maxRecDepth 100000 in
theorem split_1 (b ib cap : Nat) (w : World) (h : Blk w b #[.slice (some ⟨ib, 0, none⟩) 1 cap, .slice none 0 0]) : Calls Tryz.prog 201 #[.pointer (some ⟨b, 0, none⟩)] w fun e w' => e = .returned (.tuple #[.pointer none, .pointer none]) ∧ w = w' := by
  have hc := h.cell
  go_enter Tryz.func201, Tryz.ntmps201
  go_wp2
  go_ret2
  exact ⟨rfl, rfl⟩

set_option maxHeartbeats 2000000 in
set_option maxRecDepth 100000 in
theorem ninsert_a (nb it : Nat) (k : ByteArray) (w : World) (h : Blk w nb #[.slice none 0 0, .slice none 0 0]) (hk : w.cell? ⟨it, 0, none⟩ = some (.string k)) (hit : it < w.heap.size) :
    Calls Tryz.prog 178 #[.pointer (some ⟨nb, 0, none⟩), .pointer (some ⟨it, 0, none⟩)] w fun e w' => e = .returned (.tuple #[.pointer none, .pointer none]) ∧ Only (fun x => x = nb) w w' := by
  go_enter Tryz.func178, Tryz.ntmps178
  go_wp2_with fail
  go_at_call 163
  refine (place_0 nb k _ h).mono ?_
  rintro e w2 ⟨rfl, hb2⟩
  have h2 := h.keep hb2
  have hc2 := h2.cell
  have hl2 := h2.lt
  clear hk
  go_wp2_with fail
  go_at_call 200
  refine (sinsert_n _ _ rfl _ (alloc_new _ _ _ _)).mono ?_
  rintro e w3 ⟨ib, cap, rfl, hb3⟩
  have h3 := (h2.alloc _).keep hb3
  have hc3 := h3.cell
  have hf3 := h3.frz
  have hb := bthen (bmore hb2 _) hb3
  clear hc2 hb3 hb2
  go_wp2_with fail
  have h4 := h3.setCell 0 (.slice (some ⟨ib, 0, none⟩) 1 cap)
  simp at h4
  have hO := (Only.of_below (F := fun x => x = nb) hb).set ⟨nb, 0, none⟩ (fun _ => rfl) (.slice (some ⟨ib, 0, none⟩) 1 cap)
  go_at_call 201
  refine (split_1 nb ib cap _ h4).mono ?_
  rintro e w' ⟨rfl, rfl⟩
  generalize w3.setCell ⟨nb, 0, none⟩ (.slice (some ⟨ib, 0, none⟩) 1 cap) = w4 at *
  clear hc3 hf3
  go_wp2
  go_ret2
  exact ⟨rfl, hO⟩

set_option maxHeartbeats 2000000 in
set_option maxRecDepth 100000 in
theorem add_a (n it : Nat) (k : ByteArray) (w : World) (h : Blk w (n + 1) #[.pointer none, .int .i64 0]) (hk : w.cell? ⟨it, 0, none⟩ = some (.string k)) (hit : it < w.heap.size) (hne : it ≠ n + 1) :
    Calls Tryz.prog 161 #[.pointer (some ⟨n + 1, 0, none⟩), .pointer (some ⟨it, 0, none⟩)] w fun e w' => e = .returned (.tuple #[]) ∧ Only (fun x => x = n + 1) w w' := by
  have hc := h.cell
  have hf := h.frz
  have hl := h.lt
  go_enter Tryz.func161, Tryz.ntmps161
  go_wp2_with fail
  have hO : Only (fun x => x = n + 1) w (((w.setCell ⟨n + 1, 1, none⟩ (.int .i64 1)).setCell ⟨n + 1, 0, none⟩ (.pointer (some ⟨w.heap.size, 0, none⟩))).alloc (.cells #[.slice none 0 0, .slice none 0 0] 297)) :=
    (((Only.refl (fun x => x = n + 1) w).set ⟨n + 1, 1, none⟩ (fun _ => rfl) _).set ⟨n + 1, 0, none⟩ (fun _ => rfl) _).alloc _
  have hit2 : it < ((w.setCell ⟨n + 1, 1, none⟩ (.int .i64 1)).setCell ⟨n + 1, 0, none⟩ (.pointer (some ⟨w.heap.size, 0, none⟩))).heap.size := by simpa [World.setCell] using hit
  have hB : Blk (((w.setCell ⟨n + 1, 1, none⟩ (.int .i64 1)).setCell ⟨n + 1, 0, none⟩ (.pointer (some ⟨w.heap.size, 0, none⟩))).alloc (.cells #[.slice none 0 0, .slice none 0 0] 297)) w.heap.size #[.slice none 0 0, .slice none 0 0] := Blk.newAt (by simp [World.setCell])
  have hk2 := (alloc_old _ (.cells #[.slice none 0 0, .slice none 0 0] 297) hit2 0).trans ((cell_setOther _ ⟨n + 1, 0, none⟩ (.pointer (some ⟨w.heap.size, 0, none⟩)) it 0 hne).trans ((cell_setOther w ⟨n + 1, 1, none⟩ (.int .i64 1) it 0 hne).trans hk))
  go_at_call 178
  refine (ninsert_a w.heap.size it k _ hB hk2 (by simpa using Nat.lt_succ_of_lt hit2)).mono ?_
  rintro e w3 ⟨rfl, hO3⟩
  have hO4 := hO.trans hO3 (fun x hx hx2 => by omega)
  clear hO hit2 hB hk2 hO3 hk
  go_wp2
  go_end0
  exact ⟨rfl, hO4⟩

set_option maxHeartbeats 2000000 in
set_option maxRecDepth 100000 in
theorem iput_a (n : Nat) (w : World) (h : Blk w (n + 1) #[.pointer none, .int .i64 0]) :
    Calls Tryz.prog 135 #[.pointer (some ⟨n + 1, 0, none⟩), .string ⟨#[97]⟩, .agg #[.int .i64 1, .bool false]] w fun e w' => e = .returned (.int .i64 0) ∧ Only (fun x => x = n + 1) w w' := by
  go_enter Tryz.func135, Tryz.ntmps135
  go_wp2_with fail
  go_at_call 162
  refine (find_n n _ _ (h.alloc _)).mono ?_
  rintro e w2 ⟨rfl, rfl⟩
  go_wp2_with fail
  have hl := h.lt
  go_at_call 161
  refine (add_a n (w.heap.size + 1 + 1 + 1) ⟨#[97]⟩ _ ((((h.alloc _).alloc _).alloc _).alloc _) ((Blk.newAt (by simp)).cell 0) (by simp) (by omega)).mono ?_
  rintro e w3 ⟨rfl, hO3⟩
  have hO := ((((Only.refl (fun x => x = n + 1) w).alloc _).alloc _).alloc _).alloc _ |>.trans hO3 (fun _ _ h => h)
  clear hO3
  go_wp2
  go_ret
  exact ⟨rfl, hO⟩
end Go.Proofs.YtbheebpfbabffaaGreat.Mach

