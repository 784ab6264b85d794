/- The write's Put at the example; txn.told. -/
import Derived.Test.YtlldcoldnojbjaaGreatDoorMach7
namespace Go.Proofs.YtlldcoldnojbjaaGreatDoor.Mach
open Go.RowKit Go

/-- What Put leaves. -/
def PutPost (n q : Nat) (w w' : World) : Prop := ∃ cap lb, w.heap.size ≤ lb ∧ Only (fun k => k = q ∨ k = q + 1) w w' ∧ Blk w' (q + 1) #[.pointer (some ⟨n + 3, 0, none⟩), .slice (some ⟨lb, 0, none⟩) 1 cap, .map (some q), .int .i64 1] ∧ w'.cell? ⟨lb, 0, none⟩ = some putV

set_option maxHeartbeats 4000000 in
set_option maxRecDepth 100000 in
theorem put_a (n q : Nat) (w : World) (h : Opened w n q) : Calls Tryz.prog 97 #[.pointer (some ⟨q + 1, 0, none⟩), .string ⟨#[97]⟩, .string ⟨#[120]⟩, .int .i64 0] w fun e w' => e = .returned (.int .i64 0) ∧ PutPost n q w w' := by
  have hc := h.wr.cell
  have hl := h.wr.lt
  go_enter Tryz.func97, Tryz.ntmps97
  go_wp2_with (first
    | fail
    | (at_lookup; refine wpList_look_run rfl _ _ _ _ rfl (run_look_none Tryz.underlying203 Tryz.underlying9 (zero_ch _) h.by0 _ _) ?_))
  go_at_call 101
  refine (now_a n q _ _ h).mono ?_
  unfold kv0
  rintro e w5 ⟨rfl, hb5⟩
  have h2 := h.keep hb5
  have hc2 := h2.wr.cell
  have hl2 := h2.wr.lt
  clear hc hl
  go_wp2_with fail
  go_at_call 98
  have h3 := h2.keep (bmore (Below.refl _ _) (.cells #[.string ⟨#[]⟩, .string ⟨#[]⟩, .int .i64 0, .int .i64 0, .int .i64 0, .int .i64 0] 82))
  refine (closed_a n q _ h3).mono ?_
  rintro e w' ⟨rfl, rfl⟩
  have hs2 := h2.st.cell
  have hsl := h2.st.lt
  have hf2 := h2.wr.frz
  go_wp2_with fail
  go_at_call 104
  have k1 := h2.wr.setCell 3 (.int .i64 1)
  simp at k1
  have hO : Only (fun k => k = q ∨ k = q + 1) w (w5.setCell ⟨q + 1, 3, none⟩ (.int .i64 1)) := (Only.of_below hb5).set _ (fun _ => .inr rfl) _
  refine (lay_a n q 1 _ ⟨(h2.by0.setOther ⟨q + 1, 3, none⟩ (by simp) _).alloc _, k1.alloc _⟩).mono ?_
  rintro e w7 ⟨rfl, cap, lb, hlb, hO7, hB7, hx7⟩
  have HF : Hid (PutPost n q w w7) := ⟨cap, lb, by simp [World.setCell] at hlb; have := hb5.size; omega, (hO.alloc _).trans hO7 (fun _ _ h => h), hB7, hx7⟩
  clear hlb hO7 hB7 hx7
  go_wp2
  go_ret
  exact ⟨rfl, HF⟩

/-- What told leaves. -/
def ToldPost (n q : Nat) (w w' : World) : Prop := PutPost n q w w'
set_option maxHeartbeats 4000000 in
set_option maxRecDepth 100000 in
theorem told_a (n q : Nat) (w : World) (h : Opened w n q) : Calls Tryz.prog 70 #[.pointer (some ⟨q + 1, 0, none⟩), .agg #[.int .i64 0, .string ⟨#[97]⟩, .string ⟨#[]⟩, .string ⟨#[120]⟩, .int .i64 0, .int .i64 0]] w fun e w' => e = .returned (.tuple #[.agg #[.int .i64 0, .slice none 0 0], .int .i64 0, .int .i64 0]) ∧ ToldPost n q w w' := by
  go_enter Tryz.func70, Tryz.ntmps70
  go_wp2_with fail
  go_at_call 74
  have h1 := (h.keep (bmore (Below.refl _ _) (.cells #[.int .i64 0, .string ⟨#[97]⟩, .string ⟨#[]⟩, .string ⟨#[120]⟩, .int .i64 0, .int .i64 0] 41))).keep (bmore (Below.refl _ _) (.cells #[.int .i64 0, .slice none 0 0] 79))
  refine (wrange_a n q _ _ h1).mono ?_
  rintro e w2 ⟨rfl, hb2⟩
  have h2 := h1.keep hb2
  have k0 : Blk w2 w.heap.size _ := ((Blk.newAt rfl).alloc _).keep hb2
  have k1 : Blk w2 (w.heap.size + 1) _ := (Blk.newAt (by simp)).keep hb2
  have hbel := bthen (bmore (bmore (Below.refl _ _) _) _) hb2
  have hql := h.wr.lt
  have hz := k1.lt
  have hc0 := k0.cell
  clear hb2
  go_wp2_with fail
  go_at_call 97
  refine (put_a n q _ h2).mono ?_
  rintro e w7 ⟨rfl, cap, lb, hlb, hO7, hB7, hx7⟩
  have k2 := k1.only hO7 (by omega)
  have hc2 := k2.cell
  have hf2 := k2.frz
  have hO := (Only.of_below (F := fun k => k = q ∨ k = q + 1) hbel).trans hO7 (fun _ _ h => h)
  clear hc0
  go_wp2
  refine bodyPost_ret (v := .tuple #[.agg #[.int .i64 0, .slice none 0 0], .int .i64 0, .int .i64 0]) (by simp [results, Tryz.results70, go_sem, hc2, hf2]) rfl ⟨rfl, cap, lb, by omega, ?_, ?_, ?_⟩
  · exact (hO.set _ (fun h => by simp at h; omega) _).set _ (fun h => by simp at h; omega) _
  · exact (hB7.setOther _ (by simp; omega) _).setOther _ (by simp; omega) _
  · rw [cell_setOther _ _ _ _ _ (by simp; omega), cell_setOther _ _ _ _ _ (by simp; omega)]
    exact hx7
end Go.Proofs.YtlldcoldnojbjaaGreatDoor.Mach
