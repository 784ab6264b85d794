/- folk: Note. -/
import Derived.Test.YtbheebpfbabffaaGreatVR
set_option linter.unusedSimpArgs false
set_option linter.unusedVariables false
namespace Go.Proofs.YtbheebpfbabffaaGreat.Wat
open Go.RowKit Go Go.Lib Mach Go.MapKept

theorem Table.ne {H : Nat → Prop} {w : World} {tb tm : Nat} {rows : List MapEntry} (h : Table w tb tm rows H) : tb ≠ tm := fun e => by
  obtain ⟨t, h1⟩ := h.1
  obtain ⟨c, h2, -⟩ := h.2.1
  rw [e, h2] at h1
  cases h1
/-- What becomes of a table. -/
def TablePost (w : World) (tb tm : Nat) (H : Nat → Prop) (w' : World) : Prop := Only (fun y => y = tm) w w' ∧ ∃ rows', Table w' tb tm rows' H
theorem table_upd {H : Nat → Prop} {w w1 : World} {tb tm : Nat} {rows l' : List MapEntry} {id : Int} {cl sq er rv t : Int} {th : Bool} {v : Value} {rs : Rs} {q : Nat} (h : Table w tb tm rows H) (hH : ∀ y, H y → y < w.heap.size) (hT : H tm) (k : Below w.heap.size w w1)
    (hM : MapK (setMap w1 tm l'.toArray q) (.int .i64) tm l') (hU : Upd rows (.int .i64 id) (.agg #[.int .i64 cl, .int .i64 sq, .int .i64 er, .int .i64 rv, .bool th, v, .int .i64 t]) l') (hR : Ress w1 w.heap.size v rs) (hn : rs.length ≤ 32) (hr : rows.length < 64 ∨ ∃ e ∈ rows, e.key = .int .i64 id) :
    TablePost w tb tm H (setMap w1 tm l'.toArray q) := by
  have hO : Only (fun y => y = tm) w (setMap w1 tm l'.toArray q) := Only.map (F := fun y => y = tm) (Only.of_below k) tm (fun _ => rfl) _ _
  have hO1 : Only (fun y => y = tm) w1 (setMap w1 tm l'.toArray q) := Only.map (F := fun y => y = tm) (Only.refl _ _) tm (fun _ => rfl) _ _
  have htm := h.2.1.lt
  refine ⟨hO, l', h.1.only hO h.ne, hM, ?_, fun e he => ?_⟩
  · rcases hr with hr | hr
    · have := hU.len; omega
    · rw [hU.same hr]; exact h.2.2.1
  · rcases hU.val e he with h' | ⟨-, h'⟩
    · obtain ⟨cl, sq, er, rv, t, th, v, rs, hv, hR, hn, hHH⟩ := h.2.2.2 e h'
      exact ⟨cl, sq, er, rv, t, th, v, rs, hv, hR.only hO (fun y hy e => hHH y hy (e ▸ hT)), hn, hHH⟩
    · exact ⟨cl, sq, er, rv, t, th, v, rs, h', (hR.only hO1 (fun y hy e => by have := (hR.lt y hy).1; omega)).base (Nat.zero_le _), hn, fun y hy hh => by have := (hR.lt y hy).1; have := hH y hh; omega⟩

set_option maxHeartbeats 8000000 in
set_option maxRecDepth 100000 in
theorem fnote_f {H : Nat → Prop} {w : World} {tb tm b0 : Nat} {rows : List MapEntry} {v : Value} {rs : Rs} (h : Table w tb tm rows H) (hH : ∀ y, H y → y < w.heap.size) (hT : H tm) (hR : Ress w b0 v rs) (hn : rs.length ≤ 32) (client seq er rv t : Int) (th : Bool) :
    Calls Tryz.prog 35 #[Ptr tb, .int .i64 client, .int .i64 seq, .agg #[.int .i64 er, .int .i64 rv, .bool th, v, .int .i64 t]] w fun e w' => e = .returned (.tuple #[]) ∧ TablePost w tb tm H w' := by
  obtain ⟨a, c, rfl⟩ := hR.shape
  have hN : Aside _ := hn
  clear hn
  obtain ⟨wA, hwA⟩ : ∃ wA, wA = w.alloc (.cells #[.int .i64 er, .int .i64 rv, .bool th, .slice a rs.length c, .int .i64 t] 46) := ⟨_, rfl⟩
  have hbA : Below w.heap.size w wA := by rw [hwA]; exact bmore (Below.refl _ _) _
  have hA : Blk wA w.heap.size #[.int .i64 er, .int .i64 rv, .bool th, .slice a rs.length c, .int .i64 t] := by rw [hwA]; exact Blk.new _ _ _
  go_enter Tryz.func35, Tryz.ntmps35
  go_wp2_with fail
  go_at_call 32
  rw [← hwA]
  clear hwA
  refine (ask_f (h.keep hbA) client seq).mono ?_
  rintro e w1 ⟨⟨er1, rv1, t1, th1, fresh, a1, n1, c1, rfl, hfr⟩, hb1⟩
  have HF : Aside _ := hfr
  clear hfr
  have hbw := bthen hbA hb1
  have hst : ∀ o, TablePost w tb tm H (w1.alloc o) := fun o => ⟨Only.of_below (bmore hbw o), rows, h.keep (bmore hbw o)⟩
  cases hc0 : (client != 0) with
  | false =>
    go_wp2
    go_end0
    exact ⟨rfl, hst _⟩
  | true =>
    cases fresh with
    | false =>
      go_wp2
      go_end0
      exact ⟨rfl, hst _⟩
    | true =>
      have hne : client ≠ 0 := by simpa using hc0
      have HE : Aside _ := HF.out rfl hne
      clear hne HF
      go_wp2_with fail
      obtain ⟨wB, hwB⟩ : ∃ wB, wB = w1.alloc (.cells #[.int .i64 er1, .int .i64 rv1, .bool th1, .slice a1 n1 c1, .int .i64 t1] 46) := ⟨_, rfl⟩
      have hbB : Below w.heap.size w wB := by rw [hwB]; exact bmore hbw _
      have gA : Blk wB w.heap.size #[.int .i64 er, .int .i64 rv, .bool th, .slice a rs.length c, .int .i64 t] := by rw [hwB]; exact (hA.keep hb1).alloc _
      have hT2 := h.keep hbB
      have q1 : ∀ o, wB.drew.cell? ⟨tb, o, none⟩ = _ := hT2.1.cell
      have q2 : ∀ o, wB.drew.cell? ⟨w.heap.size, o, none⟩ = _ := gA.cell
      have q3 := hT2.1.cell
      have q4 := gA.cell
      have hMB := hT2.2.1.drew
      have htw := twin_f (w := wB.drew) (hR.keep hbB.drew) (Nat.le_trans hN.out (by omega)) er rv t th
      rw [← hwB]
      clear hwB
      go_region_with (go_at_call 72; refine htw.mono ?_; rintro e w5 ⟨⟨v', rs', rfl, hl', hR'⟩, hb5⟩; obtain ⟨a', c', rfl⟩ := hR'.shape; have HL : Aside _ := hl'; clear hl'; have hT5 := (hT2.1.drew.keep hb5).cell; have hA5 := (gA.drew.keep hb5).cell; have hM5 := hMB.keep hb5; obtain ⟨f, q, hu, hM, hU⟩ := upd_maps Tryz.underlying162 Tryz.underlying3 (key := .int .i64 client) rfl hM5)
      all_goals (go_end0; exact ⟨rfl, table_upd h hH hT (bthen hbB.drew hb5) (hM _) (hU _) (hR'.base hbB.drew.size) (by rw [HL.out]; exact hN.out) HE.out⟩)
end Go.Proofs.YtbheebpfbabffaaGreat.Wat

