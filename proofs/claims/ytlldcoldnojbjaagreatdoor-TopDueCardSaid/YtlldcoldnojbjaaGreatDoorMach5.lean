/- The write's now. -/
import Derived.Test.YtlldcoldnojbjaaGreatDoorMach4
namespace Go.Proofs.YtlldcoldnojbjaaGreatDoor.Mach
open Go.RowKit Go

set_option maxHeartbeats 8000000 in
set_option maxRecDepth 100000 in
theorem now_a (n q : Nat) (k : ByteArray) (w : World) (h : Opened w n q) : Calls Tryz.prog 101 #[.pointer (some ⟨q + 1, 0, none⟩), .string k] w fun e w' => e = .returned (.tuple #[.agg kv0, .bool false]) ∧ Below w.heap.size w w' := by
  have hc := h.wr.cell
  have hl := h.wr.lt
  go_enter Tryz.func101, Tryz.ntmps101
  go_wp2_with (at_lookup; refine wpList_look_run rfl _ _ _ _ rfl (run_look_none Tryz.underlying203 Tryz.underlying9 (zero_ch _) (h.by0.alloc _) _ _) ?_)
  have h2 := h.keep (bmore (Below.refl _ _) (.cells #[.string ⟨#[]⟩, .string ⟨#[]⟩, .int .i64 0, .int .i64 0, .int .i64 0, .int .i64 0] 82))
  have hN : Blk (w.alloc (.cells #[.string ⟨#[]⟩, .string ⟨#[]⟩, .int .i64 0, .int .i64 0, .int .i64 0, .int .i64 0] 82)) w.heap.size _ := Blk.newAt rfl
  have hb := bmore (Below.refl w.heap.size w) (.cells #[.string ⟨#[]⟩, .string ⟨#[]⟩, .int .i64 0, .int .i64 0, .int .i64 0, .int .i64 0] 82)
  generalize w.alloc (.cells #[.string ⟨#[]⟩, .string ⟨#[]⟩, .int .i64 0, .int .i64 0, .int .i64 0, .int .i64 0] 82) = wa at *
  have hs2 := h2.st.cell
  have hc2 := h2.wr.cell
  clear hc hl
  go_region_with (go_at_call 120; refine (at_a (n + 3) (n + 2) k 0 0 0 0 _ _ _ h2.st.drew h2.vs.drew).mono ?_; unfold kv0; rintro e w5 ⟨rfl, hb5⟩; have hN5 := (hN.drew.keep hb5).cell; have hF5 := (hN.drew.keep hb5).frz)
  all_goals (
    go_wp2
    refine bodyPost_ret (v := .tuple #[.agg kv0, .bool false]) (by simp [results, Tryz.results101, go_sem, kv0, hN5, hF5]) rfl ⟨rfl, ?_⟩
    have hfin := bthen hb.drew hb5
    repeat (first | exact hfin | refine bset ?_ (Nat.le_refl _) _))
end Go.Proofs.YtlldcoldnojbjaaGreatDoor.Mach
