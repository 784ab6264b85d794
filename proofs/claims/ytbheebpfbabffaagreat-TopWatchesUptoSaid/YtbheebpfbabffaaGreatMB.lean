/- Joined: a part of the proof of TopWatches. -/
import Derived.Test.YtbheebpfbabffaaGreatMach4
set_option linter.unusedSimpArgs false
set_option linter.unusedVariables false
namespace Go.Proofs.YtbheebpfbabffaaGreat.Mach
open Go.RowKit Go

set_option maxHeartbeats 8000000 in
set_option maxRecDepth 100000 in
theorem now_a (n q : Nat) (k : ByteArray) (w : World) (h : Opened w n q) : Calls Tryz.prog 155 #[.pointer (some ⟨q + 1, 0, none⟩), .string k] w fun e w' => e = .returned (.tuple #[.agg kv0, .bool false]) ∧ Below w.heap.size w w' := by
  have hc := h.wr.cell
  have hl := h.wr.lt
  go_enter Tryz.func155, Tryz.ntmps155
  go_wp2_with (at_lookup; refine wpList_look_run rfl _ _ _ _ rfl (run_look_none Tryz.underlying278 Tryz.underlying9 (zero_ch _) (h.by0.alloc _) _ _) ?_)
  have h2 := h.keep (bmore (Below.refl _ _) (.cells #[.string ⟨#[]⟩, .string ⟨#[]⟩, .int .i64 0, .int .i64 0, .int .i64 0, .int .i64 0] 51))
  have hN : Blk (w.alloc (.cells #[.string ⟨#[]⟩, .string ⟨#[]⟩, .int .i64 0, .int .i64 0, .int .i64 0, .int .i64 0] 51)) w.heap.size _ := Blk.newAt rfl
  have hb := bmore (Below.refl w.heap.size w) (.cells #[.string ⟨#[]⟩, .string ⟨#[]⟩, .int .i64 0, .int .i64 0, .int .i64 0, .int .i64 0] 51)
  generalize w.alloc (.cells #[.string ⟨#[]⟩, .string ⟨#[]⟩, .int .i64 0, .int .i64 0, .int .i64 0, .int .i64 0] 51) = wa at *
  have hs2 := h2.st.cell
  have hc2 := h2.wr.cell
  clear hc hl
  go_region_with (go_at_call 70; refine (at_a (n + 3) (n + 2) k 0 0 0 0 _ _ _ h2.st.drew h2.vs.drew).mono ?_; unfold kv0; rintro e w5 ⟨rfl, hb5⟩; have hN5 := (hN.drew.keep hb5).cell; have hF5 := (hN.drew.keep hb5).frz)
  all_goals (
    go_wp2
    refine bodyPost_ret (v := .tuple #[.agg kv0, .bool false]) (by simp [results, Tryz.results155, go_sem, kv0, hN5, hF5]) rfl ⟨rfl, ?_⟩
    have hfin := bthen hb.drew hb5
    repeat (first | exact hfin | refine bset ?_ (Nat.le_refl _) _))
end Go.Proofs.YtbheebpfbabffaaGreat.Mach

namespace Go.Proofs.YtbheebpfbabffaaGreat.Mach
open Go.RowKit Go

set_option maxRecDepth 100000 in
theorem skeys_a (v : Value) (k : ByteArray) (w : World) : Calls Tryz.prog 69 #[v, .string k, .string ⟨#[]⟩] w fun e w' => e = .returned (.slice (some ⟨w.heap.size, 0, none⟩) 1 1) ∧ w' = w.alloc (.cells #[.string k] 9) := by
  go_enter Tryz.func69, Tryz.ntmps69
  go_wp2
  go_ret
  exact ⟨rfl, rfl⟩

set_option maxRecDepth 100000 in
theorem wkeys_a (n q : Nat) (k : ByteArray) (w : World) (h : Opened w n q) : Calls Tryz.prog 154 #[.pointer (some ⟨q + 1, 0, none⟩), .string k, .string ⟨#[]⟩] w fun e w' => e = .returned (.slice (some ⟨w.heap.size, 0, none⟩) 1 1) ∧ w' = w.alloc (.cells #[.string k] 9) := by
  have hc := h.wr.cell
  go_enter Tryz.func154, Tryz.ntmps154
  go_wp2_with fail
  go_at_call 69
  refine (skeys_a _ _ _).mono ?_
  rintro e w' ⟨rfl, rfl⟩
  go_wp2_with fail
  go_at_call 172
  refine (sort_1 _ _).mono ?_
  rintro e w' ⟨rfl, rfl⟩
  go_wp2_with fail
  go_at_call 173
  refine (compact_1 _ _).mono ?_
  rintro e w' ⟨rfl, rfl⟩
  go_wp2
  go_ret
  exact ⟨rfl, rfl⟩

set_option maxHeartbeats 1000000 in
set_option maxRecDepth 100000 in
theorem wrange_a (n q : Nat) (k : ByteArray) (w : World) (h : Opened w n q) : Calls Tryz.prog 122 #[.pointer (some ⟨q + 1, 0, none⟩), .string k, .string ⟨#[]⟩, .int .i64 0] w fun e w' => e = .returned (.tuple #[.slice none 0 0, .int .i64 0]) ∧ Below w.heap.size w w' := by
  go_enter Tryz.func122, Tryz.ntmps122
  go_wp2_with fail
  go_at_call 154
  refine (wkeys_a n q _ _ h).mono ?_
  rintro e w' ⟨rfl, rfl⟩
  have h2 := h.keep (bmore (Below.refl _ _) (.cells #[.string k] 9))
  have hN : Blk (w.alloc (.cells #[.string k] 9)) w.heap.size _ := Blk.newAt rfl
  have hb := bmore (Below.refl w.heap.size w) (.cells #[.string k] 9)
  generalize w.alloc (.cells #[.string k] 9) = wa at *
  have hNc := hN.cell
  go_wp2
  refine wp_loop_rounds 2 ?_
  rw [rounds_succ]
  go_wp2_with fail
  go_at_call 155
  refine (now_a n q _ _ h2).mono ?_
  unfold kv0
  rintro e w5 ⟨rfl, hb5⟩
  have hb6 := bthen hb hb5
  clear hNc hb hb5
  go_wp2
  rw [rounds_succ]
  go_wp2
  go_ret2
  exact ⟨rfl, bmore hb6 _⟩
end Go.Proofs.YtbheebpfbabffaaGreat.Mach

