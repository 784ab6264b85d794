/- The write's keys and Range at the example. -/
import Derived.Test.YtlldcoldnojbjaaGreatDoorMach5
namespace Go.Proofs.YtlldcoldnojbjaaGreatDoor.Mach
open Go.RowKit Go

set_option maxRecDepth 100000 in
theorem skeys_a (v : Value) (k : ByteArray) (w : World) : Calls Tryz.prog 119 #[v, .string k, .string ⟨#[]⟩] w fun e w' => e = .returned (.slice (some ⟨w.heap.size, 0, none⟩) 1 1) ∧ w' = w.alloc (.cells #[.string k] 9) := by
  go_enter Tryz.func119, Tryz.ntmps119
  go_wp2
  go_ret
  exact ⟨rfl, rfl⟩

set_option maxRecDepth 100000 in
theorem wkeys_a (n q : Nat) (k : ByteArray) (w : World) (h : Opened w n q) : Calls Tryz.prog 100 #[.pointer (some ⟨q + 1, 0, none⟩), .string k, .string ⟨#[]⟩] w fun e w' => e = .returned (.slice (some ⟨w.heap.size, 0, none⟩) 1 1) ∧ w' = w.alloc (.cells #[.string k] 9) := by
  have hc := h.wr.cell
  go_enter Tryz.func100, Tryz.ntmps100
  go_wp2_with fail
  go_at_call 119
  refine (skeys_a _ _ _).mono ?_
  rintro e w' ⟨rfl, rfl⟩
  go_wp2_with fail
  go_at_call 123
  refine (sort_1 _ _).mono ?_
  rintro e w' ⟨rfl, rfl⟩
  go_wp2_with fail
  go_at_call 124
  refine (compact_1 _ _).mono ?_
  rintro e w' ⟨rfl, rfl⟩
  go_wp2
  go_ret
  exact ⟨rfl, rfl⟩

set_option maxHeartbeats 1000000 in
set_option maxRecDepth 100000 in
theorem wrange_a (n q : Nat) (k : ByteArray) (w : World) (h : Opened w n q) : Calls Tryz.prog 74 #[.pointer (some ⟨q + 1, 0, none⟩), .string k, .string ⟨#[]⟩, .int .i64 0] w fun e w' => e = .returned (.tuple #[.slice none 0 0, .int .i64 0]) ∧ Below w.heap.size w w' := by
  go_enter Tryz.func74, Tryz.ntmps74
  go_wp2_with fail
  go_at_call 100
  refine (wkeys_a n q _ _ h).mono ?_
  rintro e w' ⟨rfl, rfl⟩
  have h2 := h.keep (bmore (Below.refl _ _) (.cells #[.string k] 9))
  have hN : Blk (w.alloc (.cells #[.string k] 9)) w.heap.size _ := Blk.newAt rfl
  have hb := bmore (Below.refl w.heap.size w) (.cells #[.string k] 9)
  generalize w.alloc (.cells #[.string k] 9) = wa at *
  have hNc := hN.cell
  go_wp2
  refine wp_loop_rounds 2 ?_
  rw [rounds_succ]
  go_wp2_with fail
  go_at_call 101
  refine (now_a n q _ _ h2).mono ?_
  unfold kv0
  rintro e w5 ⟨rfl, hb5⟩
  have hb6 := bthen hb hb5
  clear hNc hb hb5
  go_wp2
  rw [rounds_succ]
  go_wp2
  go_ret2
  exact ⟨rfl, bmore hb6 _⟩
end Go.Proofs.YtlldcoldnojbjaaGreatDoor.Mach
