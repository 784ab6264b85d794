/- The machine's Apply at the example. -/
import Derived.Test.YtlldcoldnojbjaaGreatDoorMach11
namespace Go.Proofs.YtlldcoldnojbjaaGreatDoor.Mach
open Go.RowKit Go

/-- The command of the example; a reply that says nothing. -/
abbrev cmdC (cb : Nat) : Array Value := #[.int .i64 0, .int .i64 0, .int .i64 0, .slice none 0 0, .slice (some ⟨cb, 0, none⟩) 1 1, .slice none 0 0, .int .i64 0, .int .i64 0, .int .i64 0, .int .i64 0]
abbrev rep0 : Array Value := #[.int .i64 0, .int .i64 0, .bool false, .slice none 0 0, .int .i64 0]

set_option maxHeartbeats 1000000 in
set_option maxRecDepth 100000 in
theorem does_a (cb : Nat) (w : World) : Calls Tryz.prog 32 #[.agg (cmdC cb)] w fun e w' => e = .returned (.iface 126 (.agg #[.slice none 0 0, .slice (some ⟨cb, 0, none⟩) 1 1, .slice none 0 0])) ∧ Below w.heap.size w w' := by
  go_enter Tryz.func32, Tryz.ntmps32
  go_wp2
  go_ret
  exact ⟨rfl, bmore (Below.refl _ _) _⟩

set_option maxHeartbeats 1000000 in
set_option maxRecDepth 100000 in
theorem ask_0 (n : Nat) (w : World) (htb : Blk w (n + 7) #[.map (some (n + 6))]) (hfm : Mp w (n + 6) #[]) : Calls Tryz.prog 30 #[.pointer (some ⟨n + 7, 0, none⟩), .int .i64 0, .int .i64 0] w fun e w' => e = .returned (.tuple #[.agg rep0, .bool true]) ∧ Below w.heap.size w w' := by
  have hc := htb.cell
  have hl := htb.lt
  go_enter Tryz.func30, Tryz.ntmps30
  go_wp2_with (at_lookup; refine wpList_look_run rfl _ _ _ _ rfl (run_look_none_int Tryz.underlying117 Tryz.underlying3 (zero_row _) (hfm.alloc _) _ _) ?_)
  exact bodyPost_ret (v := .tuple #[.agg rep0, .bool true]) (by simp [results, Tryz.results30, go_sem]) rfl ⟨rfl, bmore (bmore (Below.refl _ _) _) _⟩

set_option maxHeartbeats 1000000 in
set_option maxRecDepth 100000 in
theorem rev_a (b : Nat) (v : Value) (w : World) (h : w.cell? ⟨b, 0, none⟩ = some v) : Calls Tryz.prog 14 #[.pointer (some ⟨b, 0, none⟩)] w fun e w' => e = .returned v ∧ w = w' := by
  go_enter Tryz.func14, Tryz.ntmps14
  go_wp2
  go_ret
  exact ⟨rfl, rfl⟩

set_option maxHeartbeats 1000000 in
set_option maxRecDepth 100000 in
theorem note_0 (t : Value) (r : Array Value) (hr : r.size = 5) (w : World) (n : Nat) (htb : Blk w (n + 7) #[.map (some (n + 6))]) (hfm : Mp w (n + 6) #[]) : Calls Tryz.prog 34 #[.pointer (some ⟨n + 7, 0, none⟩), .int .i64 0, .int .i64 0, .agg r] w fun e w' => e = .returned (.tuple #[]) ∧ Below w.heap.size w w' := by
  go_enter Tryz.func34, Tryz.ntmps34
  go_wp2_with fail
  go_at_call 30
  refine (ask_0 n _ (htb.alloc _) (hfm.alloc _)).mono ?_
  rintro e w2 ⟨rfl, hb2⟩
  have hbel := bthen (bmore (Below.refl _ _) _) hb2
  go_wp2
  go_end0
  exact ⟨rfl, bmore hbel _⟩

/-- The machine's own block. -/
abbrev mC (n : Nat) : Array Value := #[.iface 53 (.pointer (some ⟨n + 3, 0, none⟩)), .iface 72 (.pointer (some ⟨n + 5, 0, none⟩)), .iface 74 (.pointer (some ⟨n + 7, 0, none⟩)), .int .i64 0]
set_option maxRecDepth 100000 in
theorem store_m (w : World) (n : Nat) (h : Blk w n (mC n)) : Calls Tryz.prog 33 #[.pointer (some ⟨n, 0, none⟩)] w fun e w' => e = .returned (.pointer (some ⟨n + 3, 0, none⟩)) ∧ w = w' := by
  have hta := ta_s
  have hc := h.cell
  clear h
  go_enter Tryz.func33, Tryz.ntmps33
  go_wp2
  go_ret
  exact ⟨rfl, rfl⟩
set_option maxRecDepth 100000 in
theorem book_m (w : World) (n : Nat) (h : Blk w n (mC n)) : Calls Tryz.prog 51 #[.pointer (some ⟨n, 0, none⟩)] w fun e w' => e = .returned (.pointer (some ⟨n + 5, 0, none⟩)) ∧ w = w' := by
  have hta := ta_b
  have hc := h.cell
  clear h
  go_enter Tryz.func51, Tryz.ntmps51
  go_wp2
  go_ret
  exact ⟨rfl, rfl⟩
set_option maxRecDepth 100000 in
theorem table_m (w : World) (n : Nat) (h : Blk w n (mC n)) : Calls Tryz.prog 29 #[.pointer (some ⟨n, 0, none⟩)] w fun e w' => e = .returned (.pointer (some ⟨n + 7, 0, none⟩)) ∧ w = w' := by
  have hta := ta_t
  have hc := h.cell
  clear h
  go_enter Tryz.func29, Tryz.ntmps29
  go_wp2
  go_ret
  exact ⟨rfl, rfl⟩
set_option maxRecDepth 100000 in
theorem mstore_m (w : World) (n : Nat) (h : Blk w n (mC n)) : Calls Tryz.prog 13 #[.pointer (some ⟨n, 0, none⟩)] w fun e w' => e = .returned (.pointer (some ⟨n + 3, 0, none⟩)) ∧ w = w' := by
  go_enter Tryz.func13, Tryz.ntmps13
  go_wp2_with fail
  go_at_call 33
  refine (store_m w n h).mono ?_
  rintro e w' ⟨rfl, rfl⟩
  go_wp2
  go_ret
  exact ⟨rfl, rfl⟩
theorem ta_tr (v : Value) (w : World) : Sem.run Tryz.prog (Instr.typeAssert (.iface 126 v) 87 126 true) w = .ok (.tuple #[v, .bool true]) w := by kernel_rfl
end Go.Proofs.YtlldcoldnojbjaaGreatDoor.Mach
