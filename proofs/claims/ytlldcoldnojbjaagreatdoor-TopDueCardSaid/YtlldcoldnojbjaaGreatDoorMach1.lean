/- The machine's making: what each New lays, and the empty machine's getters. -/
import Derived.Test.YtlldcoldnojbjaaGreatDoorProg
import Derived.Test.YtlldcoldnojbjaaGreatDoorKit
namespace Go.Proofs.YtlldcoldnojbjaaGreatDoor.Mach
open Go.RowKit Go

/-- A block whose cells are known whole, none of them frozen. -/
def Blk (w : World) (b : Nat) (c : Array Value) : Prop := ∃ t, w.heap[b]? = some (.cells c t)
/-- A block that is a map of these entries. -/
def Mp (w : World) (b : Nat) (es : Array MapEntry) : Prop := ∃ k, w.heap[b]? = some (.map es k)

theorem Blk.cell {w : World} {b : Nat} {c : Array Value} (h : Blk w b c) (o : Nat) : w.cell? ⟨b, o, none⟩ = c[o]? := by
  obtain ⟨t, h⟩ := h
  simp [World.cell?, h]
theorem Blk.frz {w : World} {b : Nat} {c : Array Value} (h : Blk w b c) (o : Nat) : w.frozen? ⟨b, o, none⟩ = false := by
  obtain ⟨t, h⟩ := h
  simp [World.frozen?, h]
theorem Blk.lt {w : World} {b : Nat} {c : Array Value} (h : Blk w b c) : b < w.heap.size := by
  obtain ⟨t, h⟩ := h
  exact (Array.getElem?_eq_some_iff.1 h).1
theorem Mp.lt {w : World} {b : Nat} {es : Array MapEntry} (h : Mp w b es) : b < w.heap.size := by
  obtain ⟨t, h⟩ := h
  exact (Array.getElem?_eq_some_iff.1 h).1
theorem Blk.new (w : World) (c : Array Value) (t : TypeId) : Blk (w.alloc (.cells c t)) w.heap.size c := ⟨t, by show (w.heap.push _)[w.heap.size]? = _; simp⟩
theorem Blk.newAt {w : World} {c : Array Value} {t : TypeId} {b : Nat} (h : b = w.heap.size) : Blk (w.alloc (.cells c t)) b c := h ▸ Blk.new w c t
theorem Mp.new (w : World) (es : Array MapEntry) (k : Nat) : Mp (w.alloc (.map es k)) w.heap.size es := ⟨k, by show (w.heap.push _)[w.heap.size]? = _; simp⟩
theorem Blk.alloc {w : World} {b : Nat} {c : Array Value} (h : Blk w b c) (x : Obj) : Blk (w.alloc x) b c := by
  have hl := h.lt
  obtain ⟨t, h⟩ := h
  exact ⟨t, (Below.heap_alloc w x b hl).trans h⟩
theorem Mp.alloc {w : World} {b : Nat} {c : Array MapEntry} (h : Mp w b c) (x : Obj) : Mp (w.alloc x) b c := by
  have hl := h.lt
  obtain ⟨t, h⟩ := h
  exact ⟨t, (Below.heap_alloc w x b hl).trans h⟩
theorem Blk.setCell {w : World} {b : Nat} {c : Array Value} (h : Blk w b c) (o : Nat) (v : Value) : Blk (w.setCell ⟨b, o, none⟩ v) b (c.setIfInBounds o v) := by
  obtain ⟨t, h⟩ := h
  refine ⟨t, ?_⟩
  simp [World.setCell, Array.getElem?_modify, h]
theorem Blk.setOther {w : World} {b : Nat} {c : Array Value} (h : Blk w b c) (a : Addr) (hne : b ≠ a.block) (v : Value) : Blk (w.setCell a v) b c := by
  obtain ⟨t, h⟩ := h
  exact ⟨t, (Below.heap_setCell w a v b hne).trans h⟩
theorem Mp.setOther {w : World} {b : Nat} {c : Array MapEntry} (h : Mp w b c) (a : Addr) (hne : b ≠ a.block) (v : Value) : Mp (w.setCell a v) b c := by
  obtain ⟨t, h⟩ := h
  exact ⟨t, (Below.heap_setCell w a v b hne).trans h⟩
theorem Blk.keep {w w' : World} {b : Nat} {c : Array Value} (h : Blk w b c) (hb : Below w.heap.size w w') : Blk w' b c := by
  have hl := h.lt
  obtain ⟨t, h⟩ := h
  exact ⟨t, (hb.block b hl).trans h⟩
theorem Mp.keep {w w' : World} {b : Nat} {c : Array MapEntry} (h : Mp w b c) (hb : Below w.heap.size w w') : Mp w' b c := by
  have hl := h.lt
  obtain ⟨t, h⟩ := h
  exact ⟨t, (hb.block b hl).trans h⟩

theorem alloc_get (w : World) (x : Obj) (k : Nat) : (w.alloc x).heap[k]? = if k = w.heap.size then some x else w.heap[k]? := by
  show (w.heap.push x)[k]? = _
  rw [Array.getElem?_push]

theorem asz (w : World) (x : Obj) : (w.alloc x).heap.size = w.heap.size + 1 := by
  show (w.heap.push x).size = _
  rw [Array.size_push]

theorem inew (w : World) : Calls Tryz.prog 48 #[] w fun e w' => e = .returned (.pointer (some ⟨w.heap.size, 0, none⟩)) ∧ w' = w.alloc (.cells #[.pointer none, .int .i64 0] 155) := by
  go_enter Tryz.func48, Tryz.ntmps48
  go_wp2
  go_ret
  exact ⟨rfl, rfl⟩

theorem snew (w : World) : Calls Tryz.prog 23 #[] w fun e w' => e = .returned (.pointer (some ⟨w.heap.size + 2, 0, none⟩)) ∧
    w' = ((w.alloc (.cells #[.pointer none, .int .i64 0] 155)).alloc (.map #[] 0)).alloc (.cells #[.int .i64 0, .int .i64 0, .int .i64 0, .pointer (some ⟨w.heap.size, 0, none⟩), .map (some (w.heap.size + 1)), .slice none 0 0, .pointer none] 95) := by
  have hmm := @run_makeMap Tryz.prog
  go_enter Tryz.func23, Tryz.ntmps23
  go_wp2_with fail
  go_at_call 48
  refine (inew _).mono ?_
  rintro e w1 ⟨rfl, rfl⟩
  go_wp2
  go_ret
  exact ⟨rfl, rfl⟩

theorem lnew (w : World) : Calls Tryz.prog 24 #[] w fun e w' => e = .returned (.pointer (some ⟨w.heap.size + 1, 0, none⟩)) ∧
    w' = (w.alloc (.map #[] 0)).alloc (.cells #[.map (some w.heap.size)] 116) := by
  have hmm := @run_makeMap Tryz.prog
  go_enter Tryz.func24, Tryz.ntmps24
  go_wp2
  go_ret
  exact ⟨rfl, rfl⟩

theorem fnew (w : World) : Calls Tryz.prog 25 #[] w fun e w' => e = .returned (.pointer (some ⟨w.heap.size + 1, 0, none⟩)) ∧
    w' = (w.alloc (.map #[] 0)).alloc (.cells #[.map (some w.heap.size)] 119) := by
  have hmm := @run_makeMap Tryz.prog
  go_enter Tryz.func25, Tryz.ntmps25
  go_wp2
  go_ret
  exact ⟨rfl, rfl⟩

/-- What a machine is that has done nothing: its block, its store's, its index', its maps', its book's, its table's. -/
structure Fresh (w : World) (n : Nat) : Prop where
  m : Blk w n #[.iface 53 (.pointer (some ⟨n + 3, 0, none⟩)), .iface 72 (.pointer (some ⟨n + 5, 0, none⟩)), .iface 74 (.pointer (some ⟨n + 7, 0, none⟩)), .int .i64 0]
  ix : Blk w (n + 1) #[.pointer none, .int .i64 0]
  vs : Mp w (n + 2) #[]
  st : Blk w (n + 3) #[.int .i64 0, .int .i64 0, .int .i64 0, .pointer (some ⟨n + 1, 0, none⟩), .map (some (n + 2)), .slice none 0 0, .pointer none]
  lm : Mp w (n + 4) #[]
  bk : Blk w (n + 5) #[.map (some (n + 4))]
  fm : Mp w (n + 6) #[]
  tb : Blk w (n + 7) #[.map (some (n + 6))]
set_option maxRecDepth 100000 in
theorem Fresh.keep {w w' : World} {n : Nat} (h : Fresh w n) (hb : Below w.heap.size w w') : Fresh w' n :=
  ⟨h.m.keep hb, h.ix.keep hb, h.vs.keep hb, h.st.keep hb, h.lm.keep hb, h.bk.keep hb, h.fm.keep hb, h.tb.keep hb⟩

set_option maxRecDepth 100000 in
theorem mnew (w : World) : Calls Tryz.prog 10 #[] w fun e w' => e = .returned (.pointer (some ⟨w.heap.size, 0, none⟩)) ∧ Fresh w' w.heap.size ∧ Below w.heap.size w w' := by
  go_enter Tryz.func10, Tryz.ntmps10
  go_wp2_with fail
  go_at_call 23
  refine (snew _).mono ?_
  rintro e w1 ⟨rfl, rfl⟩
  go_wp2_with fail
  go_at_call 24
  refine (lnew _).mono ?_
  rintro e w1 ⟨rfl, rfl⟩
  go_wp2_with fail
  go_at_call 25
  refine (fnew _).mono ?_
  rintro e w1 ⟨rfl, rfl⟩
  go_wp2
  go_ret
  refine ⟨rfl, ⟨?_, ?_, ?_, ?_, ?_, ?_, ?_, ?_⟩, ?_⟩
  case refine_9 => exact bmore (bmore (bmore (bmore (bmore (bmore (bmore (bmore (Below.refl _ _) _) _) _) _) _) _) _) _
  all_goals
    first | unfold Blk | unfold Mp
    simp only [alloc_get, asz]
    repeat (first | rw [if_pos (by omega)] | rw [if_neg (by omega)])
    exact ⟨_, rfl⟩

/-- The assertions of the getters. -/
theorem ta_s (v : Value) (w : World) : Sem.run Tryz.prog (Instr.typeAssert (.iface 53 v) 20 53 false) w = .ok v w := by kernel_rfl
theorem ta_b (v : Value) (w : World) : Sem.run Tryz.prog (Instr.typeAssert (.iface 72 v) 20 72 false) w = .ok v w := by kernel_rfl
theorem ta_t (v : Value) (w : World) : Sem.run Tryz.prog (Instr.typeAssert (.iface 74 v) 20 74 false) w = .ok v w := by kernel_rfl

set_option maxRecDepth 100000 in
/-- The getters. -/
theorem store_f (w : World) (n : Nat) (h : Fresh w n) : Calls Tryz.prog 33 #[.pointer (some ⟨n, 0, none⟩)] w fun e w' => e = .returned (.pointer (some ⟨n + 3, 0, none⟩)) ∧ w = w' := by
  have hta := ta_s
  have hc := h.m.cell
  clear h
  go_enter Tryz.func33, Tryz.ntmps33
  go_wp2
  go_ret
  exact ⟨rfl, rfl⟩
set_option maxRecDepth 100000 in
theorem book_f (w : World) (n : Nat) (h : Fresh w n) : Calls Tryz.prog 51 #[.pointer (some ⟨n, 0, none⟩)] w fun e w' => e = .returned (.pointer (some ⟨n + 5, 0, none⟩)) ∧ w = w' := by
  have hta := ta_b
  have hc := h.m.cell
  clear h
  go_enter Tryz.func51, Tryz.ntmps51
  go_wp2
  go_ret
  exact ⟨rfl, rfl⟩
set_option maxRecDepth 100000 in
theorem table_f (w : World) (n : Nat) (h : Fresh w n) : Calls Tryz.prog 29 #[.pointer (some ⟨n, 0, none⟩)] w fun e w' => e = .returned (.pointer (some ⟨n + 7, 0, none⟩)) ∧ w = w' := by
  have hta := ta_t
  have hc := h.m.cell
  clear h
  go_enter Tryz.func29, Tryz.ntmps29
  go_wp2
  go_ret
  exact ⟨rfl, rfl⟩
end Go.Proofs.YtlldcoldnojbjaaGreatDoor.Mach
