/- Joined: a part of the proof of TopWatches. -/
import Derived.RegionTactic
import Derived.Deep.RegionWith
import Derived.StillTailTactics
import Derived.LoopTactic
import Derived.Deep.DeepCutAuto
import Derived.Deep.RegionHeld3
import Derived.LoopN
import Derived.Test.YtbheebpfbabffaaGreatProg
import Derived.Test.YtbheebpfbabffaaGreatKit
set_option linter.unusedSimpArgs false
set_option linter.unusedVariables false
namespace Go.Proofs.YtbheebpfbabffaaGreat.Mach
open Go.RowKit Go

/-- A block whose cells are known whole, none of them frozen. -/
def Blk (w : World) (b : Nat) (c : Array Value) : Prop := ∃ t, w.heap[b]? = some (.cells c t)
/-- A block that is a map of these entries. -/
def Mp (w : World) (b : Nat) (es : Array MapEntry) : Prop := ∃ k, w.heap[b]? = some (.map es k)

theorem Blk.cell {w : World} {b : Nat} {c : Array Value} (h : Blk w b c) (o : Nat) : w.cell? ⟨b, o, none⟩ = c[o]? := by
  obtain ⟨t, h⟩ := h
  simp [World.cell?, h]
theorem Blk.frz {w : World} {b : Nat} {c : Array Value} (h : Blk w b c) (o : Nat) : w.frozen? ⟨b, o, none⟩ = false := by
  obtain ⟨t, h⟩ := h
  simp [World.frozen?, h]
theorem Blk.lt {w : World} {b : Nat} {c : Array Value} (h : Blk w b c) : b < w.heap.size := by
  obtain ⟨t, h⟩ := h
  exact (Array.getElem?_eq_some_iff.1 h).1
theorem Mp.lt {w : World} {b : Nat} {es : Array MapEntry} (h : Mp w b es) : b < w.heap.size := by
  obtain ⟨t, h⟩ := h
  exact (Array.getElem?_eq_some_iff.1 h).1
theorem Blk.new (w : World) (c : Array Value) (t : TypeId) : Blk (w.alloc (.cells c t)) w.heap.size c := ⟨t, by show (w.heap.push _)[w.heap.size]? = _; simp⟩
theorem Blk.newAt {w : World} {c : Array Value} {t : TypeId} {b : Nat} (h : b = w.heap.size) : Blk (w.alloc (.cells c t)) b c := h ▸ Blk.new w c t
theorem Mp.new (w : World) (es : Array MapEntry) (k : Nat) : Mp (w.alloc (.map es k)) w.heap.size es := ⟨k, by show (w.heap.push _)[w.heap.size]? = _; simp⟩
theorem Blk.alloc {w : World} {b : Nat} {c : Array Value} (h : Blk w b c) (x : Obj) : Blk (w.alloc x) b c := by
  have hl := h.lt
  obtain ⟨t, h⟩ := h
  exact ⟨t, (Below.heap_alloc w x b hl).trans h⟩
theorem Mp.alloc {w : World} {b : Nat} {c : Array MapEntry} (h : Mp w b c) (x : Obj) : Mp (w.alloc x) b c := by
  have hl := h.lt
  obtain ⟨t, h⟩ := h
  exact ⟨t, (Below.heap_alloc w x b hl).trans h⟩
theorem Blk.setCell {w : World} {b : Nat} {c : Array Value} (h : Blk w b c) (o : Nat) (v : Value) : Blk (w.setCell ⟨b, o, none⟩ v) b (c.setIfInBounds o v) := by
  obtain ⟨t, h⟩ := h
  refine ⟨t, ?_⟩
  simp [World.setCell, Array.getElem?_modify, h]
theorem Blk.setOther {w : World} {b : Nat} {c : Array Value} (h : Blk w b c) (a : Addr) (hne : b ≠ a.block) (v : Value) : Blk (w.setCell a v) b c := by
  obtain ⟨t, h⟩ := h
  exact ⟨t, (Below.heap_setCell w a v b hne).trans h⟩
theorem Mp.setOther {w : World} {b : Nat} {c : Array MapEntry} (h : Mp w b c) (a : Addr) (hne : b ≠ a.block) (v : Value) : Mp (w.setCell a v) b c := by
  obtain ⟨t, h⟩ := h
  exact ⟨t, (Below.heap_setCell w a v b hne).trans h⟩
theorem Blk.keep {w w' : World} {b : Nat} {c : Array Value} (h : Blk w b c) (hb : Below w.heap.size w w') : Blk w' b c := by
  have hl := h.lt
  obtain ⟨t, h⟩ := h
  exact ⟨t, (hb.block b hl).trans h⟩
theorem Mp.keep {w w' : World} {b : Nat} {c : Array MapEntry} (h : Mp w b c) (hb : Below w.heap.size w w') : Mp w' b c := by
  have hl := h.lt
  obtain ⟨t, h⟩ := h
  exact ⟨t, (hb.block b hl).trans h⟩

theorem alloc_get (w : World) (x : Obj) (k : Nat) : (w.alloc x).heap[k]? = if k = w.heap.size then some x else w.heap[k]? := by
  show (w.heap.push x)[k]? = _
  rw [Array.getElem?_push]

theorem asz (w : World) (x : Obj) : (w.alloc x).heap.size = w.heap.size + 1 := by
  show (w.heap.push x).size = _
  rw [Array.size_push]

theorem inew (w : World) : Calls Tryz.prog 71 #[] w fun e w' => e = .returned (.pointer (some ⟨w.heap.size, 0, none⟩)) ∧ w' = w.alloc (.cells #[.pointer none, .int .i64 0] 230) := by
  go_enter Tryz.func71, Tryz.ntmps71
  go_wp2
  go_ret
  exact ⟨rfl, rfl⟩

theorem snew (w : World) : Calls Tryz.prog 26 #[] w fun e w' => e = .returned (.pointer (some ⟨w.heap.size + 2, 0, none⟩)) ∧
    w' = ((w.alloc (.cells #[.pointer none, .int .i64 0] 230)).alloc (.map #[] 0)).alloc (.cells #[.int .i64 0, .int .i64 0, .int .i64 0, .pointer (some ⟨w.heap.size, 0, none⟩), .map (some (w.heap.size + 1)), .slice none 0 0, .pointer none] 98) := by
  have hmm := @run_makeMap Tryz.prog
  go_enter Tryz.func26, Tryz.ntmps26
  go_wp2_with fail
  go_at_call 71
  refine (inew _).mono ?_
  rintro e w1 ⟨rfl, rfl⟩
  go_wp2
  go_ret
  exact ⟨rfl, rfl⟩

theorem lnew (w : World) : Calls Tryz.prog 27 #[] w fun e w' => e = .returned (.pointer (some ⟨w.heap.size + 1, 0, none⟩)) ∧
    w' = (w.alloc (.map #[] 0)).alloc (.cells #[.map (some w.heap.size)] 161) := by
  have hmm := @run_makeMap Tryz.prog
  go_enter Tryz.func27, Tryz.ntmps27
  go_wp2
  go_ret
  exact ⟨rfl, rfl⟩

theorem fnew (w : World) : Calls Tryz.prog 28 #[] w fun e w' => e = .returned (.pointer (some ⟨w.heap.size + 1, 0, none⟩)) ∧
    w' = (w.alloc (.map #[] 0)).alloc (.cells #[.map (some w.heap.size)] 164) := by
  have hmm := @run_makeMap Tryz.prog
  go_enter Tryz.func28, Tryz.ntmps28
  go_wp2
  go_ret
  exact ⟨rfl, rfl⟩

/-- What a machine is that has done nothing: its block, its store's, its index', its maps', its book's, its table's. -/
structure Fresh (w : World) (n : Nat) : Prop where
  m : Blk w n #[.iface 29 (.pointer (some ⟨n + 3, 0, none⟩)), .iface 78 (.pointer (some ⟨n + 5, 0, none⟩)), .iface 80 (.pointer (some ⟨n + 7, 0, none⟩)), .int .i64 0]
  ix : Blk w (n + 1) #[.pointer none, .int .i64 0]
  vs : Mp w (n + 2) #[]
  st : Blk w (n + 3) #[.int .i64 0, .int .i64 0, .int .i64 0, .pointer (some ⟨n + 1, 0, none⟩), .map (some (n + 2)), .slice none 0 0, .pointer none]
  lm : Mp w (n + 4) #[]
  bk : Blk w (n + 5) #[.map (some (n + 4))]
  fm : Mp w (n + 6) #[]
  tb : Blk w (n + 7) #[.map (some (n + 6))]
set_option maxRecDepth 100000 in
theorem Fresh.keep {w w' : World} {n : Nat} (h : Fresh w n) (hb : Below w.heap.size w w') : Fresh w' n :=
  ⟨h.m.keep hb, h.ix.keep hb, h.vs.keep hb, h.st.keep hb, h.lm.keep hb, h.bk.keep hb, h.fm.keep hb, h.tb.keep hb⟩

set_option maxRecDepth 100000 in
theorem mnew (w : World) : Calls Tryz.prog 6 #[] w fun e w' => e = .returned (.pointer (some ⟨w.heap.size, 0, none⟩)) ∧ Fresh w' w.heap.size ∧ Below w.heap.size w w' := by
  go_enter Tryz.func6, Tryz.ntmps6
  go_wp2_with fail
  go_at_call 26
  refine (snew _).mono ?_
  rintro e w1 ⟨rfl, rfl⟩
  go_wp2_with fail
  go_at_call 27
  refine (lnew _).mono ?_
  rintro e w1 ⟨rfl, rfl⟩
  go_wp2_with fail
  go_at_call 28
  refine (fnew _).mono ?_
  rintro e w1 ⟨rfl, rfl⟩
  go_wp2
  go_ret
  refine ⟨rfl, ⟨?_, ?_, ?_, ?_, ?_, ?_, ?_, ?_⟩, ?_⟩
  case refine_9 => exact bmore (bmore (bmore (bmore (bmore (bmore (bmore (bmore (Below.refl _ _) _) _) _) _) _) _) _) _
  all_goals
    first | unfold Blk | unfold Mp
    simp only [alloc_get, asz]
    repeat (first | rw [if_pos (by omega)] | rw [if_neg (by omega)])
    exact ⟨_, rfl⟩

/-- The assertions of the getters. -/
theorem ta_s (v : Value) (w : World) : Sem.run Tryz.prog (Instr.typeAssert (.iface 29 v) 20 29 false) w = .ok v w := by kernel_rfl
theorem ta_b (v : Value) (w : World) : Sem.run Tryz.prog (Instr.typeAssert (.iface 78 v) 20 78 false) w = .ok v w := by kernel_rfl
theorem ta_t (v : Value) (w : World) : Sem.run Tryz.prog (Instr.typeAssert (.iface 80 v) 20 80 false) w = .ok v w := by kernel_rfl

set_option maxRecDepth 100000 in
/-- The getters. -/
theorem store_f (w : World) (n : Nat) (h : Fresh w n) : Calls Tryz.prog 29 #[.pointer (some ⟨n, 0, none⟩)] w fun e w' => e = .returned (.pointer (some ⟨n + 3, 0, none⟩)) ∧ w = w' := by
  have hta := ta_s
  have hc := h.m.cell
  clear h
  go_enter Tryz.func29, Tryz.ntmps29
  go_wp2
  go_ret
  exact ⟨rfl, rfl⟩
set_option maxRecDepth 100000 in
theorem book_f (w : World) (n : Nat) (h : Fresh w n) : Calls Tryz.prog 62 #[.pointer (some ⟨n, 0, none⟩)] w fun e w' => e = .returned (.pointer (some ⟨n + 5, 0, none⟩)) ∧ w = w' := by
  have hta := ta_b
  have hc := h.m.cell
  clear h
  go_enter Tryz.func62, Tryz.ntmps62
  go_wp2
  go_ret
  exact ⟨rfl, rfl⟩
set_option maxRecDepth 100000 in
theorem table_f (w : World) (n : Nat) (h : Fresh w n) : Calls Tryz.prog 31 #[.pointer (some ⟨n, 0, none⟩)] w fun e w' => e = .returned (.pointer (some ⟨n + 7, 0, none⟩)) ∧ w = w' := by
  have hta := ta_t
  have hc := h.m.cell
  clear h
  go_enter Tryz.func31, Tryz.ntmps31
  go_wp2
  go_ret
  exact ⟨rfl, rfl⟩
end Go.Proofs.YtbheebpfbabffaaGreat.Mach

namespace Go.Proofs.YtbheebpfbabffaaGreat.Mach
open Go.RowKit Go

theorem key_a (w : World) : Calls Tryz.prog 169 #[.string ⟨#[97]⟩] w fun e w' => e = .returned (.bool true) ∧ w = w' := by
  go_enter Tryz.func169, Tryz.ntmps169
  go_wp2
  go_ret
  exact ⟨rfl, rfl⟩
theorem must_t (e : Int) (w : World) : Calls Tryz.prog 149 #[.bool true, .int .i64 e] w fun x w' => x = .returned (.int .i64 0) ∧ w = w' := by
  go_enter Tryz.func149, Tryz.ntmps149
  go_wp2
  go_ret
  exact ⟨rfl, rfl⟩

set_option maxRecDepth 100000 in
theorem first_0 (b k : Nat) (w : World) (hk : k ≤ 1000) (hc : ∀ o, o < k → w.cell? ⟨b, o, none⟩ = some (.int .i64 0)) :
    Calls Tryz.prog 146 #[.slice (some ⟨b, 0, none⟩) k k] w fun x w' => x = .returned (.int .i64 0) ∧ w = w' := by
  go_enter Tryz.func146, Tryz.ntmps146
  go_wp2
  go_loop [7] (fun i => ∃ j : Nat, j ≤ k ∧ i = .int .i64 j) (fun i => k - (intOf i).toNat)
  case atStart => exact ⟨0, Nat.zero_le _, rfl⟩
  case round =>
    obtain ⟨j, hj, rfl⟩ := hrel
    by_cases hlt : j < k
    · have g := hc j hlt
      go_wp2
      go_round
      case rel => exact ⟨j + 1, by omega, by go_num⟩
      case measure => simp [intOf]; omega
    · go_wp2
      go_ret
      exact ⟨rfl, rfl⟩

theorem still_of {P : Program} {f : FuncId} {args : Array Value} {w : World} {v : Value} (h : Calls P f args w fun e w' => e = .returned v ∧ w = w') :
    Calls P f args w fun e w' => e = .returned v ∧ w' = w := h.mono fun _ _ ⟨he, hm⟩ => ⟨he, hm.symm⟩

/-- The operation of the example. -/
def opC : Array Value := #[.int .i64 0, .string ⟨#[97]⟩, .string ⟨#[]⟩, .string ⟨#[120]⟩, .int .i64 0, .int .i64 0]

set_option maxRecDepth 100000 in
set_option maxHeartbeats 4000000 in
theorem checkOp_a (w : World) : Calls Tryz.prog 148 #[.agg opC] w fun x w' => x = .returned (.int .i64 0) ∧ Below w.heap.size w w' := by
  unfold opC
  go_enter Tryz.func148, Tryz.ntmps148
  go_upto_region 1 with fail
  have hN := alloc_new w #[.int .i64 0, .string ⟨#[97]⟩, .string ⟨#[]⟩, .string ⟨#[120]⟩, .int .i64 0, .int .i64 0] 72
  have hz : w.heap.size < (w.alloc (.cells #[.int .i64 0, .string ⟨#[97]⟩, .string ⟨#[]⟩, .string ⟨#[120]⟩, .int .i64 0, .int .i64 0] 72)).heap.size := by simp
  have hb := bmore (Below.refl w.heap.size w) (.cells #[.int .i64 0, .string ⟨#[97]⟩, .string ⟨#[]⟩, .string ⟨#[120]⟩, .int .i64 0, .int .i64 0] 72)
  generalize w.alloc (.cells #[.int .i64 0, .string ⟨#[97]⟩, .string ⟨#[]⟩, .string ⟨#[120]⟩, .int .i64 0, .int .i64 0] 72) = wa at *
  go_still_tail 25, (by kernel_rfl)
  still_call (still_of (must_t _ _))
  repeat still_step
  still_call (still_of (key_a _))
  repeat still_step
  still_call (still_of (must_t _ _))
  repeat still_step
  refine wpStill_nil ?_
  change wpList _ _ _ _ _ wa.drew
  have hN1 : ∀ o, wa.drew.cell? ⟨w.heap.size, o, none⟩ = (#[.int .i64 0, .string ⟨#[97]⟩, .string ⟨#[]⟩, .string ⟨#[120]⟩, .int .i64 0, .int .i64 0] : Array Value)[o]? := hN
  have hb1 := hb.drew
  have hz1 : w.heap.size < wa.drew.heap.size := hz
  clear hN hb hz
  generalize wa.drew = wb at *
  go_wp2_with fail
  go_at_call 146
  refine (first_0 _ 2 _ (by omega) ?_).mono ?_
  · intro o ho
    rw [alloc_new]
    obtain rfl | rfl : o = 0 ∨ o = 1 := by omega
    · rfl
    · rfl
  rintro e w' ⟨rfl, rfl⟩
  have hN2 := fun o => (alloc_old wb (.cells #[.int .i64 0, .int .i64 0] 43) hz1 o).trans (hN1 o)
  have hb2 := bmore hb1 (.cells #[.int .i64 0, .int .i64 0] 43)
  have hz2 : w.heap.size < (wb.alloc (.cells #[.int .i64 0, .int .i64 0] 43)).heap.size := by simp; omega
  generalize wb.alloc (.cells #[.int .i64 0, .int .i64 0] 43) = wc at *
  clear hN1 hb1 hz1
  go_wp2_with fail
  go_still_tail 15, (by kernel_rfl)
  still_call (still_of (must_t _ _))
  repeat still_step
  still_call (still_of (must_t _ _))
  repeat still_step
  refine wpStill_nil ?_
  change wpList _ _ _ _ _ wc.drew
  have hb3 := hb2.drew
  clear hN2 hb2 hz2
  generalize wc.drew = wd at *
  go_wp2_with fail
  go_at_call 146
  refine (first_0 _ 3 _ (by omega) ?_).mono ?_
  · intro o ho
    rw [alloc_new]
    obtain rfl | rfl | rfl : o = 0 ∨ o = 1 ∨ o = 2 := by omega
    · rfl
    · rfl
    · rfl
  rintro e w' ⟨rfl, rfl⟩
  go_wp2
  go_ret
  exact ⟨rfl, bmore hb3 _⟩

end Go.Proofs.YtbheebpfbabffaaGreat.Mach

namespace Go.Proofs.YtbheebpfbabffaaGreat.Mach
open Go.RowKit Go

set_option maxHeartbeats 2000000 in
set_option maxRecDepth 100000 in
theorem twice_a (cb : Nat) (w : World) (h : Blk w cb opC) : Calls Tryz.prog 150 #[.slice (some ⟨cb, 0, none⟩) 1 1] w fun x w' => x = .returned (.bool false) ∧ Below w.heap.size w w' := by
  have hc := h.cell
  have hl := h.lt
  unfold opC at hc
  clear h
  go_enter Tryz.func150, Tryz.ntmps150
  go_wp2
  refine wp_loop_rounds 2 ?_
  rw [rounds_succ]
  go_wp2
  refine wp_loop_rounds 2 ?_
  rw [rounds_succ]
  go_wp2
  rw [rounds_succ]
  go_wp2
  rw [rounds_succ]
  go_wp2
  go_ret
  exact ⟨rfl, bmore (bmore (Below.refl _ _) _) _⟩

set_option maxHeartbeats 2000000 in
set_option maxRecDepth 100000 in
theorem twice_n (w : World) : Calls Tryz.prog 150 #[.slice none 0 0] w fun x w' => x = .returned (.bool false) ∧ Below w.heap.size w w' := by
  go_enter Tryz.func150, Tryz.ntmps150
  go_wp2
  refine wp_loop_rounds 1 ?_
  rw [rounds_succ]
  go_wp2
  go_ret
  exact ⟨rfl, Below.refl _ _⟩
set_option maxHeartbeats 2000000 in
set_option maxRecDepth 100000 in
theorem holds_n (w : World) (v : Value) : Calls Tryz.prog 116 #[v, .slice none 0 0] w fun x w' => x = .returned (.bool true) ∧ w = w' := by
  go_enter Tryz.func116, Tryz.ntmps116
  go_wp2
  refine wp_loop_rounds 1 ?_
  rw [rounds_succ]
  go_wp2
  go_ret
  exact ⟨rfl, rfl⟩

/-- The transaction of the example. -/
def txnC (cb : Nat) : Array Value := #[.slice none 0 0, .slice (some ⟨cb, 0, none⟩) 1 1, .slice none 0 0]

set_option maxHeartbeats 4000000 in
set_option maxRecDepth 100000 in
theorem check_a (cb : Nat) (w : World) (h : Blk w cb opC) : Calls Tryz.prog 115 #[.agg (txnC cb)] w fun x w' => x = .returned (.int .i64 0) ∧ Below w.heap.size w w' := by
  have hl := h.lt
  unfold txnC
  go_enter Tryz.func115, Tryz.ntmps115
  go_wp2
  refine wp_loop_rounds 1 ?_
  rw [rounds_succ]
  go_wp2
  refine wp_loop_rounds 3 ?_
  rw [rounds_succ]
  go_wp2
  refine wp_loop_rounds 2 ?_
  rw [rounds_succ]
  have hc := h.cell
  unfold opC at hc
  go_wp2_with fail
  go_at_call 148
  refine (checkOp_a _).mono ?_
  rintro e w2 ⟨rfl, hb⟩
  have k := (((h.alloc _).alloc _).alloc _).keep hb
  have k0 : Blk w2 w.heap.size _ := (((Blk.newAt rfl).alloc _).alloc _).keep hb
  have k1 : Blk w2 (w.heap.size + 1) _ := ((Blk.newAt (by simp)).alloc _).keep hb
  have hz : w.heap.size + 3 ≤ w2.heap.size := by have := hb.size; simp at this; omega
  have hbel := bthen (bmore (bmore (bmore (Below.refl _ _) _) _) _) hb
  have hc0 := k0.cell
  have hc1 := k1.cell
  clear hc hb
  go_wp2_with fail
  go_at_call 146
  refine (first_0 _ 2 _ (by omega) ?_).mono ?_
  · intro o ho
    rw [alloc_new]
    obtain rfl | rfl : o = 0 ∨ o = 1 := by omega
    · rfl
    · rfl
  rintro e w' ⟨rfl, rfl⟩
  have k2 := k.alloc (.cells #[.int .i64 0, .int .i64 0] 43)
  have k3 := k0.alloc (.cells #[.int .i64 0, .int .i64 0] 43)
  have k4 := k1.alloc (.cells #[.int .i64 0, .int .i64 0] 43)
  have hb4 := bmore hbel (.cells #[.int .i64 0, .int .i64 0] 43)
  generalize w2.alloc (.cells #[.int .i64 0, .int .i64 0] 43) = w3 at *
  have hc3 := k3.cell
  have hc4 := k4.cell
  clear hc0 hc1 hbel
  go_wp2
  rw [rounds_succ]
  go_wp2
  rw [rounds_succ]
  go_wp2
  refine wp_loop_rounds 1 ?_
  rw [rounds_succ]
  go_wp2
  rw [rounds_succ]
  go_wp2_with fail
  go_at_call 150
  refine (twice_a cb _ k2).mono ?_
  rintro e w4 ⟨rfl, hb⟩
  have k5 := k3.keep hb
  have hz5 := k5.lt
  have hb5 := bthen hb4 hb
  have hc5 := k5.cell
  clear hc3 hc4 hb4 hb
  go_wp2_with fail
  go_at_call 150
  refine (twice_n _).mono ?_
  rintro e w5 ⟨rfl, hb⟩
  have hb6 := bthen hb5 hb
  clear hc5 hb5 hb
  go_wp2_with fail
  go_at_call 149
  refine (must_t _ _).mono ?_
  rintro e w6 ⟨rfl, rfl⟩
  go_wp2_with fail
  go_at_call 146
  refine (first_0 _ 2 _ (by omega) ?_).mono ?_
  · intro o ho
    rw [alloc_new]
    obtain rfl | rfl : o = 0 ∨ o = 1 := by omega
    · rfl
    · rfl
  rintro e w' ⟨rfl, rfl⟩
  go_wp2
  go_ret
  exact ⟨rfl, bmore hb6 _⟩
end Go.Proofs.YtbheebpfbabffaaGreat.Mach

