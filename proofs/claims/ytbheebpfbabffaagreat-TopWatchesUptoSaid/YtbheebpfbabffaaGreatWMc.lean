/- The machine: its parts, what it keeps; does. -/
import Derived.Test.YtbheebpfbabffaaGreatWFNote
import Derived.Test.YtbheebpfbabffaaGreatVT
import Derived.Test.YtbheebpfbabffaaGreatWChk
set_option linter.unusedSimpArgs false
set_option linter.unusedVariables false
namespace Go.Proofs.YtbheebpfbabffaaGreat.Wat
open Go.RowKit Go Go.Lib Mach Go.MapKept

/-- The blocks of a machine's parts. -/
structure Ids where
  mb : Nat
  sb : Nat
  bb : Nat
  bm : Nat
  tb : Nat
  tm : Nat
def Ids.foot (m : Ids) (S : List Nat) : List Nat := [m.mb, m.bb, m.bm, m.tb, m.tm] ++ S
theorem Ids.foot_iff (m : Ids) (S : List Nat) (y : Nat) : y ∈ m.foot S ↔ y = m.mb ∨ y = m.bb ∨ y = m.bm ∨ y = m.tb ∨ y = m.tm ∨ y ∈ S := by
  simp [Ids.foot]
abbrev mcells (sb bb tb : Nat) (cl : Int) : Array Value := #[.iface 29 (Ptr sb), .iface 78 (Ptr bb), .iface 80 (Ptr tb), .int .i64 cl]
/-- A machine without its table: its clock, its store, its book. -/
structure Mc (w : World) (m : Ids) (cl : Int) (rev C : Nat) (chs : List Ver) (Ks : List Value) (S : List Nat) : Prop where
  blk : Blk w m.mb (mcells m.sb m.bb m.tb cl)
  st : ∃ op, St w m.sb op rev C chs Ks S
  bk : ∃ ls, Book w m.bb m.bm ls
  tl : m.tb < w.heap.size ∧ m.tm < w.heap.size
  nd : Nd (m.foot S)
/-- What of a machine is not its table. -/
def Ids.own (m : Ids) (S : List Nat) (y : Nat) : Prop := y = m.mb ∨ y = m.bb ∨ y = m.bm ∨ y ∈ S
theorem Ids.own_foot {m : Ids} {S : List Nat} {y : Nat} (h : m.own S y) : y ∈ m.foot S := by
  rw [Ids.foot_iff]
  rcases h with h | h | h | h <;> simp [h]
theorem Mc.lt {w : World} {m : Ids} {cl : Int} {rev C : Nat} {chs : List Ver} {Ks : List Value} {S : List Nat} (h : Mc w m cl rev C chs Ks S) : ∀ y ∈ m.foot S, y < w.heap.size := by
  intro y hy
  obtain ⟨op, hs⟩ := h.st
  obtain ⟨ls, hb⟩ := h.bk
  rcases (m.foot_iff S y).1 hy with rfl | rfl | rfl | rfl | rfl | hy
  · exact h.blk.lt
  · exact hb.1.lt
  · exact hb.2.1.lt
  · exact h.tl.1
  · exact h.tl.2
  · exact hs.lt y hy
theorem Mc.only {G : Nat → Prop} {w w' : World} {m : Ids} {cl : Int} {rev C : Nat} {chs : List Ver} {Ks : List Value} {S : List Nat} (h : Mc w m cl rev C chs Ks S) (k : Only G w w') (hG : ∀ y, m.own S y → ¬ G y) : Mc w' m cl rev C chs Ks S := by
  obtain ⟨op, hs⟩ := h.st
  obtain ⟨ls, hb⟩ := h.bk
  have hz := k.size
  exact ⟨h.blk.only k (hG _ (.inl rfl)), ⟨op, hs.only k (fun y hy => hG _ (.inr (.inr (.inr hy))))⟩, ⟨ls, hb.only k (hG _ (.inr (.inl rfl))) (hG _ (.inr (.inr (.inl rfl))))⟩, ⟨Nat.lt_of_lt_of_le h.tl.1 hz, Nat.lt_of_lt_of_le h.tl.2 hz⟩, h.nd⟩
theorem Mc.keep {w w' : World} {m : Ids} {cl : Int} {rev C : Nat} {chs : List Ver} {Ks : List Value} {S : List Nat} (h : Mc w m cl rev C chs Ks S) (k : Below w.heap.size w w') : Mc w' m cl rev C chs Ks S :=
  h.only (G := fun _ => False) (Only.of_below k) (fun _ _ h => h)
/-- What is new of a store, told of its revisions. -/
def NewOk (rev rev' : Nat) (new : List Ver) : Prop := (new = [] ∧ rev' = rev) ∨ (new ≠ [] ∧ rev' = rev + 1 ∧ ∀ p ∈ new, p.1 = (rev : Int) + 1)
/-- What becomes of a machine. -/
def McPost (w : World) (m : Ids) (rev C : Nat) (chs : List Ver) (Ks : List Value) (S : List Nat) (w' : World) : Prop :=
  Only (m.own S) w w' ∧ ∃ (cl' : Int) (rev' C' : Nat) (new : List Ver) (Ks' : List Value) (S' : List Nat), Mc w' m cl' rev' C' (chs ++ new) Ks' S' ∧ Grow w S S' ∧ C' ≤ C + Ks.length + 32 ∧ Ks'.length ≤ Ks.length + 32 ∧ NewOk rev rev' new
theorem McPost.still {w w' : World} {m : Ids} {cl : Int} {rev C : Nat} {chs : List Ver} {Ks : List Value} {S : List Nat} (h : Mc w m cl rev C chs Ks S) (k : Below w.heap.size w w') : McPost w m rev C chs Ks S w' :=
  ⟨Only.of_below k, cl, rev, C, [], Ks, S, by simpa using h.keep k, by obtain ⟨op, hs⟩ := h.st; exact ⟨fun _ _ => Nat.le_refl _, fun a _ => hs.nd a⟩, by omega, by omega, .inl ⟨rfl, rfl⟩⟩
theorem nd_foot {m : Ids} {S : List Nat} (h : Nd (m.foot S)) : ∀ y ∈ S, y ≠ m.mb ∧ y ≠ m.bb ∧ y ≠ m.bm ∧ y ≠ m.tb ∧ y ≠ m.tm := by
  intro y hy
  have h1 := h y
  unfold Ids.foot at h1
  rw [List.count_append] at h1
  have h2 := count_in hy
  have h3 := List.count_eq_zero.1 (show ([m.mb, m.bb, m.bm, m.tb, m.tm] : List Nat).count y = 0 by omega)
  simpa using h3
theorem nd_ids {m : Ids} {S : List Nat} (h : Nd (m.foot S)) : [m.mb, m.bb, m.bm, m.tb, m.tm].Nodup := by
  rw [List.nodup_iff_count]
  intro y
  have h1 := h y
  unfold Ids.foot at h1
  rw [List.count_append] at h1
  omega
theorem nd_foot_grow {w : World} {m : Ids} {S S' : List Nat} (h : Nd (m.foot S)) (hl : ∀ y ∈ m.foot S, y < w.heap.size) (g : Grow w S S') : Nd (m.foot S') := by
  unfold Ids.foot at *
  exact nd_grow h (fun y hy => hl y (List.mem_append.2 (.inl hy))) g
theorem foot_mem {w : World} {m : Ids} {S S' : List Nat} (g : Grow w S S') {y : Nat} (hy : y ∈ m.foot S') (hl : y < w.heap.size) : y ∈ m.foot S := by
  rw [Ids.foot_iff] at *
  rcases hy with h | h | h | h | h | h
  · exact .inl h
  · exact .inr (.inl h)
  · exact .inr (.inr (.inl h))
  · exact .inr (.inr (.inr (.inl h)))
  · exact .inr (.inr (.inr (.inr (.inl h))))
  · exact .inr (.inr (.inr (.inr (.inr (g.mem hl h)))))

/-- A footprint's growth, from an earlier world. -/
theorem grow_from {w w1 : World} {S S' : List Nat} (hw : w.heap.size ≤ w1.heap.size) (hS : ∀ y ∈ S, y < w.heap.size) (g : Grow w1 S S') : Grow w S S' := by
  refine ⟨fun a ha => g.1 a (by omega), fun a ha => ?_⟩
  by_cases h2 : a < w1.heap.size
  · have := g.1 a h2
    have := count_out (fun hm : a ∈ S => by have := hS a hm; omega)
    omega
  · exact g.2 a (by omega)
/-- A store that has become another one: the machine. -/
theorem Mc.store {w w' : World} {m : Ids} {cl : Int} {rev C rev' C' : Nat} {chs chs' : List Ver} {Ks Ks' : List Value} {S S' : List Nat} {op : Value} (h : Mc w m cl rev C chs Ks S) (k : Only (fun y => y ∈ S) w w') (hs : St w' m.sb op rev' C' chs' Ks' S') (g : Grow w S S') : Mc w' m cl rev' C' chs' Ks' S' := by
  have hn := nd_foot h.nd
  have hlt := h.lt
  have hz := k.size
  obtain ⟨ls, hb⟩ := h.bk
  exact ⟨h.blk.only k (fun hy => (hn _ hy).1 rfl), ⟨op, hs⟩, ⟨ls, hb.only k (fun hy => (hn _ hy).2.1 rfl) (fun hy => (hn _ hy).2.2.1 rfl)⟩, ⟨Nat.lt_of_lt_of_le h.tl.1 hz, Nat.lt_of_lt_of_le h.tl.2 hz⟩, nd_foot_grow h.nd hlt g⟩
theorem Mc.book {w w' : World} {m : Ids} {cl : Int} {rev C : Nat} {chs : List Ver} {Ks : List Value} {S : List Nat} (h : Mc w m cl rev C chs Ks S) (k : BookPost w m.bb m.bm w') : Mc w' m cl rev C chs Ks S := by
  obtain ⟨k, ls', hb'⟩ := k
  have hn := nd_foot h.nd
  have hi := nd_ids h.nd
  simp at hi
  have hz := k.size
  obtain ⟨op, hs⟩ := h.st
  exact ⟨h.blk.only k (by omega), ⟨op, hs.only k (fun y hy => (hn y hy).2.2.1)⟩, ⟨ls', hb'⟩, ⟨Nat.lt_of_lt_of_le h.tl.1 hz, Nat.lt_of_lt_of_le h.tl.2 hz⟩, h.nd⟩
theorem Mc.clock {w : World} {m : Ids} {cl : Int} {rev C : Nat} {chs : List Ver} {Ks : List Value} {S : List Nat} (h : Mc w m cl rev C chs Ks S) (cl' : Int) : Mc (w.setCell ⟨m.mb, 3, none⟩ (.int .i64 cl')) m cl' rev C chs Ks S := by
  have k : Only (fun y => y = m.mb) w (w.setCell ⟨m.mb, 3, none⟩ (.int .i64 cl')) := (Only.refl (fun y => y = m.mb) w).set ⟨m.mb, 3, none⟩ (fun _ => rfl) _
  have hn := nd_foot h.nd
  have hi := nd_ids h.nd
  simp at hi
  have hz := k.size
  obtain ⟨op, hs⟩ := h.st
  obtain ⟨ls, hb⟩ := h.bk
  exact ⟨by have := h.blk.setCell 3 (.int .i64 cl'); simpa using this, ⟨op, hs.only k (fun y hy => (hn y hy).1)⟩, ⟨ls, hb.only k (by omega) (by omega)⟩, ⟨Nat.lt_of_lt_of_le h.tl.1 hz, Nat.lt_of_lt_of_le h.tl.2 hz⟩, h.nd⟩
/-- What a walk of the machine's own does, seen from ahead of its variables. -/
theorem McPost.local {w wa w5 w6 : World} {m : Ids} {cl : Int} {rev C : Nat} {chs : List Ver} {Ks : List Value} {S : List Nat} (h : Mc w m cl rev C chs Ks S) (hb : Below w.heap.size w wa) (p : McPost wa m rev C chs Ks S w5) (k : Only (fun y => w.heap.size ≤ y ∧ y < wa.heap.size) w5 w6) : McPost w m rev C chs Ks S w6 := by
  obtain ⟨p1, cl', rev', C', new, Ks', S', hM, hG, hC, hK, hN⟩ := p
  have hlt := h.lt
  have hf := fun y => m.foot_iff S y
  refine ⟨((Only.of_below hb).trans p1 (fun _ _ h => h)).trans k (fun y hy hm => absurd hm.1 (by omega)), cl', rev', C', new, Ks', S', hM.only k (fun y hy hm => ?_), grow_from hb.size (fun y hy => hlt y ((hf y).2 (by simp [hy]))) hG, hC, hK, hN⟩
  have := hlt y (foot_mem hG (Ids.own_foot hy) hm.2)
  omega

theorem McPost.book {w w' : World} {m : Ids} {cl : Int} {rev C : Nat} {chs : List Ver} {Ks : List Value} {S : List Nat} (h : Mc w m cl rev C chs Ks S) (k : BookPost w m.bb m.bm w') : McPost w m rev C chs Ks S w' :=
  ⟨only_weak k.1 (fun y e => .inr (.inr (.inl e))), cl, rev, C, [], Ks, S, by simpa using h.book k, by obtain ⟨op, hs⟩ := h.st; exact ⟨fun _ _ => Nat.le_refl _, fun a _ => hs.nd a⟩, by omega, by omega, .inl ⟨rfl, rfl⟩⟩
theorem McPost.store {w w' : World} {m : Ids} {cl : Int} {rev C : Nat} {chs : List Ver} {Ks : List Value} {S S' : List Nat} (h : Mc w m cl rev C chs Ks S) (p : StPost w m.sb rev C chs Ks S w' S') : McPost w m rev C chs Ks S w' := by
  obtain ⟨hO, hG, op', rev', C', new, Ks', hs, h1, h2, h3⟩ := p
  exact ⟨only_weak hO (fun y e => .inr (.inr (.inr e))), cl, rev', C', new, Ks', S', h.store hO hs hG, hG, h1, h2, h3⟩
theorem McPost.clock {w : World} {m : Ids} {cl : Int} {rev C : Nat} {chs : List Ver} {Ks : List Value} {S : List Nat} (h : Mc w m cl rev C chs Ks S) (cl' : Int) : McPost w m rev C chs Ks S (w.setCell ⟨m.mb, 3, none⟩ (.int .i64 cl')) :=
  ⟨only_weak (F := fun y => y = m.mb) ((Only.refl (fun y => y = m.mb) w).set ⟨m.mb, 3, none⟩ (fun _ => rfl) _) (fun y e => .inl e), cl', rev, C, [], Ks, S, by simpa using h.clock cl', by obtain ⟨op, hs⟩ := h.st; exact ⟨fun _ _ => Nat.le_refl _, fun a _ => hs.nd a⟩, by omega, by omega, .inl ⟨rfl, rfl⟩⟩
theorem only_set5 {G : Nat → Prop} {w w1 : World} (h : Only G w w1) (b : Nat) (hb : G b) {a0 a1 a2 a3 a4 : Value} :
    Only G w (((((w1.setCell ⟨b, 0, none⟩ a0).setCell ⟨b, 1, none⟩ a1).setCell ⟨b, 2, none⟩ a2).setCell ⟨b, 3, none⟩ a3).setCell ⟨b, 4, none⟩ a4) :=
  ((((h.set ⟨b, 0, none⟩ (fun _ => hb) _).set ⟨b, 1, none⟩ (fun _ => hb) _).set ⟨b, 2, none⟩ (fun _ => hb) _).set ⟨b, 3, none⟩ (fun _ => hb) _).set ⟨b, 4, none⟩ (fun _ => hb) _
/-- The assertions of the getters. -/
theorem tw_s (v : Value) (w : World) : Sem.run Tryz.prog (Instr.typeAssert (.iface 29 v) 20 29 false) w = .ok v w := by kernel_rfl
theorem tw_b (v : Value) (w : World) : Sem.run Tryz.prog (Instr.typeAssert (.iface 78 v) 20 78 false) w = .ok v w := by kernel_rfl
theorem tw_t (v : Value) (w : World) : Sem.run Tryz.prog (Instr.typeAssert (.iface 80 v) 20 80 false) w = .ok v w := by kernel_rfl
set_option maxRecDepth 100000 in
theorem g_store {w : World} {b sb bb tb : Nat} {cl : Int} (h : Blk w b (mcells sb bb tb cl)) : Calls Tryz.prog 29 #[Ptr b] w fun e w' => e = .returned (Ptr sb) ∧ w = w' := by
  have hta := tw_s
  have hc := h.cell
  clear h
  go_enter Tryz.func29, Tryz.ntmps29
  go_wp2
  go_ret
  exact ⟨rfl, rfl⟩
set_option maxRecDepth 100000 in
theorem g_book {w : World} {b sb bb tb : Nat} {cl : Int} (h : Blk w b (mcells sb bb tb cl)) : Calls Tryz.prog 62 #[Ptr b] w fun e w' => e = .returned (Ptr bb) ∧ w = w' := by
  have hta := tw_b
  have hc := h.cell
  clear h
  go_enter Tryz.func62, Tryz.ntmps62
  go_wp2
  go_ret
  exact ⟨rfl, rfl⟩
set_option maxRecDepth 100000 in
theorem g_table {w : World} {b sb bb tb : Nat} {cl : Int} (h : Blk w b (mcells sb bb tb cl)) : Calls Tryz.prog 31 #[Ptr b] w fun e w' => e = .returned (Ptr tb) ∧ w = w' := by
  have hta := tw_t
  have hc := h.cell
  clear h
  go_enter Tryz.func31, Tryz.ntmps31
  go_wp2
  go_ret
  exact ⟨rfl, rfl⟩
end Go.Proofs.YtbheebpfbabffaaGreat.Wat

