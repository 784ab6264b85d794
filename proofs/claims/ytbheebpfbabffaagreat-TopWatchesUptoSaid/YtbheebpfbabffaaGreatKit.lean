/- Small lemmas that the walks of this session share. -/
import Derived.WalkKit
import Derived.Deep.LoopGhost
import Derived.Deep.QuietTactic
import Derived.BigQuiet
import Derived.KernelRfl
import Derived.Lib.Hide
set_option linter.unusedSimpArgs false
set_option linter.unusedVariables false
namespace Go.Proofs.YtbheebpfbabffaaGreat
open Go.RowKit Go

theorem ret_bool {a b : Bool} (h : a = b) : Ending.returned (.bool a) = .returned (.bool b) := by rw [h]
theorem ret_int {k : IntKind} {a b : Int} (h : a = b) : Ending.returned (.int k a) = .returned (.int k b) := by rw [h]

/-- A callee that leaves the world alone, in a region that only reads. -/
theorem quiet_same {P : Program} {f : FuncId} {args : Array Value} {w : World} {n : Nat} {v : Value}
    (h : Calls P f args (w.drewN n) fun e w' => e = .returned v ∧ w.drewN n = w') : Calls P f args (w.drewN n) fun e w'' => e = .returned v ∧ ∃ m, w'' = w.drewN m :=
  h.mono fun _ _ ⟨he, hm⟩ => ⟨he, n, hm.symm⟩
theorem quiet_same2 {P : Program} {f : FuncId} {args : Array Value} {w : World} {a n : Nat} {v : Value}
    (h : Calls P f args (w.drewN (a + n)) fun e w' => e = .returned v ∧ w.drewN (a + n) = w') : Calls P f args (w.drewN (a + n)) fun e w'' => e = .returned v ∧ ∃ m, w'' = w.drewN (a + m) :=
  h.mono fun _ _ ⟨he, hm⟩ => ⟨he, n, hm.symm⟩

/-- The tail of a call that only made blocks of its own. -/
theorem below_alloc1 (w : World) (o : Obj) (n : Nat) : Below w.heap.size w ((w.alloc o).drewN n) :=
  ⟨rfl, rfl, rfl, by simp, fun k hk => Below.heap_alloc _ _ _ hk⟩
theorem below_drewN {B : Nat} {a w : World} (h : Below B a w) (n : Nat) : Below B a (w.drewN n) := ⟨h.os, h.tape, h.output, h.size, h.block⟩

theorem tmod_eq (y k : Int) (h : y % k = 0) : (y.tmod k == 0) = true := by
  simp only [beq_iff_eq]; exact Int.tmod_eq_zero_of_dvd (Int.dvd_of_emod_eq_zero h)
theorem tmod_ne (y k : Int) (h : y % k ≠ 0) : (y.tmod k == 0) = false := by
  simp only [beq_eq_false_iff_ne]; exact fun e => h (Int.emod_eq_zero_of_dvd (Int.dvd_of_tmod_eq_zero e))
theorem bne_of_beq {a b : Int} {c : Bool} (h : (a == b) = c) : (a != b) = !c := by simp [bne, h]

/-- Behind a call that only made blocks of its own: old cells and marks read as before. -/
theorem bcell {W w1 : World} (hb : Below W.heap.size W w1) : (∀ b o, b < W.heap.size → w1.cell? ⟨b, o, none⟩ = W.cell? ⟨b, o, none⟩) ∧ (∀ b o, b < W.heap.size → w1.frozen? ⟨b, o, none⟩ = W.frozen? ⟨b, o, none⟩) :=
  ⟨fun b o h => hb.cell (p := ⟨b, o, none⟩) h, fun b o h => hb.frozen (p := ⟨b, o, none⟩) h⟩

/-- One more call behind what has been made so far; one more block. -/
theorem bthen {w w1 w2 : World} (h : Below w.heap.size w w1) (h2 : Below w1.heap.size w1 w2) : Below w.heap.size w w2 := h.trans (h2.mono h.size)
theorem bmore {w w1 : World} (h : Below w.heap.size w w1) (o : Obj) : Below w.heap.size w (w1.alloc o) := h.alloc h.size o

theorem bset {w w1 : World} (h : Below w.heap.size w w1) {a : Addr} (ha : w.heap.size ≤ a.block) (v : Value) : Below w.heap.size w (w1.setCell a v) := h.setCell ha v

/-- A block that was there keeps its cells behind a call that only made blocks of its own; .. behind one more block and such a call; the new block itself. -/
theorem keep0 {W w1 : World} (hb : Below W.heap.size W w1) {b : Nat} (h : b < W.heap.size) (o : Nat) : w1.cell? ⟨b, o, none⟩ = W.cell? ⟨b, o, none⟩ := hb.cell (p := ⟨b, o, none⟩) h
theorem alloc_old (W : World) (x : Obj) {b : Nat} (h : b < W.heap.size) (o : Nat) : (W.alloc x).cell? ⟨b, o, none⟩ = W.cell? ⟨b, o, none⟩ :=
  World.cell?_of_block (w := W) (Below.heap_alloc W x b h)
theorem alloc_new (W : World) (c : Array Value) (t : TypeId) (o : Nat) : (W.alloc (.cells c t)).cell? ⟨W.heap.size, o, none⟩ = c[o]? :=
  World.cell?_alloc_at c t _ o rfl
theorem keep1 {W w1 : World} {x : Obj} (hb : Below (W.alloc x).heap.size (W.alloc x) w1) {b : Nat} (h : b < W.heap.size) (o : Nat) : w1.cell? ⟨b, o, none⟩ = W.cell? ⟨b, o, none⟩ :=
  (keep0 hb (by simp; omega) o).trans (alloc_old W x h o)
theorem keepN {W w1 : World} {c : Array Value} {t : TypeId} (hb : Below (W.alloc (.cells c t)).heap.size (W.alloc (.cells c t)) w1) (o : Nat) : w1.cell? ⟨W.heap.size, o, none⟩ = c[o]? :=
  (keep0 hb (by simp) o).trans (alloc_new W c t o)
theorem size1 {W w1 : World} {x : Obj} (hb : Below (W.alloc x).heap.size (W.alloc x) w1) : W.heap.size < w1.heap.size := by
  have := hb.size; simp at this; omega

theorem keepF {W w1 : World} {c : Array Value} {t : TypeId} (hb : Below (W.alloc (.cells c t)).heap.size (W.alloc (.cells c t)) w1) (o : Nat) : w1.frozen? ⟨W.heap.size, o, none⟩ = false :=
  (hb.frozen (p := ⟨W.heap.size, o, none⟩) (by simp)).trans (World.frozen?_alloc_at c t _ o rfl)
theorem keepF0 {W w1 : World} (hb : Below W.heap.size W w1) {b : Nat} (h : b < W.heap.size) (o : Nat) : w1.frozen? ⟨b, o, none⟩ = W.frozen? ⟨b, o, none⟩ := hb.frozen (p := ⟨b, o, none⟩) h

/-- Two stores into one cell: the second counts. -/
theorem setCell_twice (W : World) (a : Addr) (u v : Value) : (W.setCell a u).setCell a v = W.setCell a v := by
  obtain ⟨b, o, s⟩ := a
  simp only [World.setCell]
  congr 1
  apply Array.ext_getElem?
  intro i
  simp only [Array.getElem?_modify]
  by_cases h : b = i
  · subst h
    cases hb : W.heap[b]? with
    | none => simp
    | some x =>
      cases x <;> simp
      cases s <;> simp
  · simp [h]
/-- .. with one into another cell of the same block between. -/
theorem setCell_over (W : World) (b i j : Nat) (h : i ≠ j) (u x v : Value) :
    ((W.setCell ⟨b, i, none⟩ u).setCell ⟨b, j, none⟩ x).setCell ⟨b, i, none⟩ v = (W.setCell ⟨b, j, none⟩ x).setCell ⟨b, i, none⟩ v := by
  simp only [World.setCell]
  congr 1
  apply Array.ext_getElem?
  intro k
  simp only [Array.getElem?_modify]
  by_cases hk : b = k
  · subst hk
    cases hb : W.heap[b]? with
    | none => simp
    | some o =>
      cases o <;> simp
      rename_i c e f
      apply Array.ext_getElem?
      intro q
      simp only [Array.getElem?_setIfInBounds, Array.size_setIfInBounds]
      by_cases h1 : i = q <;> by_cases h2 : j = q <;> simp_all [Array.getElem?_setIfInBounds]
  · simp [hk]

/-- For long chains of stores into one block (each rule without a condition, or with one that the others decide). -/
theorem isSome_setCell (W : World) (a : Addr) (v : Value) (a' : Addr) : ((W.setCell a v).cell? a').isSome = (W.cell? a').isSome := by
  obtain ⟨b, o, s⟩ := a
  obtain ⟨b', o', s'⟩ := a'
  simp only [World.setCell, World.cell?, Array.getElem?_modify]
  by_cases h : b = b'
  · subst h
    cases hb : W.heap[b]? with
    | none => simp
    | some x =>
      cases x <;> simp
      cases s' <;> simp
      cases s <;> simp [Array.getElem?_setIfInBounds]
      split <;> simp_all
      split <;> simp_all
  · simp [h]
theorem cell_same (W : World) (b i : Nat) (v : Value) (h : (W.cell? ⟨b, i, none⟩).isSome = true) : (W.setCell ⟨b, i, none⟩ v).cell? ⟨b, i, none⟩ = some v := by
  obtain ⟨u, hu⟩ := Option.isSome_iff_exists.1 h
  exact World.cell?_setCell_same _ _ _ hu

/-- Go's remainder made a number from 0 on. -/
theorem tmod_within (a n : Int) (hn : 0 < n) : (a.tmod n < 0 → a.tmod n + n = a % n) ∧ (¬ a.tmod n < 0 → a.tmod n = a % n) ∧ -n < a.tmod n ∧ a.tmod n < n := by
  have e := Int.tmod_add_mul_tdiv a n
  have h1 := Int.tmod_lt_of_pos a hn
  have h2 : -n < a.tmod n := by
    by_cases ha : 0 ≤ a
    · have := Int.tmod_nonneg n ha; omega
    · have h3 := Int.tmod_lt_of_pos (-a) hn
      rw [Int.neg_tmod] at h3; omega
  have hm : a % n = a.tmod n % n := by
    have : (a.tmod n + n * a.tdiv n) % n = a.tmod n % n := Int.add_mul_emod_self_left _ _ _
    rw [e] at this; exact this
  refine ⟨fun h => ?_, fun h => ?_, h2, h1⟩
  · rw [hm, ← Int.add_emod_right, Int.emod_eq_of_lt (by omega) (by omega)]
  · rw [hm, Int.emod_eq_of_lt (by omega) (by omega)]
end Go.Proofs.YtbheebpfbabffaaGreat

