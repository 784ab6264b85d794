/- Joined: a part of the proof of TopWatches. -/
import Derived.Test.YtbheebpfbabffaaGreatWFNote
import Derived.RangeFuncNested
import Derived.RangeFuncBound
import Derived.RangeFuncCalls
import Derived.RangeFuncLeaves
import Derived.Shelf.Abstract
import Derived.Shelf.RegionOpen
import Derived.WalkKit
import Derived.OwnWalkIn
import Derived.TacticsInMore
import Derived.LoopNIn
import Derived.LoopIn
import Derived.Sort.LoopGhostIn
import Derived.Sort.MapsRangeIn
import Derived.RegionIn
import Derived.Maps.AppendAt
set_option linter.unusedSimpArgs false
set_option linter.unusedVariables false
namespace Go.Proofs.YtbheebpfbabffaaGreat.Wat
open Go.RowKit Go Go.Lib Mach Go.MapKept Go.Shelf
open Go.ChangeMaps (setBlock)
attribute [local go_sem] Oper.semAt_some

section
variable {F : Fence} {n : Nat} {P : Program} {ops : Array Oper} {Q : Exit → Act → World → Prop} {a : Act} {w : World} {rest : List Oper} {o : Oper}
theorem wpListIn_range_map (hg : o.guard = none) (m : Operand) (t : TypeId) (hop : o.op = Op.range t m) (k e : TypeId) (ht : P.underlying t = some (.map k e)) {d : TypeDesc} (b : Nat) (l : List MapEntry) (hm : a.eval m = .map (some b)) (h : MapK w d b l)
    (hK : ∀ w', Iter w' d b w.heap.size l l → w.grownBy w' none → w'.heap.size = w.heap.size + 1 → wpListIn F n P ops Q rest (a.put o.dst (.pointer (some ⟨w.heap.size, 0, none⟩))) w') :
    wpListIn F n P ops Q (o :: rest) a w := by
  have hlt := h.lt
  obtain ⟨c, hb, hs, hks⟩ := h
  have hrun := run_range_map w t k e b l.toArray c ht hb
  refine wpListIn_plain hg fun K' hK' => ?_
  unfold Oper.wpIn
  refine ⟨?_, ?_⟩
  · simp [Oper.about, hop]
  rw [Oper.semAt_plain F _ _ (by rw [hop]; intro c hc'; cases hc')]
  simp [execOp, hop, hm, hrun, Result.andThen]
  refine hK' _ _ (hK _ ⟨c, c, #[], c, (heap_alloc_old w _ hlt).trans hb, hs, hks, heap_alloc_new w _, fun x hx => hs.1 x (by simpa using hx), Nat.le_refl _, Nat.le_refl _, ?_⟩ (World.grownBy_alloc w _ none) (by simp))
  simp [leftOf]
  exact (List.filter_eq_self.2 (fun _ _ => rfl)).symm

theorem only_grownBy {r : Nat} {w w' : World} (h : Only (fun y => y = r) w w') : w.grownBy w' (some r) := ⟨h.os, h.tape, h.output, h.size, fun k hk hn => h.block k hk (fun e => hn (by rw [e]))⟩
theorem wpListIn_next_map (hg : o.guard = none) (it : Operand) (hop : o.op = Op.next it false) {d : TypeDesc} (b r : Nat) (l left : List MapEntry) (hit : a.eval it = .pointer (some ⟨r, 0, none⟩)) (h : Iter w d b r l left)
    (hDone : left = [] → wpListIn F n P ops Q rest (a.put o.dst (.tuple #[.bool false])) w)
    (hMore : ∀ (x : MapEntry) (left' : List MapEntry) (w' : World), x ∈ l → left'.length < left.length → Iter w' d b r l left' → w.grownBy w' (some r) → w'.heap.size = w.heap.size →
      (Instr.entry (.pointer (some ⟨r, 0, none⟩))).run P w' = .ok (.tuple #[x.key, x.val]) w' → wpListIn F n P ops Q rest (a.put o.dst (.tuple #[.bool true, x.key, x.val])) w') :
    wpListIn F n P ops Q (o :: rest) a w := by
  have hne := h.ne
  obtain ⟨c, since, seen, c0, hb, hs, hks, hr, hold, hsc, hc0, rfl⟩ := h
  refine wpListIn_plain hg fun K' hK' => ?_
  unfold Oper.wpIn
  refine ⟨?_, ?_⟩
  · simp [Oper.about, hop]
  rw [Oper.semAt_plain F _ _ (by rw [hop]; intro c hc'; cases hc')]
  rcases run_next_at (P := P) w o.type r b since c0 seen l.toArray c hr hb (by simpa using hold) hsc with ⟨h0, hrun⟩ | ⟨x, hx, w1, hw1, hrun⟩
  · simp [execOp, hop, hit, hrun, Result.andThen]
    exact hK' _ _ (hDone (List.length_eq_zero_iff.1 (by simpa using h0)))
  · simp [execOp, hop, hit, hrun, Result.andThen]
    have hxl : x ∈ l := by simpa using (mem_left hx).1
    have h1 : w1.heap = w.heap := by rcases hw1 with rfl | rfl <;> rfl
    have hb' : (setBlock w1 r (.mapIter (some b) since (seen.push x.born) c)).heap[b]? = some (.map l.toArray c) := by
      simp [setBlock, h1, Array.getElem?_setIfInBounds, hne.symm, hb]
    have hr' : (setBlock w1 r (.mapIter (some b) since (seen.push x.born) c)).heap[r]? = some (.mapIter (some b) since (seen.push x.born) c) := by
      have := (Array.getElem?_eq_some_iff.1 hr).1
      simp [setBlock, h1, Array.getElem?_setIfInBounds, this]
    have hO : Only (fun y => y = r) w w1 := by rcases hw1 with rfl | rfl; exact Only.refl _ _; exact (Only.refl _ _).drew
    refine hK' _ _ (hMore x (leftOf l.toArray (seen.push x.born)).toList _ hxl ?_ ⟨c, since, seen.push x.born, c, hb', hs, hks, hr', hold, by omega, Nat.le_refl _, rfl⟩ (only_grownBy (only_setBlock hO r (fun _ => rfl) _)) (by simp [setBlock, h1])
      (run_entry_at _ r b since seen l.toArray c x hr' hb' (by simpa using hxl) (by simpa using hs.2.1)))
    simpa using left_shrinks l.toArray seen x hx
end

theorem Iter.walks {w w' : World} {d : TypeDesc} {b r : Nat} {l left : List MapEntry} (h : Iter w d b r l left) (k : KeepsWalks w w') : Iter w' d b r l left := by
  obtain ⟨c, s, n, c0, hb', hs, hk, hr', h⟩ := h
  exact ⟨c, s, n, c0, k.same _ _ hb' rfl, hs, hk, k.same _ _ hr' rfl, h⟩
theorem Iter.isWalk {w : World} {d : TypeDesc} {b r : Nat} {l left : List MapEntry} (h : Iter w d b r l left) : ∃ o : Obj, w.heap[r]? = some o ∧ o.isWalk = true := by
  obtain ⟨c, s, n, c0, hb', hs, hk, hr', h⟩ := h
  exact ⟨_, hr', rfl⟩

abbrev Lse := Int × Int × Int
def Lse.cells (x : Lse) : List Value := [.int .i64 x.1, .int .i64 x.2.1, .int .i64 x.2.2]
set_option maxRecDepth 100000 in
set_option maxHeartbeats 1000000 in
theorem values1_in (F : Fence) (n : Nat) (hf : F.fn 141) (hro : F.round = none) (hn : 1 ≤ n) (l Bm bm : Nat) (ls : List MapEntry) (hvals : ∀ e ∈ ls, ∃ a b c : Int, e.val = .agg #[.int .i64 a, .int .i64 b, .int .i64 c])
    (J Jx : List Lse → World → Prop) (W : World) (hJ : AbidesFrom W.heap.size J) (hJx : AbidesFrom W.heap.size Jx)
    (hY : ∀ pre x W1, J pre W1 → pre.length < ls.length → YieldAt F (n - 1) Tryz.prog l #[.agg (Lse.cells x).toArray] W1 fun e W' => (e = .returned (.bool true) ∧ J (pre ++ [x]) W' ∧ KeepsWalks W1 W') ∨ (e = .returned (.bool false) ∧ Jx (pre ++ [x]) W'))
    (hm : W.cell? ⟨Bm, 0, none⟩ = some (.map (some bm))) (hM : MapK W (.int .i64) bm ls) (h0 : J [] W) :
    CallsIn F n Tryz.prog 141 #[.func (.yield l) #[] #[], .pointer (some ⟨Bm, 0, none⟩)] W fun e W' => (∃ v, e = .returned v) ∧ ((∃ xs : List Lse, xs.length ≤ ls.length ∧ J xs W') ∨ (∃ pre : List Lse, True ∧ Jx pre W')) := by
  have HY : Aside _ := hY
  have HV : Aside _ := hvals
  have HM : Aside _ := hM
  clear hY hvals hM
  refine callsIn_of_wp Tryz.func141 rfl hf ?_ hro
  simp only [Tryz.ntmps141, List.size_toArray, List.length_cons, List.length_nil, Nat.reduceAdd, Nat.reduceSub, Array.replicate_succ, Array.replicate_zero, List.push_toArray, List.append_toArray, List.nil_append, List.cons_append]
  gi_wp2_with (first
    | (gi_at_range; refine wpListIn_range_map rfl _ _ rfl 3 148 Tryz.underlying159 bm ls rfl HM.out ?_; intro w0 hI0 hg0 hs0)
    | gi_in)
  go_frame
  have hJ0 := hJ [] W w0 none h0 hg0 (fun r e => by cases e)
  have hsz : W.heap.size ≤ W.heap.size := Nat.le_refl _
  clear h0 hg0 hs0 hm HM
  generalize W.heap.size = r at *
  gi_loopg [4] ls.length (fun kx _ wr => ∃ (left : List MapEntry) (pre : List Lse), Iter wr (.int .i64) bm r ls left ∧ kx = left.length ∧ pre.length + left.length ≤ ls.length ∧ J pre wr)
  case atStart => exact ⟨ls, [], hI0, rfl, by simp, hJ0⟩
  case round =>
    obtain ⟨left, pre, hI, hkx, hle, hJp⟩ := hrel
    gi_wp2_with (first
      | (gi_at_next; refine wpListIn_next_map rfl _ rfl bm r ls left rfl hI ?_ ?_)
      | gi_in)
    · intro h0
      gi_wp2
      go_end0
      exact ⟨⟨_, rfl⟩, .inl ⟨pre, by omega, hJp⟩⟩
    · intro x left' w2 hx hlt hI2 hg2 hs2 hen
      have hJ2 := hJ pre wr w2 (some r) hJp hg2 (fun r' e => by cases e; exact ⟨Nat.le_refl _, hI.isWalk⟩)
      obtain ⟨a, b, c, hv⟩ := HV.out x hx
      obtain ⟨kx', hkx'⟩ := isKey_int (hI.map.key x hx)
      rw [hv, hkx'] at hen
      rw [hv, hkx']
      clear hs2 hv hkx'
      have hg4 := World.grownBy_alloc w2 (.cells #[.int .i64 a, .int .i64 b, .int .i64 c] 148) none
      have hJ4 := hJ pre w2 _ none hJ2 hg4 (fun r e => by cases e)
      have hI4 := hI2.walks (KeepsWalks.alloc w2 (.cells #[.int .i64 a, .int .i64 b, .int .i64 c] 148))
      obtain ⟨fn, tmps, assign, body, hy, hR⟩ := HY.out pre (a, b, c) _ hJ4 (by omega)
      unfold Lse.cells at hy
      gi_wp2
      refine hR.mono ?_
      rintro e W3 (⟨rfl, hJ3, hk3⟩ | ⟨rfl, hJx3⟩)
      · have hI5 := hI4.walks hk3
        gi_wp2
        gi_roundg left'.length
        case measure => omega
        case rel => exact ⟨left', pre ++ [(a, b, c)], hI5, rfl, by simp; omega, hJ3⟩
      · gi_wp2
        refine bodyPost_ret (results_none rfl _ _ _) rfl ?_
        exact ⟨⟨_, rfl⟩, .inr ⟨_, trivial, hJx3⟩⟩

theorem MapK.walks {w w' : World} {d : TypeDesc} {b : Nat} {l : List MapEntry} (h : MapK w d b l) (k : KeepsWalks w w') : MapK w' d b l := by
  obtain ⟨c, hb, h⟩ := h
  exact ⟨c, k.same _ _ hb rfl, h⟩
theorem values_stops (F : Fence) (n : Nat) (hf : F.fn 141) (hro : F.round = none) (hn : 1 ≤ n) (Bm bm : Nat) (ls : List MapEntry) (hvals : ∀ e ∈ ls, ∃ a b c : Int, e.val = .agg #[.int .i64 a, .int .i64 b, .int .i64 c])
    (w : World) (hBm : Bm < w.heap.size) (hm : w.cell? ⟨Bm, 0, none⟩ = some (.map (some bm))) (hM : MapK w (.int .i64) bm ls) :
    SeqStopsK F n Tryz.prog 141 #[.pointer (some ⟨Bm, 0, none⟩)] (fun x : Lse => #[.agg (Lse.cells x).toArray]) KeepsWalks (fun xs => xs.length ≤ ls.length) (fun _ => True) ls.length w := fun l J Jx W hW hJ hJx hY h0 =>
  values1_in F n hf hro hn l Bm bm ls hvals J Jx W hJ hJx hY ((hW.cell (p := ⟨Bm, 0, none⟩) hBm).trans hm) (hM.keep hW) h0
end Go.Proofs.YtbheebpfbabffaaGreat.Wat

namespace Go.Proofs.YtbheebpfbabffaaGreat.Wat
open Go.RowKit Go Go.Lib Mach Go.MapKept Go.Shelf
open Go.ChangeMaps (setBlock)
attribute [local go_sem] Oper.semAt_some

abbrev LseT : TypeId := 148
theorem lse_info : (Tryz.prog.info? 148).map (fun i => (i.zero, i.size, i.bytes)) = some (some (.agg #[.int .i64 0, .int .i64 0, .int .i64 0]), 3, 24) := by kernel_rfl
def lses (l : List Lse) : List Value := l.flatMap Lse.cells
theorem lses_snoc (l : List Lse) (x : Lse) : lses (l ++ [x]) = lses l ++ Lse.cells x := by simp [lses]
/-- The loop variable's box. -/
def LBox (n0 : Nat) (x : Lse) (a' : Act) (f : Nat → Act) (W : World) : Prop := ∃ Bx, n0 < Bx ∧ W.heap[Bx]? = some (.cells (Lse.cells x).toArray LseT (0, 0)) ∧ a' = f Bx
theorem lbox_own (B n0 : Nat) (x : Lse) (a' : Act) (f : Nat → Act) : OwnFrom B (fun (_ : Unit) W => LBox n0 x a' f W) := by
  rintro s X Y row ⟨Bx, h1, h2, h3⟩ hg hr
  refine ⟨Bx, h1, (hg.block Bx (Array.getElem?_eq_some_iff.1 h2).1 (fun e => ?_)).trans h2, h3⟩
  obtain ⟨-, o, ho, hc⟩ := hr Bx e.symm
  rw [h2] at ho
  cases ho
  cases hc
theorem lbox_cell {W : World} {Bx : Nat} {x : Lse} (h : W.heap[Bx]? = some (.cells (Lse.cells x).toArray LseT (0, 0))) : ∀ o, W.cell? ⟨Bx, o, none⟩ = (#[.int .i64 x.1, .int .i64 x.2.1, .int .i64 x.2.2] : Array Value)[o]? := fun o => by
  simp [World.cell?, h, Lse.cells]
theorem cells_new (w : World) (xs : List Value) (t : TypeId) : ∀ j u, xs[j]? = some u → (w.alloc (.cells xs.toArray t)).cell? ((⟨w.heap.size, 0, none⟩ : Addr).add j) = some u := by
  intro j u hj
  have hc := alloc_new w xs.toArray t
  by_cases h0 : j = 0
  · subst h0
    simp [Addr.add, hj, hc]
  · simp [Addr.add, h0, hj, hc]

set_option maxRecDepth 100000 in
set_option maxHeartbeats 4000000 in
theorem appendSeq_in (F : Fence) (n : Nat) (hA : F.fn 164) (hf : F.fn 141) (hro : F.round = none) (hn : 3 ≤ n) (Bm bm : Nat) (ls : List MapEntry)
    (hvals : ∀ e ∈ ls, ∃ a b c : Int, e.val = .agg #[.int .i64 a, .int .i64 b, .int .i64 c]) (hl : ls.length ≤ 2000) (w : World) (hBm : Bm < w.heap.size) (hm : w.cell? ⟨Bm, 0, none⟩ = some (.map (some bm))) (hM : MapK w (.int .i64) bm ls) :
    CallsIn F n Tryz.prog 164 #[.slice none 0 0, .func (.func 141) #[] #[.pointer (some ⟨Bm, 0, none⟩)]] w fun e W' =>
      ∃ (v : Value) (xs : List Lse), e = .returned v ∧ xs.length ≤ ls.length ∧ W'.ownsRow w.heap.size LseT 3 v xs.length (lses xs) ∧ Below w.heap.size w W' := by
  have h1 : 1 ≤ n := by omega
  obtain ⟨i0, hi, hz0, hz1, hz2⟩ := info_parts lse_info
  have hseq := values_stops F (n - 1) hf hro (by omega) Bm bm ls hvals w hBm hm hM
  refine callsIn_of_wp_marks Tryz.func164 rfl hA ?_ hro
  simp only [Tryz.ntmps164, List.size_toArray, List.length_cons, List.length_nil, Nat.reduceAdd, Nat.reduceSub, Array.replicate_succ, Array.replicate_zero, List.push_toArray, List.append_toArray, List.nil_append, List.cons_append]
  have HM : Aside _ := hM
  have HS : Aside _ := hseq
  have HV : Aside _ := hvals
  clear hM hseq hvals hm
  gi_wp2_with fail
  obtain ⟨wB, hwB⟩ : ∃ wB, wB = w.alloc (.cells #[.slice none 0 0] 145) := ⟨_, rfl⟩
  have bO : Boxed wB w.heap.size 145 (.slice none 0 0) := by rw [hwB]; exact Boxed.new w 145 (.slice none 0 0)
  have hB0 : Below w.heap.size w wB := by rw [hwB]; exact (Below.refl _ w).alloc (Nat.le_refl _) _
  have hsB : wB.heap.size = w.heap.size + 1 := by rw [hwB]; simp
  rw [← hwB]
  clear hwB
  have HSB : Aside _ := hsB
  clear hsB
  refine wpIn_rangeFunc_ownH hro h1 (gf := 141) (lb := #[.pointer (some ⟨Bm, 0, none⟩)]) rfl hf (enters_of Tryz.func141 (by kernel_rfl) rfl)
    HS.out walksK_t (fun W l o o' _ h hc hw => walksK_b (w := wB) W l o o' ‹_› h hc hw) hB0 (fun _ => rfl)
    (fun pre W => (∃ v, Boxed W w.heap.size 145 v ∧ W.ownsRow w.heap.size LseT 3 v pre.length (lses pre) ∧ True) ∧ Below w.heap.size w W)
    (fun _ _ _ => False)
    (OwnFrom.and (Own.from (holdsRow_own w.heap.size w.heap.size 145 LseT 3 (fun pre : List Lse => pre.length) lses (fun _ _ => True)) _) (ownFrom_below (Nat.le_refl _) hB0.size))
    (fun _ _ _ _ _ hs _ _ => hs)
    ⟨⟨_, bO, World.ownsRow_nil _ _ _ _, trivial⟩, hB0⟩
    (fun x a' W => LBox w.heap.size x a' (fun Bx => { tmps := #[.slice none 0 0, .func (.func 141) #[] #[.pointer (some ⟨Bm, 0, none⟩)], .pointer (some ⟨w.heap.size, 0, none⟩), undef, .slice none 0 0, .pointer (some ⟨Bx, 0, none⟩), .func (.func 141) #[] #[.pointer (some ⟨Bm, 0, none⟩)], .agg (Lse.cells x).toArray, undef, undef, undef, undef, undef], defers := [] }) W)
    (fun x a' => lbox_own _ _ _ _ _) ?assign ?body ?done ?stop
  case assign =>
    rintro l pre x W K ⟨⟨v, hv, hrow, -⟩, hB⟩ hK
    obtain ⟨a, b, c⟩ := x
    have hlt : w.heap.size < W.heap.size := hv.lt
    have HK := hK _ _ ((KeepsOthers.alloc W (.cells #[.int .i64 a, .int .i64 b, .int .i64 c] LseT)).from _) (KeepsWalks.alloc _ _) ⟨⟨v, hv.alloc _, hrow.alloc _, trivial⟩, hB.alloc hB.size _⟩ ⟨W.heap.size, hlt, World.alloc_heap_new W _, rfl⟩
    clear hK hv hrow
    unfold Lse.cells at HK ⊢
    gi_wp2
    exact HK
  case body =>
    rintro l pre x a' W hl' ⟨r, hr⟩ ⟨⟨v, hv, hrow, -⟩, hB⟩ ⟨Bx, hBx, bX, rfl⟩ hlt
    have hc := hv.cell
    have hcx := lbox_cell bX
    obtain ⟨a, b, c⟩ := x
    have hle : pre.length + 1 ≤ 2000 := by omega
    have hcn := cells_new W [.int .i64 a, .int .i64 b, .int .i64 c] LseT
    have hge := hB.size
    clear hl' hr bX hlt
    unfold Lse.cells
    dsimp only at hcx ⊢
    gi_wp2_with (gi_at_builtin; refine wpListIn_append_own _ rfl _ _ 145 rfl w.heap.size LseT i0 (.agg #[.int .i64 0, .int .i64 0, .int .i64 0]) 3 24 Tryz.underlying145 hi hz0 hz1 hz2 rfl (by decide) _ _ _ rfl (hrow.alloc _) ⟨W.heap.size, 0, none⟩ 1 1 [.int .i64 a, .int .i64 b, .int .i64 c] rfl rfl hcn (by simp [Value.oneCell']) (Nat.le_trans hle (by decide)) (Nat.le_trans (Nat.mul_le_mul_right 24 hle) (by decide)) (by simp; omega) ?_; intro v' w1 hown' hgrow _; obtain ⟨g', cap', rfl⟩ := ownsRow_succ hown'; obtain ⟨hv1, hv2, hr2, hk2, hb2⟩ := hv.appended (by decide) hrow hB.size (Nat.le_refl _) hown' hgrow; have hc1 := hv1.cell; have hf1 := hv1.frozen)
    exact ⟨hk2.from _, hk2.walks, ⟨⟨_, hv2, by rw [lses_snoc]; simpa [Lse.cells] using hr2, trivial⟩, hB.trans hb2⟩⟩
  case done =>
    rintro D ys W hD hys ⟨⟨v, hv, hrow, -⟩, hB⟩ hK
    have hc := hv.cell
    gi_wp2
    refine ⟨by simp, .inl ⟨_, _, rfl, run_takeDeferred hK, ?_⟩⟩
    exact ⟨_, results_tmp rfl _ _ _, v, ys, rfl, hys, ownsRow_putObj hrow _ hK rfl, hB.trans (belowK_b (w := w) (Nat.le_refl _) W D _ _ (by have := HSB.out; omega) hK rfl rfl)⟩
  case stop =>
    rintro D c pre W _ _ h _
    exact h.elim

theorem callsIn_wide3 {P : Program} {f : FuncId} {args : Array Value} {w : World} {R : Ending → World → Prop} (h : CallsIn Fence.wide 3 P f args w R) : Calls P f args w R := callsIn_wide.1 h
/-- maps.Values at a book's map. -/
theorem values_f (bm : Nat) (w : World) : Calls Tryz.prog 107 #[.map (some bm)] w fun e w' =>
    e = .returned (.func (.func 141) #[] #[.pointer (some ⟨w.heap.size, 0, none⟩)]) ∧ w' = w.alloc (.cells #[.map (some bm)] 159) := by
  go_enter Tryz.func107, Tryz.ntmps107
  go_wp2
  go_ret
  exact ⟨rfl, rfl⟩
set_option maxRecDepth 100000 in
theorem collect_f (Bm bm : Nat) (ls : List MapEntry) (hvals : ∀ e ∈ ls, ∃ a b c : Int, e.val = .agg #[.int .i64 a, .int .i64 b, .int .i64 c]) (hl : ls.length ≤ 2000) (w : World) (hBm : Bm < w.heap.size) (hm : w.cell? ⟨Bm, 0, none⟩ = some (.map (some bm))) (hM : MapK w (.int .i64) bm ls) :
    Calls Tryz.prog 139 #[.func (.func 141) #[] #[.pointer (some ⟨Bm, 0, none⟩)]] w fun e W' =>
      ∃ (v : Value) (xs : List Lse), e = .returned v ∧ xs.length ≤ ls.length ∧ W'.ownsRow w.heap.size LseT 3 v xs.length (lses xs) ∧ Below w.heap.size w W' := by
  have h := callsIn_wide3 (appendSeq_in Fence.wide 3 trivial trivial rfl (by omega) Bm bm ls hvals hl w hBm hm hM)
  have HH : Aside _ := h
  clear h hvals hm hM
  go_enter Tryz.func139, Tryz.ntmps139
  go_wp2_with fail
  go_at_call 164
  refine Calls.mono HH.out ?_
  rintro e w' ⟨v, xs, rfl, h1, h2, h3⟩
  go_wp2
  go_ret
  exact ⟨v, xs, rfl, h1, h2, h3⟩
end Go.Proofs.YtbheebpfbabffaaGreat.Wat

