/- Joined: a part of the proof of TopWatches. -/
import Derived.Lib.AppendZerosOnto
import Derived.Laws.OwnMore
import Derived.RegionTactic
import Derived.Deep.RegionWith
import Derived.Test.YtbheebpfbabffaaGreatVP
set_option linter.unusedSimpArgs false
set_option linter.unusedVariables false
namespace Go.Proofs.YtbheebpfbabffaaGreat.Wat
open Go.RowKit Go Go.Lib Mach Go.MapKept

theorem run_app0_kv (w : World) (a : Addr) (c : Nat) (ty : TypeId) : (Builtin.append_ #[67, 67] ty #[.slice (some ⟨w.heap.size, 0, none⟩) 0 0, .slice (some a) 0 c]).run Tryz.prog (w.alloc (.cells #[] 51)) = .ok (.slice (some ⟨w.heap.size, 0, none⟩) 0 0) (w.alloc (.cells #[] 51)) := by
  obtain ⟨i0, hi0, hz0, hz1, hz2⟩ := info_parts kv_info
  simp [Builtin.append_, run_underlying Tryz.underlying67, sizeOf, typeInfo, hi0, Builtin.lenOf, Builtin.firstCells, Result.andThen, storeCells, loadCells, loadCellsFrom]
theorem heq_kv (w : World) (n c n' c' : Nat) (a : Addr) : (binOp .eql 67 (.slice (some a) n c) (.slice none n' c')).run Tryz.prog w = .ok (.bool false) w := by
  have := Lib.run_eql_slice_nil (P := Tryz.prog) w 67 _ (some a) n c n' c' Tryz.underlying67
  simpa using this
set_option maxHeartbeats 4000000 in
set_option maxRecDepth 100000 in
theorem clo_kv (b off n c : Nat) (xs : List Value) (w : World) (hn0 : 0 < n) (hn : n ≤ 3000000) (hl : xs.length = n * 6) (hb : b < w.heap.size) (h1 : ∀ u ∈ xs, u.oneCell' = true) (hc : ∀ j u, xs[j]? = some u → w.cell? ⟨b, off + j, none⟩ = some u) :
    Calls Tryz.prog 114 #[.slice (some ⟨b, off, none⟩) n c] w fun e w' => (∃ v', e = .returned v' ∧ w'.ownsRow w.heap.size 51 6 v' n xs) ∧ Below w.heap.size w w' := by
  have heq := heq_kv
  obtain ⟨i0, hi0, hz0, hz1, hz2⟩ := info_parts kv_info
  have hown : (w.alloc (.cells #[] 51)).ownsRow w.heap.size 51 6 (.slice (some ⟨w.heap.size, 0, none⟩) 0 0) 0 [] := ⟨rfl, .inr ⟨w.heap.size, 0, #[], rfl, Nat.le_refl _, heap_alloc_new w _, Nat.le_refl _, Nat.zero_le _, rfl, rfl⟩⟩
  have hmx : 0 + n ≤ maxLen := by unfold maxLen; omega
  have hkk : (0 + n) * 64 ≤ 140737488355328 := by omega
  have HC : Aside _ := hc
  clear hc
  go_enter Tryz.func114, Tryz.ntmps114
  go_wp2_with (at_builtin; refine wpList_append_lies _ rfl _ _ 67 rfl w.heap.size 51 i0 (.agg #[.string ⟨#[]⟩, .string ⟨#[]⟩, .int .i64 0, .int .i64 0, .int .i64 0, .int .i64 0]) 6 64 Tryz.underlying67 hi0 hz0 hz1 hz2 rfl (by decide) (.slice (some ⟨w.heap.size, 0, none⟩) 0 0) 0 [] rfl hown ⟨b, off, none⟩ n c xs rfl hl (fun j u hj => by rw [Addr.add_lit]; exact (alloc_old w _ hb _).trans (HC.out j u hj)) h1 hn0 hmx hkk (by simp) (w.heap.size + 1) (by simp) (fun g cap w' hown' hgb hat hgl => ?_))
  go_ret
  rw [Nat.zero_add, List.nil_append] at hown'
  refine ⟨⟨_, rfl, hown'⟩, ?_⟩
  exact (only_grown (G := fun y => w.heap.size ≤ y) ((Only.refl _ w).alloc _) hgb (fun y hy _ => by simp [Value.ownBlock] at hy; omega)).below _ (Nat.le_refl _) (fun k hk h => by omega)
set_option maxHeartbeats 4000000 in
set_option maxRecDepth 100000 in
theorem clo_kv_0 (a : Option Addr) (c : Nat) (w : World) :
    Calls Tryz.prog 114 #[.slice a 0 c] w fun e w' => (∃ v', e = .returned v' ∧ w'.ownsRow w.heap.size 51 6 v' 0 []) ∧ Below w.heap.size w w' := by
  cases a with
  | none =>
    go_enter Tryz.func114, Tryz.ntmps114
    have heq : ∀ (w : World) (n c n' c' : Nat), (binOp .eql 67 (.slice none n c) (.slice none n' c')).run Tryz.prog w = .ok (.bool true) w := fun w n c n' c' => by
      have := Lib.run_eql_slice_nil (P := Tryz.prog) w 67 _ none n c n' c' Tryz.underlying67
      simpa using this
    go_wp2
    go_ret
    exact ⟨⟨_, rfl, World.ownsRow_nil _ _ _ _⟩, Below.refl _ _⟩
  | some a =>
    have heq := heq_kv
    obtain ⟨i0, hi0, hz0, hz1, hz2⟩ := info_parts kv_info
    have hrun := fun ty => run_app0_kv w a c ty
    go_enter Tryz.func114, Tryz.ntmps114
    go_wp2_with (at_builtin; refine Lib.wpList_append_run _ rfl _ _ _ _ rfl _ _ rfl rfl _ _ (hrun _) ?_)
    go_ret
    exact ⟨⟨_, rfl, ⟨rfl, .inr ⟨w.heap.size, 0, #[], rfl, Nat.le_refl _, heap_alloc_new w _, Nat.le_refl _, Nat.zero_le _, rfl, rfl⟩⟩⟩, bmore (Below.refl _ _) _⟩
end Go.Proofs.YtbheebpfbabffaaGreat.Wat

namespace Go.Proofs.YtbheebpfbabffaaGreat.Wat
open Go.RowKit Go Go.Lib Mach Go.MapKept

theorem own_shape {w : World} {base : Nat} {e : TypeId} {size n : Nat} {v : Value} {xs : List Value} (h : w.ownsRow base e size v n xs) : ∃ a c, v = .slice a n c := by
  rcases h.2 with ⟨rfl, rfl⟩ | ⟨g, cap, cur, rfl, -⟩
  · exact ⟨_, _, rfl⟩
  · exact ⟨_, _, rfl⟩
/-- A row of n results that is being filled. -/
def ResB (w : World) (base lb n : Nat) : Prop := ∃ A : Array Value, w.heap[lb]? = some (.cells A ResT (0, 0)) ∧ A.size = n * 2 ∧ ∀ i, i < n → ∃ (x : Int) (v : Value) (m : Nat), A[i * 2]? = some (.int .i64 x) ∧ A[i * 2 + 1]? = some v ∧ m ≤ 3000000 ∧ Kvs w base v m ∧ lb ∉ blk v
theorem ResB.keep {w w' : World} {base lb n : Nat} (h : ResB w base lb n) (k : Below w.heap.size w w') : ResB w' base lb n := by
  obtain ⟨A, hA, hs, hi⟩ := h
  refine ⟨A, (k.block lb (Array.getElem?_eq_some_iff.1 hA).1).trans hA, hs, fun i hin => ?_⟩
  obtain ⟨x, v, m, h1, h2, h3, h4, h5⟩ := hi i hin
  exact ⟨x, v, m, h1, h2, h3, h4.keep k, h5⟩
theorem ResB.lt {w : World} {base lb n : Nat} (h : ResB w base lb n) : lb < w.heap.size := by
  obtain ⟨A, hA, -⟩ := h
  exact (Array.getElem?_eq_some_iff.1 hA).1
theorem ResB.cells {w : World} {base lb n : Nat} (h : ResB w base lb n) (j : Nat) (hj : j < n) : ∃ (x : Int) (v : Value), w.cell? ⟨lb, j * 2, none⟩ = some (.int .i64 x) ∧ w.cell? ⟨lb, j * 2 + 1, none⟩ = some v ∧ ∀ o, w.frozen? ⟨lb, o, none⟩ = false := by
  obtain ⟨A, hA, hs, hi⟩ := h
  obtain ⟨x, v, m, h1, h2, -⟩ := hi j hj
  exact ⟨x, v, by simp [World.cell?, hA, h1], by simp [World.cell?, hA, h2], fun o => by simp [World.frozen?, hA]⟩
theorem ResB.made (w : World) (base n : Nat) : ResB (w.alloc (.cells (madeCells #[.int .i64 0, .slice none 0 0] (n * 2)) ResT)) base w.heap.size n := by
  refine ⟨_, heap_alloc_new w _, size_madeCells _ _, fun i hi => ⟨0, .slice none 0 0, 0, ?_, ?_, by omega, Kvs.nil _ _, by simp [blk, Value.ownBlock]⟩⟩
  · rw [madeCells, Array.getElem?_map, Array.getElem?_eq_getElem (by simp; omega)]
    simp
  · rw [madeCells, Array.getElem?_map, Array.getElem?_eq_getElem (by simp; omega)]
    simp [show (i * 2 + 1) % 2 = 1 by omega]
theorem ResB.set {w : World} {base lb n j : Nat} (h : ResB w base lb n) (hj : j < n) (x : Int) (v : Value) (m : Nat) (hm : m ≤ 3000000) (hv : Kvs w base v m) (hlb : lb ∉ blk v) :
    ResB ((w.setCell ⟨lb, j * 2, none⟩ (.int .i64 x)).setCell ⟨lb, j * 2 + 1, none⟩ v) base lb n := by
  have hO : Only (fun y => y = lb) w ((w.setCell ⟨lb, j * 2, none⟩ (.int .i64 x)).setCell ⟨lb, j * 2 + 1, none⟩ v) := ((Only.refl (fun y => y = lb) w).set ⟨lb, j * 2, none⟩ (fun _ => rfl) _).set ⟨lb, j * 2 + 1, none⟩ (fun _ => rfl) _
  obtain ⟨A, hA, hs, hi⟩ := h
  refine ⟨(A.setIfInBounds (j * 2) (.int .i64 x)).setIfInBounds (j * 2 + 1) v, ?_, by simp [hs], fun i hin => ?_⟩
  · have hl := (Array.getElem?_eq_some_iff.1 hA).1
    simp [World.setCell, Array.getElem?_modify, hA]
  · have keepK : ∀ (v' : Value) (m' : Nat), Kvs w base v' m' → lb ∉ blk v' → Kvs ((w.setCell ⟨lb, j * 2, none⟩ (.int .i64 x)).setCell ⟨lb, j * 2 + 1, none⟩ v) base v' m' := fun v' m' ⟨l, hl, ho⟩ hb => ⟨l, hl, own_keep ho hO (fun y hy e => hb (e ▸ hy))⟩
    by_cases hij : i = j
    · subst hij
      refine ⟨x, v, m, ?_, ?_, hm, keepK v m hv hlb, hlb⟩
      · rw [Array.getElem?_setIfInBounds_ne (by omega), Array.getElem?_setIfInBounds_self_of_lt (by omega)]
      · rw [Array.getElem?_setIfInBounds_self_of_lt (by simp; omega)]
    · obtain ⟨x', v', m', h1, h2, h3, h4, h5⟩ := hi i hin
      refine ⟨x', v', m', ?_, ?_, h3, keepK v' m' h4 h5, h5⟩
      · rw [Array.getElem?_setIfInBounds_ne (by omega), Array.getElem?_setIfInBounds_ne (by omega)]; exact h1
      · rw [Array.getElem?_setIfInBounds_ne (by omega), Array.getElem?_setIfInBounds_ne (by omega)]; exact h2
theorem ress_len : ∀ rs : Rs, (ress rs).length = rs.length * 2
  | [] => rfl
  | p :: rs => by
    have := ress_len rs
    show (([.int .i64 p.1, p.2] : List Value) ++ ress rs).length = _
    rw [List.length_append, this, List.length_cons, List.length_cons, List.length_cons, List.length_nil]
    omega
theorem ResB.toRes {w : World} {base lb n : Nat} (h : ResB w base lb n) (hb : base ≤ lb) (hn : n ≤ 1000000) : ∃ rs : Rs, rs.length = n ∧ Ress w base (.slice (some ⟨lb, 0, none⟩) n n) rs := by
  obtain ⟨A, hA, hs, hi⟩ := h
  have hx : ∀ i, ∃ p : Int × Value, i < n → A[i * 2]? = some (.int .i64 p.1) ∧ A[i * 2 + 1]? = some p.2 ∧ ∃ m, m ≤ 3000000 ∧ Kvs w base p.2 m := fun i => by
    by_cases hin : i < n
    · obtain ⟨x, v, m, h1, h2, h3, h4, -⟩ := hi i hin
      exact ⟨(x, v), fun _ => ⟨h1, h2, m, h3, h4⟩⟩
    · exact ⟨(0, .nilIface), fun h => absurd h hin⟩
  obtain ⟨f, hf⟩ : ∃ f : Nat → Int × Value, ∀ i, i < n → A[i * 2]? = some (.int .i64 (f i).1) ∧ A[i * 2 + 1]? = some (f i).2 ∧ ∃ m, m ≤ 3000000 ∧ Kvs w base (f i).2 m := ⟨fun i => (hx i).choose, fun i => (hx i).choose_spec⟩
  have hr : ress ((List.range n).map f) = A.toList := by
    apply List.ext_getElem?
    intro q
    have hlen : (ress ((List.range n).map f)).length = n * 2 := by rw [ress_len]; simp
    by_cases hq : q < n * 2
    · have hqi : q / 2 < n := by omega
      have hg : ((List.range n).map f)[q / 2]? = some (f (q / 2)) := by simp [hqi]
      obtain ⟨g1, g2⟩ := ress_get hg
      obtain ⟨k1, k2, -⟩ := hf (q / 2) hqi
      by_cases hodd : q % 2 = 0
      · rw [show q = 2 * (q / 2) by omega, g1, Array.getElem?_toList, ← k1]
        congr 1; omega
      · rw [show q = 2 * (q / 2) + 1 by omega, g2, Array.getElem?_toList, ← k2]
        congr 1; omega
    · rw [List.getElem?_eq_none (by omega), List.getElem?_eq_none (by simp; omega)]
  refine ⟨(List.range n).map f, by simp, ⟨?_, .inr ⟨lb, n, A, by simp, hb, hA, by simp, by unfold maxLen; omega, by simp [hs], ?_⟩⟩, fun p hp => ?_⟩
  · rw [hr]; simp [hs]
  · rw [hr]
    simp only [List.length_map, List.length_range]
    rw [List.take_of_length_le (by simp [hs])]
  · obtain ⟨i, hi2, rfl⟩ := List.mem_map.1 hp
    exact (hf i (by simpa using hi2)).2.2

set_option maxHeartbeats 8000000 in
set_option maxRecDepth 100000 in
theorem twin_f {w : World} {b0 : Nat} {v : Value} {rs : Rs} (h : Ress w b0 v rs) (hn : rs.length ≤ 1000) (er rv tm : Int) (th : Bool) :
    Calls Tryz.prog 72 #[.agg #[.int .i64 er, .int .i64 rv, .bool th, v, .int .i64 tm]] w fun e w' => (∃ v' rs', e = .returned (.agg #[.int .i64 er, .int .i64 rv, .bool th, v', .int .i64 tm]) ∧ rs'.length = rs.length ∧ Ress w' w.heap.size v' rs') ∧ Below w.heap.size w w' := by
  obtain ⟨a, c, rfl⟩ := h.shape
  obtain ⟨i0, hi0, hz0, hz1, hz2⟩ := info_parts res_info
  obtain ⟨n, hnn⟩ : ∃ n, n = rs.length := ⟨_, rfl⟩
  have HN : Aside _ := hnn
  rw [← hnn] at hn ⊢
  clear hnn
  have hmk : ∀ w : World, (Instr.makeSlice 44 (.int .i64 (n : Int)) (.int .i64 (n : Int))).run Tryz.prog w = .ok (.slice (some ⟨w.heap.size, 0, none⟩) n n) (w.alloc (.cells (madeCells #[.int .i64 0, .slice none 0 0] (n * 2)) ResT)) := fun w => by
    have := run_makeSlice (w := w) 44 ResT i0 (.agg #[.int .i64 0, .slice none 0 0]) Tryz.underlying44 hi0 hz0 .i64 .i64 n n (by omega) (Int.le_refl _) (by rw [hz1]; omega) (by rw [hz2]; omega) (by omega)
    rw [hz1] at this
    simpa [Value.cells] using this
  go_enter Tryz.func72, Tryz.ntmps72
  obtain ⟨wA, hwA⟩ : ∃ wA, wA = ((w.alloc (.cells #[.int .i64 er, .int .i64 rv, .bool th, .slice a n c, .int .i64 tm] 46)).alloc (.cells #[.int .i64 0, .int .i64 0, .bool false, .slice none 0 0, .int .i64 0] 46)).alloc (.cells (madeCells #[.int .i64 0, .slice none 0 0] (n * 2)) ResT) := ⟨_, rfl⟩
  have hbA : Below w.heap.size w wA := by rw [hwA]; exact bmore (bmore (bmore (Below.refl _ _) _) _) _
  have hA : Blk wA w.heap.size #[.int .i64 er, .int .i64 rv, .bool th, .slice a n c, .int .i64 tm] := by rw [hwA]; exact ((Blk.new _ _ _).alloc _).alloc _
  have hB : Blk wA (w.heap.size + 1) #[.int .i64 0, .int .i64 0, .bool false, .slice none 0 0, .int .i64 0] := by rw [hwA]; exact (Blk.newAt (by simp)).alloc _
  have hL : ResB wA (w.heap.size + 1 + 1) (w.heap.size + 1 + 1) n := by
    rw [hwA]
    have := ResB.made ((w.alloc (.cells #[.int .i64 er, .int .i64 rv, .bool th, .slice a n c, .int .i64 tm] 46)).alloc (.cells #[.int .i64 0, .int .i64 0, .bool false, .slice none 0 0, .int .i64 0] 46)) (w.heap.size + 1 + 1) n
    simpa using this
  go_wp2
  rw [← hwA]
  clear hwA
  obtain ⟨lb, hlb⟩ : ∃ lb, lb = w.heap.size + 1 + 1 := ⟨_, rfl⟩
  have hlb1 : w.heap.size + 1 < lb := by omega
  rw [← hlb] at hL ⊢
  clear hlb hmk
  have hsA := hB.lt
  go_loopg [4, 5, 13] n (fun kx _ _ s13 wq => ∃ j : Nat, j ≤ n ∧ s13 = .int .i64 j ∧ kx = n - j ∧ ResB wq lb lb n ∧ Only (fun y => y = lb) wA wq)
  case atStart => exact ⟨0, Nat.zero_le _, rfl, rfl, hL, Only.refl _ _⟩
  case round =>
    obtain ⟨j, hj, rfl, hkx, hR, hO⟩ := hrel
    have gA := hA.only hO (by omega)
    have gB := hB.only hO (by omega)
    have hlt := hR.lt
    have hOw : Only (fun y => w.heap.size ≤ y) w wr := (Only.of_below hbA).trans hO (fun y hy e => by omega)
    by_cases hjn : j < n
    · obtain ⟨g, cap, e, -, hgl, -, hcell⟩ := own_some h.1 (by rw [← HN.out]; omega)
      obtain rfl : a = some ⟨g, 0, none⟩ := by simpa using congrArg (fun v => match v with | .slice a _ _ => a | _ => none) e
      obtain ⟨p, hp⟩ : ∃ p, rs[j]? = some p := ⟨_, List.getElem?_eq_getElem (by rw [← HN.out]; exact hjn)⟩
      obtain ⟨r1, r2⟩ := ress_get hp
      obtain ⟨m, hm, l, hl, ho⟩ := h.2 p (List.mem_of_getElem? hp)
      obtain ⟨px, pv⟩ := p
      obtain ⟨a5, c5, rfl⟩ := own_shape ho
      have hgk : wr.heap[g]? = w.heap[g]? := hOw.block g hgl (by omega)
      have e0 : wr.cell? ⟨g, j * 2, none⟩ = some (.int .i64 px) := (World.cell?_of_block (w := w) hgk).trans (hcell _ _ (by rw [Nat.mul_comm]; exact r1))
      have e1 : wr.cell? ⟨g, j * 2 + 1, none⟩ = some (.slice a5 m c5) := (World.cell?_of_block (w := w) hgk).trans (hcell _ _ (by rw [Nat.mul_comm]; exact r2))
      have hcl : ∀ w', Only (fun y => w.heap.size ≤ y) w w' → Calls Tryz.prog 114 #[.slice a5 m c5] w' fun e w2 => (∃ v', e = .returned v' ∧ Kvs w2 w'.heap.size v' m) ∧ Below w'.heap.size w' w2 := fun w' hO' => by
        by_cases hm0 : m = 0
        · subst hm0
          refine (clo_kv_0 a5 c5 w').mono ?_
          rintro e w2 ⟨⟨v', he, ho'⟩, hb⟩
          exact ⟨⟨v', he, [], rfl, ho'⟩, hb⟩
        · obtain ⟨g5, cap5, e5, -, hgl5, -, hcell5⟩ := own_some ho (by omega)
          obtain rfl : a5 = some ⟨g5, 0, none⟩ := by simpa using congrArg (fun v => match v with | .slice a _ _ => a | _ => none) e5
          refine (clo_kv g5 0 m c5 (kvs l) w' (by omega) hm ho.1 (Nat.lt_of_lt_of_le hgl5 hO'.size) (fun u hu => ?_) (fun q u hq => ?_)).mono ?_
          · obtain ⟨y, -, hy⟩ := List.mem_flatMap.1 hu
            simp [KVr.cells] at hy
            rcases hy with rfl | rfl | rfl | rfl | rfl | rfl <;> rfl
          · rw [Nat.zero_add]
            exact (World.cell?_of_block (w := w) (hO'.block g5 hgl5 (by omega))).trans (hcell5 q u hq)
          · rintro e w2 ⟨⟨v', he, ho'⟩, hb⟩
            exact ⟨⟨v', he, l, hl, ho'⟩, hb⟩
      have q1 := gA.cell
      clear h ho hcell r1 r2 hp
      go_wp2_with fail
      obtain ⟨wB, hwB⟩ : ∃ wB, wB = wr.alloc (.cells #[.int .i64 px, .slice a5 m c5] ResT) := ⟨_, rfl⟩
      have hbB : Below wr.heap.size wr wB := by rw [hwB]; exact bmore (Below.refl _ _) _
      have hP : Blk wB wr.heap.size #[.int .i64 px, .slice a5 m c5] := by rw [hwB]; exact Blk.new _ _ _
      have hcw := hcl wB.drew (hOw.trans (Only.of_below (F := fun y => w.heap.size ≤ y) hbB.drew) (fun _ _ h => h))
      have hRB : ResB wB.drew lb lb n := hR.keep hbB.drew
      have hd1 : ∀ o, wB.drew.cell? ⟨wr.heap.size, o, none⟩ = _ := hP.cell
      have hd2 := hP.cell
      have hwBs : lb < wB.drew.heap.size := Nat.lt_of_lt_of_le hlt hbB.size
      rw [← hwB]
      clear hwB e0 e1 q1
      generalize wr.heap.size = pb at hP hd1 hd2 ⊢
      go_region_with (go_at_call 114; refine hcw.mono ?_; rintro e w5 ⟨⟨v5, rfl, hK5⟩, hb5⟩; obtain ⟨a6, c6, rfl⟩ := hK5.shape; have hR5 := hRB.keep hb5; obtain ⟨y0, y1, hy0, hy1, hyf⟩ := hR5.cells j hjn; have hp5 := (hP.drew.keep hb5).cell)
      all_goals (
        go_wp2
        go_roundg (n - (j + 1))
        case measure => omega
        case rel =>
          refine ⟨j + 1, by omega, by simp, rfl, hR5.set hjn px (.slice a6 m c6) m hm ⟨hK5.choose, hK5.choose_spec.1, own_base hK5.choose_spec.2 (Nat.le_of_lt hwBs)⟩ (fun hm2 => by have := (own_lt hK5.choose_spec.2 lb hm2).1; omega), ?_⟩
          exact (((hO.then hbB.drew).then hb5).set ⟨lb, j * 2, none⟩ (fun _ => rfl) _).set ⟨lb, j * 2 + 1, none⟩ (fun _ => rfl) _)
    · obtain rfl : j = n := by omega
      obtain ⟨rs', hl', hRes⟩ := hR.toRes (Nat.le_refl _) (by omega)
      have q1 := gA.cell
      have q2 := gA.frz
      have q3 := gB.cell
      have q4 := gB.frz
      have hsame := cell_same
      have hsome := isSome_setCell
      clear h
      go_wp2
      have hOf : ∀ w5, Only (fun y => y = w.heap.size ∨ y = w.heap.size + 1) wr w5 → (∃ v' rs', Ending.returned (Value.agg #[.int .i64 er, .int .i64 rv, .bool th, .slice (some ⟨lb, 0, none⟩) j j, .int .i64 tm]) = .returned (.agg #[.int .i64 er, .int .i64 rv, .bool th, v', .int .i64 tm]) ∧ rs'.length = j ∧ Ress w5 w.heap.size v' rs') ∧ Below w.heap.size w w5 := fun w5 h5 => by
        refine ⟨⟨_, rs', rfl, hl', (hRes.only h5 (fun y hy e => by have := (hRes.lt y hy).1; omega)).base (by omega)⟩, ?_⟩
        exact (hOw.trans h5 (fun y hy e => by omega)).below _ (Nat.le_refl _) (fun k hk h => by omega)
      refine bodyPost_ret (v := .agg #[.int .i64 er, .int .i64 rv, .bool th, .slice (some ⟨lb, 0, none⟩) j j, .int .i64 tm]) (by simp [results, Tryz.results72, go_sem, q3, cell_same, isSome_setCell]) rfl (hOf _ ?_)
      exact ((((((Only.refl (fun y => y = w.heap.size ∨ y = w.heap.size + 1) wr).set ⟨w.heap.size, 3, none⟩ (fun _ => .inl rfl) _).set ⟨w.heap.size + 1, 0, none⟩ (fun _ => .inr rfl) _).set ⟨w.heap.size + 1, 1, none⟩ (fun _ => .inr rfl) _).set ⟨w.heap.size + 1, 2, none⟩ (fun _ => .inr rfl) _).set ⟨w.heap.size + 1, 3, none⟩ (fun _ => .inr rfl) _).set ⟨w.heap.size + 1, 4, none⟩ (fun _ => .inr rfl) _
end Go.Proofs.YtbheebpfbabffaaGreat.Wat

namespace Go.Proofs.YtbheebpfbabffaaGreat.Wat
open Go.RowKit Go Go.Lib Mach Go.MapKept

/-- A table of clients' last calls: what it reads is not of H. -/
def Table (w : World) (tb tm : Nat) (rows : List MapEntry) (H : Nat → Prop) : Prop := Blk w tb #[.map (some tm)] ∧ MapK w (.int .i64) tm rows ∧ rows.length ≤ 64 ∧
  ∀ e ∈ rows, ∃ (cl sq er rv t : Int) (th : Bool) (v : Value) (rs : Rs), e.val = .agg #[.int .i64 cl, .int .i64 sq, .int .i64 er, .int .i64 rv, .bool th, v, .int .i64 t] ∧ Ress w 0 v rs ∧ rs.length ≤ 32 ∧ ∀ y ∈ rb v rs, ¬ H y
theorem Table.only {G H : Nat → Prop} {w w' : World} {tb tm : Nat} {rows : List MapEntry} (h : Table w tb tm rows H) (k : Only G w w') (h1 : ¬ G tb) (h2 : ¬ G tm) (h3 : ∀ y, ¬ H y → ¬ G y) : Table w' tb tm rows H := by
  refine ⟨h.1.only k h1, h.2.1.only k h2, h.2.2.1, fun e he => ?_⟩
  obtain ⟨cl, sq, er, rv, t, th, v, rs, hv, hR, hn, hH⟩ := h.2.2.2 e he
  exact ⟨cl, sq, er, rv, t, th, v, rs, hv, hR.only k (fun y hy => h3 y (hH y hy)), hn, hH⟩
theorem Table.keep {H : Nat → Prop} {w w' : World} {tb tm : Nat} {rows : List MapEntry} (h : Table w tb tm rows H) (k : Below w.heap.size w w') : Table w' tb tm rows H := h.only (G := fun _ => False) (Only.of_below k) (fun h => h) (fun h => h) (fun _ _ h => h)
theorem table_look {H : Nat → Prop} {w : World} {tb tm : Nat} {rows : List MapEntry} (h : Table w tb tm rows H) (id : Int) : ∃ (cl sq er rv t : Int) (th is : Bool) (v : Value) (rs : Rs), (∀ w, MapK w (.int .i64) tm rows → (Instr.lookup 162 (.map (some tm)) (.int .i64 id) true).run Tryz.prog w = .ok (.tuple #[.agg #[.int .i64 cl, .int .i64 sq, .int .i64 er, .int .i64 rv, .bool th, v, .int .i64 t], .bool is]) w) ∧
    Ress w 0 v rs ∧ rs.length ≤ 32 ∧ (is = true → ∃ e ∈ rows, e.key = .int .i64 id) := by
  rcases look_map Tryz.underlying162 Tryz.underlying3 zero_row (key := .int .i64 id) (l := rows) (b := tm) rfl h.2.1.key with ⟨hno, hl⟩ | ⟨e, he, hk, hl⟩
  · exact ⟨0, 0, 0, 0, 0, false, false, .slice none 0 0, [], fun w h => hl w true h, Ress.nil _ _, by simp, fun h => by cases h⟩
  · obtain ⟨cl, sq, er, rv, t, th, v, rs, hv, hR, hn, -⟩ := h.2.2.2 e he
    exact ⟨cl, sq, er, rv, t, th, true, v, rs, fun w h => by rw [← hv]; exact hl w true h, hR, hn, fun _ => ⟨e, he, hk⟩⟩

theorem len_run {P : Program} {w : World} {t k e : TypeId} (ht : P.underlying t = some (.map k e)) {d : TypeDesc} {b : Nat} {l : List MapEntry} (h : MapK w d b l) (ty : TypeId) : (Builtin.len_ #[t] ty #[.map (some b)]).run P w = .ok (.int .i64 l.length) w := by
  obtain ⟨c, hb, -⟩ := h
  simp [Builtin.len_, Builtin.lenOf, run_underlying ht, MapKept.run_getObj_map hb, goInt, Result.andThen]
/-- What Ask answers. -/
def AskPost (rows : List MapEntry) (client : Int) (e : Ending) : Prop := ∃ (er rv t : Int) (th fresh : Bool) (a : Option Addr) (n c : Nat), e = .returned (.tuple #[.agg #[.int .i64 er, .int .i64 rv, .bool th, .slice a n c, .int .i64 t], .bool fresh]) ∧ (fresh = true → client ≠ 0 → rows.length < 64 ∨ ∃ e ∈ rows, e.key = .int .i64 client)
theorem below_set5 {N b : Nat} {w w1 : World} (h : Below N w w1) (hb : N ≤ b) {a0 a1 a2 a3 a4 : Value} :
    Below N w (((((w1.setCell ⟨b, 0, none⟩ a0).setCell ⟨b, 1, none⟩ a1).setCell ⟨b, 2, none⟩ a2).setCell ⟨b, 3, none⟩ a3).setCell ⟨b, 4, none⟩ a4) :=
  below_set (below_set (below_set (below_set (below_set h _ hb _) _ hb _) _ hb _) _ hb _) _ hb _

set_option maxHeartbeats 8000000 in
set_option maxRecDepth 100000 in
theorem ask_f {H : Nat → Prop} {w : World} {tb tm : Nat} {rows : List MapEntry} (h : Table w tb tm rows H) (client seq : Int) :
    Calls Tryz.prog 32 #[Ptr tb, .int .i64 client, .int .i64 seq] w fun e w' => AskPost rows client e ∧ Below w.heap.size w w' := by
  obtain ⟨cl, sq, er, rv, t, th, is, v, rs, hl, hR, hn, hin⟩ := table_look h client
  obtain ⟨a, c, rfl⟩ := hR.shape
  have HI : Aside _ := hin
  clear hin
  have hc0 := (h.1.alloc (.cells #[.int .i64 0, .int .i64 0, .bool false, .slice none 0 0, .int .i64 0] 46)).cell
  have hc00 := ((h.1.alloc (.cells #[.int .i64 0, .int .i64 0, .bool false, .slice none 0 0, .int .i64 0] 46)).alloc (.cells #[.int .i64 cl, .int .i64 sq, .int .i64 er, .int .i64 rv, .bool th, .slice a rs.length c, .int .i64 t] 152)).cell
  have hlen := fun ty => len_run (P := Tryz.prog) Tryz.underlying162 ((h.2.1.alloc (.cells #[.int .i64 0, .int .i64 0, .bool false, .slice none 0 0, .int .i64 0] 46)).alloc (.cells #[.int .i64 cl, .int .i64 sq, .int .i64 er, .int .i64 rv, .bool th, .slice a rs.length c, .int .i64 t] 152)) ty
  cases h0 : (client == 0) with
  | true =>
    have hc9 : client = 0 := by simpa using h0
    have HC : Aside _ := hc9
    clear hc9
    go_enter Tryz.func32, Tryz.ntmps32
    go_wp2_with (at_lookup; refine wpList_look_run rfl _ _ _ _ rfl (hl _ (h.2.1.alloc _)) ?_)
    exact bodyPost_ret (v := .tuple #[.agg #[.int .i64 0, .int .i64 0, .bool false, .slice none 0 0, .int .i64 0], .bool true]) (by simp [results, Tryz.results32, go_sem]) rfl ⟨⟨0, 0, 0, false, true, none, 0, 0, rfl, fun _ h => absurd HC.out h⟩, bmore (bmore (Below.refl _ _) _) _⟩
  | false =>
    by_cases h1 : client < 0
    · go_enter Tryz.func32, Tryz.ntmps32
      go_wp2_with (at_lookup; refine wpList_look_run rfl _ _ _ _ rfl (hl _ (h.2.1.alloc _)) ?_)
      exact bodyPost_ret (v := .tuple #[.agg #[.int .i64 1, .int .i64 0, .bool false, .slice none 0 0, .int .i64 0], .bool false]) (by simp [results, Tryz.results32, go_sem]) rfl ⟨⟨1, 0, 0, false, false, none, 0, 0, rfl, fun h => by cases h⟩, bmore (bmore (Below.refl _ _) _) _⟩
    by_cases h2 : seq < 1
    · go_enter Tryz.func32, Tryz.ntmps32
      go_wp2_with (at_lookup; refine wpList_look_run rfl _ _ _ _ rfl (hl _ (h.2.1.alloc _)) ?_)
      exact bodyPost_ret (v := .tuple #[.agg #[.int .i64 1, .int .i64 0, .bool false, .slice none 0 0, .int .i64 0], .bool false]) (by simp [results, Tryz.results32, go_sem]) rfl ⟨⟨1, 0, 0, false, false, none, 0, 0, rfl, fun h => by cases h⟩, bmore (bmore (Below.refl _ _) _) _⟩
    cases is with
    | false =>
      by_cases h3 : 64 ≤ rows.length
      · go_enter Tryz.func32, Tryz.ntmps32
        go_wp2_with (at_lookup; refine wpList_look_run rfl _ _ _ _ rfl (hl _ (h.2.1.alloc _)) ?_)
        exact bodyPost_ret (v := .tuple #[.agg #[.int .i64 4, .int .i64 0, .bool false, .slice none 0 0, .int .i64 0], .bool false]) (by simp [results, Tryz.results32, go_sem]) rfl ⟨⟨4, 0, 0, false, false, none, 0, 0, rfl, fun h => by cases h⟩, bmore (bmore (Below.refl _ _) _) _⟩
      by_cases h4 : sq < seq
      · go_enter Tryz.func32, Tryz.ntmps32
        go_wp2_with (at_lookup; refine wpList_look_run rfl _ _ _ _ rfl (hl _ (h.2.1.alloc _)) ?_)
        exact bodyPost_ret (v := .tuple #[.agg #[.int .i64 0, .int .i64 0, .bool false, .slice none 0 0, .int .i64 0], .bool true]) (by simp [results, Tryz.results32, go_sem]) rfl ⟨⟨0, 0, 0, false, true, none, 0, 0, rfl, fun _ _ => .inl (by omega)⟩, bmore (bmore (Below.refl _ _) _) _⟩
      by_cases h5 : seq < sq
      · go_enter Tryz.func32, Tryz.ntmps32
        go_wp2_with (at_lookup; refine wpList_look_run rfl _ _ _ _ rfl (hl _ (h.2.1.alloc _)) ?_)
        exact bodyPost_ret (v := .tuple #[.agg #[.int .i64 24, .int .i64 0, .bool false, .slice none 0 0, .int .i64 0], .bool false]) (by simp [results, Tryz.results32, go_sem]) rfl ⟨⟨24, 0, 0, false, false, none, 0, 0, rfl, fun h => by cases h⟩, bmore (bmore (Below.refl _ _) _) _⟩
      go_enter Tryz.func32, Tryz.ntmps32
      go_wp2_with (first | (at_lookup; refine wpList_look_run rfl _ _ _ _ rfl (hl _ (h.2.1.alloc _)) ?_) | fail)
      go_at_call 72
      obtain ⟨wA, hwA⟩ : ∃ wA, wA = (w.alloc (.cells #[.int .i64 0, .int .i64 0, .bool false, .slice none 0 0, .int .i64 0] 46)).alloc (.cells #[.int .i64 cl, .int .i64 sq, .int .i64 er, .int .i64 rv, .bool th, .slice a rs.length c, .int .i64 t] 152) := ⟨_, rfl⟩
      have hbA : Below w.heap.size w wA := by rw [hwA]; exact bmore (bmore (Below.refl _ _) _) _
      have hB : Blk wA w.heap.size #[.int .i64 0, .int .i64 0, .bool false, .slice none 0 0, .int .i64 0] := by rw [hwA]; exact (Blk.new _ _ _).alloc _
      rw [← hwA]
      clear hwA
      refine (twin_f (hR.keep hbA) (by omega) er rv t th).mono ?_
      rintro e w5 ⟨⟨v', rs', rfl, hl', hR'⟩, hb5⟩
      obtain ⟨a', c', rfl⟩ := hR'.shape
      clear hl'
      have p1 := (hB.keep hb5).cell
      have p2 := (hB.keep hb5).frz
      go_wp2
      exact bodyPost_ret (v := .tuple #[.agg #[.int .i64 er, .int .i64 rv, .bool th, .slice a' rs'.length c', .int .i64 t], .bool false]) (by simp [results, Tryz.results32, go_sem, p1, cell_same, isSome_setCell]) rfl ⟨⟨er, rv, t, th, false, a', rs'.length, c', rfl, fun h => by cases h⟩, below_set5 (bthen hbA hb5) (Nat.le_refl _)⟩
    | true =>
      have hin2 := HI.out rfl
      have HE : Aside _ := hin2
      clear hin2
      by_cases h4 : sq < seq
      · go_enter Tryz.func32, Tryz.ntmps32
        go_wp2_with (at_lookup; refine wpList_look_run rfl _ _ _ _ rfl (hl _ (h.2.1.alloc _)) ?_)
        exact bodyPost_ret (v := .tuple #[.agg #[.int .i64 0, .int .i64 0, .bool false, .slice none 0 0, .int .i64 0], .bool true]) (by simp [results, Tryz.results32, go_sem]) rfl ⟨⟨0, 0, 0, false, true, none, 0, 0, rfl, fun _ _ => .inr HE.out⟩, bmore (bmore (Below.refl _ _) _) _⟩
      by_cases h5 : seq < sq
      · go_enter Tryz.func32, Tryz.ntmps32
        go_wp2_with (at_lookup; refine wpList_look_run rfl _ _ _ _ rfl (hl _ (h.2.1.alloc _)) ?_)
        exact bodyPost_ret (v := .tuple #[.agg #[.int .i64 24, .int .i64 0, .bool false, .slice none 0 0, .int .i64 0], .bool false]) (by simp [results, Tryz.results32, go_sem]) rfl ⟨⟨24, 0, 0, false, false, none, 0, 0, rfl, fun h => by cases h⟩, bmore (bmore (Below.refl _ _) _) _⟩
      go_enter Tryz.func32, Tryz.ntmps32
      go_wp2_with (first | (at_lookup; refine wpList_look_run rfl _ _ _ _ rfl (hl _ (h.2.1.alloc _)) ?_) | fail)
      go_at_call 72
      obtain ⟨wA, hwA⟩ : ∃ wA, wA = (w.alloc (.cells #[.int .i64 0, .int .i64 0, .bool false, .slice none 0 0, .int .i64 0] 46)).alloc (.cells #[.int .i64 cl, .int .i64 sq, .int .i64 er, .int .i64 rv, .bool th, .slice a rs.length c, .int .i64 t] 152) := ⟨_, rfl⟩
      have hbA : Below w.heap.size w wA := by rw [hwA]; exact bmore (bmore (Below.refl _ _) _) _
      have hB : Blk wA w.heap.size #[.int .i64 0, .int .i64 0, .bool false, .slice none 0 0, .int .i64 0] := by rw [hwA]; exact (Blk.new _ _ _).alloc _
      rw [← hwA]
      clear hwA
      refine (twin_f (hR.keep hbA) (by omega) er rv t th).mono ?_
      rintro e w5 ⟨⟨v', rs', rfl, hl', hR'⟩, hb5⟩
      obtain ⟨a', c', rfl⟩ := hR'.shape
      clear hl'
      have p1 := (hB.keep hb5).cell
      have p2 := (hB.keep hb5).frz
      go_wp2
      exact bodyPost_ret (v := .tuple #[.agg #[.int .i64 er, .int .i64 rv, .bool th, .slice a' rs'.length c', .int .i64 t], .bool false]) (by simp [results, Tryz.results32, go_sem, p1, cell_same, isSome_setCell]) rfl ⟨⟨er, rv, t, th, false, a', rs'.length, c', rfl, fun h => by cases h⟩, below_set5 (bthen hbA hb5) (Nat.le_refl _)⟩
end Go.Proofs.YtbheebpfbabffaaGreat.Wat

