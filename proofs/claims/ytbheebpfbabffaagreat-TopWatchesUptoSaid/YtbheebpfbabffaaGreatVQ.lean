/- Joined: a part of the proof of TopWatches. -/
import Derived.StillTailTactics
import Derived.BigQuiet
import Derived.Test.YtbheebpfbabffaaGreatWHub
set_option linter.unusedSimpArgs false
set_option linter.unusedVariables false
namespace Go.Proofs.YtbheebpfbabffaaGreat.Wat
open Go.RowKit Go Go.Lib Mach Go.MapKept

abbrev BehT : TypeId := 87
theorem tm_bh (w : World) : Sem.run Tryz.prog (Instr.typeAssert (.iface 87 (.agg #[])) 89 113 true) w = .ok (.tuple #[.agg #[.slice none 0 0], .bool false]) w := by kernel_rfl
theorem tm_hh (v : Value) (w : World) : Sem.run Tryz.prog (Instr.typeAssert (.iface 113 (.agg #[v])) 89 113 true) w = .ok (.tuple #[.agg #[v], .bool true]) w := by kernel_rfl
theorem tm_eh (v : Value) (w : World) : Sem.run Tryz.prog (Instr.typeAssert (.iface 117 (.agg #[v, .int .i64 14])) 89 113 true) w = .ok (.tuple #[.agg #[.slice none 0 0], .bool false]) w := by kernel_rfl
theorem tm_bb (w : World) : Sem.run Tryz.prog (Instr.typeAssert (.iface 87 (.agg #[])) 89 87 true) w = .ok (.tuple #[.agg #[], .bool true]) w := by kernel_rfl
theorem tm_hb (v : Value) (w : World) : Sem.run Tryz.prog (Instr.typeAssert (.iface 113 (.agg #[v])) 89 87 true) w = .ok (.tuple #[.agg #[], .bool false]) w := by kernel_rfl
theorem tm_eb (v : Value) (w : World) : Sem.run Tryz.prog (Instr.typeAssert (.iface 117 (.agg #[v, .int .i64 14])) 89 87 true) w = .ok (.tuple #[.agg #[], .bool false]) w := by kernel_rfl
theorem tm_he (v : Value) (w : World) : Sem.run Tryz.prog (Instr.typeAssert (.iface 113 (.agg #[v])) 89 117 true) w = .ok (.tuple #[.agg #[.slice none 0 0, .int .i64 0], .bool false]) w := by kernel_rfl
theorem tm_ee (v : Value) (w : World) : Sem.run Tryz.prog (Instr.typeAssert (.iface 117 (.agg #[v, .int .i64 14])) 89 117 true) w = .ok (.tuple #[.agg #[v, .int .i64 14], .bool true]) w := by kernel_rfl

theorem blk_one (v : Value) (a : Nat) : (blk v).count a ≤ 1 := by
  unfold blk
  cases v.ownBlock with
  | none => simp
  | some y => simp [List.count_cons]; split <;> omega
/-- A buffer that is new. -/
theorem grow_blk {w : World} {B bl : List Nat} {hb hm wb : Nat} {v : Value} (hB : B = [hb, hm, wb] ++ bl) (hl : ∀ y ∈ B, y < w.heap.size) (hn : Nd ([hb, hm, wb] ++ bl)) (hv : ∀ y ∈ blk v, w.heap.size ≤ y) : Grow w B ([hb, hm, wb] ++ blk v) := by
  subst hB
  refine ⟨fun a ha => ?_, fun a ha => ?_⟩
  · rw [List.count_append, List.count_append]
    have := count_out (fun hm : a ∈ blk v => by have := hv a hm; omega)
    omega
  · rw [List.count_append]
    have := blk_one v a
    have := count_out (fun hm' : a ∈ [hb, hm, wb] => by have := hl a (List.mem_append.2 (.inl hm')); omega)
    omega
/-- What Feed makes of a watcher. -/
def FeedR (chs : List Ver) (rev pl : Nat) : Mo → Nat → Mo → Prop
  | .hears l, pl', mo' => ∃ k, At chs pl k ∧ ((l.length + (chs.drop k).length ≤ 16 ∧ pl' = max pl (rev + 1) ∧ mo' = .hears (l ++ chs.drop k)) ∨ (16 < l.length + (chs.drop k).length ∧ pl' = pl ∧ mo' = .ended l))
  | mo, pl', mo' => pl' = pl ∧ mo' = mo
def FeedPost (chs : List Ver) (rev : Nat) (hb hm wb sb : Nat) (id : Int) (pl : Nat) (mo : Mo) (B : List Nat) (w w' : World) : Prop :=
  Only (fun y => y = wb) w w' ∧ ∃ pl' mo' B', FeedR chs rev pl mo pl' mo' ∧ Hb w' hb hm wb sb id pl' mo' B' ∧ Grow w B B'

set_option maxHeartbeats 8000000 in
set_option maxRecDepth 100000 in
theorem feed_b {w : World} {chs : List Ver} {rev : Nat} {hb hm wb sb : Nat} {id : Int} {pl : Nat} {B : List Nat} (h : Hb w hb hm wb sb id pl .behind B) :
    Calls Tryz.prog 16 #[Ptr hb] w fun e w' => e = .returned (.tuple #[]) ∧ FeedPost chs rev hb hm wb sb id pl .behind B w w' := by
  obtain ⟨md, bl, hW, ⟨rfl, rfl⟩, hBl⟩ := h.wat
  obtain ⟨c0, hM⟩ := h.map
  have hc := h.hub.cell
  have t1 := tm_bh
  go_enter Tryz.func16, Tryz.ntmps16
  go_wp2_with (at_range; refine wpList_range_map rfl _ _ rfl _ _ Tryz.underlying82 hm _ rfl hM ?_; intro w2 hI2 hb2 hs2)
  refine wp_loop_rounds 2 ?_
  rw [rounds_succ]
  have hW2 := hW.keep hb2
  go_wp2_with (at_next; refine wpList_next_map rfl _ rfl hm w.heap.size _ _ rfl hI2 ?_ ?_)
  intro x left' w3 hx hl hsub hI3 hO3 hs3 hen
  subst hx hl
  have hwbl := hW.lt
  have hW3 := hW2.only hO3 (by omega)
  have c1 := hW3.cell
  have hB3 : Below w.heap.size w w3 := hb2.trans (hO3.below w.heap.size hb2.size (fun k hk e => by omega))
  have hB4 := fun o => bmore hB3 o
  clear hs2 hs3 hsub
  go_wp2
  rw [rounds_succ]
  go_wp2_with (at_next; refine wpList_next_map rfl _ rfl hm w.heap.size _ _ rfl (hI3.only (F := fun _ => False) ((Only.refl _ _).alloc _) (fun h => h) (fun h => h)) ?_ ?_)
  go_end0
  exact ⟨rfl, Only.of_below (hB4 _), pl, _, B, ⟨rfl, rfl⟩, h.keep (hB4 _), ⟨fun _ _ => Nat.le_refl _, fun a _ => h.nd a⟩⟩
set_option maxHeartbeats 8000000 in
set_option maxRecDepth 100000 in
theorem feed_e {w : World} {chs : List Ver} {rev : Nat} {hb hm wb sb : Nat} {id : Int} {pl : Nat} {B : List Nat} {l : List Ver} (h : Hb w hb hm wb sb id pl (.ended l) B) :
    Calls Tryz.prog 16 #[Ptr hb] w fun e w' => e = .returned (.tuple #[]) ∧ FeedPost chs rev hb hm wb sb id pl (.ended l) B w w' := by
  obtain ⟨md, bl, hW, ⟨v, rfl, hE, hl16, hbl⟩, hBl⟩ := h.wat
  obtain ⟨c0, hM⟩ := h.map
  have hc := h.hub.cell
  obtain ⟨av, cv, rfl⟩ := hE.shape
  have t1 := tm_eh (.slice av l.length cv)
  go_enter Tryz.func16, Tryz.ntmps16
  go_wp2_with (at_range; refine wpList_range_map rfl _ _ rfl _ _ Tryz.underlying82 hm _ rfl hM ?_; intro w2 hI2 hb2 hs2)
  refine wp_loop_rounds 2 ?_
  rw [rounds_succ]
  have hW2 := hW.keep hb2
  go_wp2_with (at_next; refine wpList_next_map rfl _ rfl hm w.heap.size _ _ rfl hI2 ?_ ?_)
  intro x left' w3 hx hl hsub hI3 hO3 hs3 hen
  subst hx hl
  have hwbl := hW.lt
  have hW3 := hW2.only hO3 (by omega)
  have c1 := hW3.cell
  have hB3 : Below w.heap.size w w3 := hb2.trans (hO3.below w.heap.size hb2.size (fun k hk e => by omega))
  have hB4 := fun o => bmore hB3 o
  clear hs2 hs3 hsub
  go_wp2
  rw [rounds_succ]
  go_wp2_with (at_next; refine wpList_next_map rfl _ rfl hm w.heap.size _ _ rfl (hI3.only (F := fun _ => False) ((Only.refl _ _).alloc _) (fun h => h) (fun h => h)) ?_ ?_)
  go_end0
  exact ⟨rfl, Only.of_below (hB4 _), pl, _, B, ⟨rfl, rfl⟩, h.keep (hB4 _), ⟨fun _ _ => Nat.le_refl _, fun a _ => h.nd a⟩⟩

attribute [local irreducible] wpStill in
set_option maxHeartbeats 8000000 in
set_option maxRecDepth 100000 in
theorem feed_h {w : World} {rev C : Nat} {op : Value} {chs : List Ver} {Ks : List Value} {S : List Nat} {hb hm wb sb : Nat} {id : Int} {pl : Nat} {B : List Nat} {l : List Ver} (h : Hb w hb hm wb sb id pl (.hears l) B)
    (hs : St w sb op rev C chs Ks S) (hC : C ≤ 1000000) (hso : chs.Pairwise (fun a b => a.1 ≤ b.1)) (hrv : ∀ p ∈ chs, p.1 ≤ rev) (hrev : rev ≤ 1000000) (hpl : 1 ≤ pl) (hpl2 : pl ≤ 3000000) (hwS : ∀ y ∈ S, y ≠ wb) :
    Calls Tryz.prog 16 #[Ptr hb] w fun e w' => e = .returned (.tuple #[]) ∧ FeedPost chs rev hb hm wb sb id pl (.hears l) B w w' := by
  obtain ⟨md, bl, hW, ⟨v, rfl, hE, hl16, hbl⟩, hBl⟩ := h.wat
  obtain ⟨c0, hM⟩ := h.map
  have hHl := h.lt
  have hnd := h.nd
  have hc := h.hub.cell
  have hEr := hE.read
  obtain ⟨av, cv, rfl⟩ := hE.shape
  have t1 := tm_hh (.slice av l.length cv)
  go_enter Tryz.func16, Tryz.ntmps16
  go_wp2_with (at_range; refine wpList_range_map rfl _ _ rfl _ _ Tryz.underlying82 hm _ rfl hM ?_; intro w2 hI2 hb2 hs2)
  refine wp_loop_rounds 2 ?_
  rw [rounds_succ]
  have hW2 := hW.keep hb2
  go_wp2_with (at_next; refine wpList_next_map rfl _ rfl hm w.heap.size _ _ rfl hI2 ?_ ?_)
  intro x left' w3 hx hl hsub hI3 hO3 hs3 hen
  subst hx hl
  have hwbl := hW.lt
  have hW3 := hW2.only hO3 (by omega)
  have c1 := hW3.cell
  have hB3 : Below w.heap.size w w3 := hb2.trans (hO3.below w.heap.size hb2.size (fun k hk e => by omega))
  obtain ⟨wa, hwa⟩ : ∃ wa, wa = w3.alloc (.cells #[.slice av l.length cv] 113) := ⟨_, rfl⟩
  have hBa : Below w.heap.size w wa := by rw [hwa]; exact bmore hB3 _
  have hA4 : Blk wa w3.heap.size #[.slice av l.length cv] := by rw [hwa]; exact Blk.new _ _ _
  have hIa : Iter wa (.int .i64) hm w.heap.size [{ key := .int .i64 id, val := Ptr wb, born := c0 }] [] := by rw [hwa]; exact hI3.only (F := fun _ => False) ((Only.refl _ _).alloc _) (fun h => h) (fun h => h)
  have hHc := (h.hub.keep hBa).cell
  have hchg := changes_f (hs.keep hBa) hC hso hrv (hW.keep hBa) hpl
  have cH3 := fun ob => ((h.hub.keep hB3).alloc ob).cell
  clear hs2 hs3 hsub
  go_wp2_with fail
  go_at_call 39
  rw [← hwa]
  clear hwa c1 cH3
  refine hchg.mono ?_
  rintro e w4 ⟨v4, k, rfl, hAt, hE4, hb4⟩
  obtain ⟨a4, cap4, rfl⟩ := hE4.shape
  have hE4r := hE4.read
  have hcl : chs.length ≤ C := by
    obtain ⟨_, _, _, _, _, _, -, -, -, -, -, -, hcl, -⟩ := hs
    exact hcl
  have hnl : (chs.drop k).length ≤ 1000000 := by simp; omega
  generalize hnw : chs.drop k = new at *
  have hb4w := bthen hBa hb4
  have c4 := (hA4.keep hb4).cell
  have cH := (h.hub.keep hb4w).cell
  have hI4 : Iter w4 (.int .i64) hm w.heap.size [{ key := .int .i64 id, val := Ptr wb, born := c0 }] [] := hIa.only (F := fun _ => False) (Only.of_below hb4) (fun h => h) (fun h => h)
  have hW4 := hW.keep hb4w
  have cW := hW4.cell
  have fW := hW4.frz
  clear hHc hchg
  have hnod : B.Nodup := List.nodup_iff_count.2 hnd
  rw [hBl] at hnod
  simp at hnod
  have hsz4 := hb4w.size
  by_cases hfull : 16 < l.length + new.length
  · have hO5 : Only (fun y => y = wb) w4 (w4.setCell ⟨wb, 3, none⟩ (.iface 117 (.agg #[.slice av l.length cv, .int .i64 14]))) := (Only.refl (fun y => y = wb) w4).set ⟨wb, 3, none⟩ (fun _ => rfl) _
    have hI5 := hI4.only hO5 (by omega) (by omega)
    have hW5 := hW4.setCell 3 (.iface 117 (.agg #[.slice av l.length cv, .int .i64 14]))
    have hOw := (Only.of_below (F := fun y => y = wb) hb4w).trans hO5 (fun _ _ h => h)
    go_wp2
    rw [rounds_succ]
    go_wp2_with (at_next; refine wpList_next_map rfl _ rfl hm w.heap.size _ _ rfl hI5 ?_ ?_)
    go_end0
    refine ⟨rfl, hOw, pl, .ended l, B, ⟨k, hAt, .inr ⟨by rw [hnw]; exact hfull, rfl, rfl⟩⟩, ⟨h.hub.only hOw (by omega), ⟨c0, hM.only hOw (by omega)⟩, ⟨_, bl, by simpa [Wa] using hW5, ⟨_, rfl, hE.only hOw (fun y hy e => ?_), hl16, hbl⟩, hBl⟩, hnd⟩, ⟨fun _ _ => Nat.le_refl _, fun a _ => hnd a⟩⟩
    rw [← hbl] at hy
    rw [e] at hy
    simp_all
  · go_wp2_with fail
    go_at_call 40
    refine (clone_evs (hEr.keep hb4w) (by omega)).mono ?_
    rintro e w5 ⟨⟨v5, rfl, hE5⟩, hb5⟩
    obtain ⟨a5, c5, rfl⟩ := hE5.shape
    have hz5 := hb5.size
    have hE5lt := hE5.lt
    go_wp2_with (at_builtin; refine wpList_app_evs rfl _ _ rfl (.slice a5 l.length c5) (.slice a4 new.length cap4) l new rfl rfl hE5 (hE4r.keep hb5) (by omega) hb5.size ?_; intro a6 c6 w6 hE6 hO6 hb6; have hb46 : Below w4.heap.size w4 w6 := hb5.trans (hO6.below w4.heap.size hz5 (fun y hy hm => by have := (hE5lt y hm).1; omega)); have hW6 := hW4.keep hb46; have cW6 := hW6.cell; have fW6 := hW6.frz)
    obtain ⟨w7, hw7⟩ : ∃ w7, w7 = w6.setCell ⟨wb, 3, none⟩ (.iface 113 (.agg #[.slice a6 (l.length + new.length) c6])) := ⟨_, rfl⟩
    have hO67 : Only (fun y => y = wb) w6 w7 := by rw [hw7]; exact (Only.refl (fun y => y = wb) w6).set ⟨wb, 3, none⟩ (fun _ => rfl) _
    have hW7 : Blk w7 wb #[.string ⟨#[0]⟩, .string (topn 101), .int .i64 pl, .iface 113 (.agg #[.slice a6 (l.length + new.length) c6])] := by rw [hw7]; have := hW6.setCell 3 (.iface 113 (.agg #[.slice a6 (l.length + new.length) c6])); simpa using this
    have hO7 : Only (fun y => y = wb) w w7 := (Only.of_below (hb4w.trans (hb46.mono hsz4))).trans hO67 (fun _ _ h => h)
    have hO7d : Only (fun y => y = wb) w w7.drew := hO7.trans (Only.of_below (F := fun y => y = wb) (Below.refl _ _).drew) (fun _ _ h => h)
    have hs7 := hs.only hO7d hwS
    have q1 : ∀ o, w7.drew.cell? ⟨hb, o, none⟩ = _ := (h.hub.only hO7d (by omega)).cell
    have q2 : ∀ o, w7.drew.cell? ⟨wb, o, none⟩ = _ := hW7.cell
    have q3 : ∀ o, w7.drew.frozen? ⟨wb, o, none⟩ = false := hW7.frz
    have hr7 := hs7.rev_cell
    have hwr : IntKind.i64.wrap ((rev : Int) + 1) = (rev : Int) + 1 := by rw [IntKind.wrap_i64]; omega
    rw [← hw7]
    clear hw7 cW fW cW6 fW6 c4 cH
    go_still_tail 12, (by kernel_rfl)
    repeat still_step
    still_call (still_of (rev_c _ _ _ hr7))
    repeat still_step
    refine wpStill_nil ?_
    change wpList _ _ _ _ _ w7.drew
    go_wp2
    rw [rounds_succ]
    have hmxx : max (pl : Int) ((rev : Int) + 1) = ((max pl (rev + 1) : Nat) : Int) := by omega
    rw [hmxx]
    obtain ⟨wf, hwf⟩ : ∃ wf, wf = (w7.setCell ⟨wb, 2, none⟩ (.int .i64 ((max pl (rev + 1) : Nat) : Int))).drew := ⟨_, rfl⟩
    have hO7f : Only (fun y => y = wb) w7 wf := by rw [hwf]; exact ((Only.refl (fun y => y = wb) w7).set ⟨wb, 2, none⟩ (fun _ => rfl) _).trans (Only.of_below (F := fun y => y = wb) (Below.refl _ _).drew) (fun _ _ h => h)
    have hWf : Blk wf wb #[.string ⟨#[0]⟩, .string (topn 101), .int .i64 ((max pl (rev + 1) : Nat) : Int), .iface 113 (.agg #[.slice a6 (l.length + new.length) c6])] := by rw [hwf]; have := (hW7.setCell 2 (.int .i64 ((max pl (rev + 1) : Nat) : Int))).drew; simpa using this
    have hOf : Only (fun y => y = wb) w wf := hO7.trans hO7f (fun _ _ h => h)
    have hO4f : Only (fun y => y = wb) w4 wf := ((Only.of_below (F := fun y => y = wb) hb46).trans hO67 (fun _ _ h => h)).trans hO7f (fun _ _ h => h)
    have hIf := hI4.only hO4f (by omega) (by omega)
    have hb6' : ∀ y ∈ blk (.slice a6 (l.length + new.length) c6), w4.heap.size ≤ y := fun y hy => by
      rcases hb6 y hy with h1 | h1
      · exact (hE5lt y h1).1
      · omega
    have hb6w : ∀ y ∈ blk (.slice a6 (l.length + new.length) c6), w.heap.size ≤ y ∧ y ≠ wb := fun y hy => by
      have := hb6' y hy
      omega
    have hEf : Evs wf 0 (.slice a6 (l.length + new.length) c6) (l ++ new) := (((hE6.only hO67 (fun y hy e => (hb6w y hy).2 e)).only hO7f (fun y hy e => (hb6w y hy).2 e))).base (Nat.zero_le _)
    have hG : Grow w B ([hb, hm, wb] ++ blk (.slice a6 (l.length + new.length) c6)) := grow_blk hBl hHl (by rw [← hBl]; exact hnd) (fun y hy => (hb6w y hy).1)
    rw [← hwf]
    clear hwf
    go_wp2_with (at_next; refine wpList_next_map rfl _ rfl hm w.heap.size _ _ rfl hIf ?_ ?_)
    go_end0
    exact ⟨rfl, hOf, max pl (rev + 1), .hears (l ++ new), _, ⟨k, hAt, .inl ⟨by rw [hnw]; omega, rfl, by rw [hnw]⟩⟩, ⟨h.hub.only hOf (by omega), ⟨c0, hM.only hOf (by omega)⟩, ⟨_, _, hWf, ⟨_, rfl, hEf, by rw [List.length_append]; omega, rfl⟩, rfl⟩, hG.nd hnd⟩, hG⟩
end Go.Proofs.YtbheebpfbabffaaGreat.Wat

namespace Go.Proofs.YtbheebpfbabffaaGreat.Wat
open Go.RowKit Go Go.Lib Mach Go.MapKept

/-- Between two revisions, or at an end. -/
def Bd (l : List Ver) (n : Nat) : Prop := n = 0 ∨ n = l.length ∨ ∃ x y, l[n - 1]? = some x ∧ l[n]? = some y ∧ x.1 ≠ y.1
/-- From n to k: one revision. -/
def Rn (l : List Ver) (n k : Nat) : Prop := ∀ j x y, n ≤ j → j < k → l[j]? = some x → l[n]? = some y → x.1 = y.1
theorem Rn.step {l : List Ver} {n k : Nat} (h : Rn l n k) (hk : k < l.length) (hn : n < l.length) (e : (l[k].1 == l[n].1) = true) : Rn l n (k + 1) := fun j x y h1 h2 hx hy => by
  rcases Nat.lt_or_ge j k with h3 | h3
  · exact h j x y h1 h3 hx hy
  · obtain rfl : j = k := by omega
    rw [List.getElem?_eq_getElem hk] at hx
    rw [List.getElem?_eq_getElem hn] at hy
    cases hx; cases hy
    simpa using e
theorem Rn.bd {l : List Ver} {n k : Nat} (h : Rn l n k) (hnk : n ≤ k) (hk : k < l.length) (hn : n < l.length) (e : (l[k].1 == l[n].1) = false) : n < k ∧ Bd l k := by
  have hne : l[k].1 ≠ l[n].1 := by simpa using e
  have hlt : n < k := by
    rcases Nat.lt_or_ge n k with h1 | h1
    · exact h1
    · obtain rfl : n = k := by omega
      exact absurd rfl hne
  have hk1 : l[k - 1]? = some (l[k - 1]'(by omega)) := List.getElem?_eq_getElem (by omega)
  have := h (k - 1) _ _ (by omega) (by omega) hk1 (List.getElem?_eq_getElem hn)
  exact ⟨hlt, .inr (.inr ⟨_, _, hk1, List.getElem?_eq_getElem hk, fun e => hne (by rw [← e, this])⟩)⟩
theorem below_dn {N : Nat} {w w1 : World} (h : Below N w w1) (n : Nat) : Below N w (w1.drewN n) := ⟨h.os, h.tape, h.output, h.size, h.block⟩

set_option maxHeartbeats 4000000 in
set_option maxRecDepth 100000 in
theorem some_f {w : World} {base : Nat} {v : Value} {l : List Ver} (hE : Evs w base v l) (hl : l.length ≤ 1000000) (most : Int) :
    Calls Tryz.prog 84 #[v, .int .i64 most] w fun e w' => (∃ (a : Option Addr) (n c : Nat), e = .returned (.tuple #[.slice a n c, .bool (decide ((n : Int) < l.length))]) ∧ n ≤ l.length ∧ Bd l n ∧ (l ≠ [] → 0 < n) ∧ EvR w (.slice a n c) (l.take n) ∧ blk (.slice a n c) = blk v) ∧ Below w.heap.size w w' := by
  rcases own_open hE with ⟨rfl, hn0, hx0⟩ | ⟨gb, cap, rfl, -, hgl, hcap, hcell⟩
  · obtain rfl := List.length_eq_zero_iff.1 hn0
    clear hx0 hn0 hE hl
    go_enter Tryz.func84, Tryz.ntmps84
    go_wp2
    refine wp_loop_rounds 1 ?_
    rw [rounds_succ]
    go_wp2
    exact bodyPost_ret (v := .tuple #[.slice none 0 0, .bool false]) (by simp [results, Tryz.results84, go_sem]) rfl ⟨⟨none, 0, 0, by simp, Nat.le_refl _, .inl rfl, fun h => absurd rfl h, ⟨none, 0, rfl, .inl rfl⟩, rfl⟩, Below.refl _ _⟩
  · have HC : Aside _ := hcell
    have hgr : ∀ wq j (hj : j < l.length), Below w.heap.size w wq → wq.cell? ⟨gb, j * 8, none⟩ = some (.int .i64 (l[j]).1) := fun wq j hj hb => by
      refine (World.cell?_of_block (w := w) (hb.block gb hgl)).trans ?_
      have h1 := evs_get (List.getElem?_eq_getElem hj) 0 (by omega)
      obtain ⟨dl, vv, a, b, c, d, hev⟩ := evc_form l[j]
      rw [hev, Nat.mul_comm] at h1
      exact HC.out _ _ h1
    have HG : Aside _ := hgr
    clear hcell hgr
    go_enter Tryz.func84, Tryz.ntmps84
    go_wp2
    go_loopg [6, 7] l.length (fun kx s6 _ wq => ∃ n : Nat, s6 = .int .i64 n ∧ n ≤ l.length ∧ kx = l.length - n ∧ Bd l n ∧ Below w.heap.size w wq)
    case atStart => exact ⟨0, rfl, Nat.zero_le _, rfl, .inl rfl, Below.refl _ _⟩
    case round =>
      obtain ⟨n, rfl, hn, hkx, hBd, hbr⟩ := hrel
      by_cases hnl : n < l.length
      · go_wp2
        go_loopg [7] (l.length - n) (fun kx s7 wq => ∃ k : Nat, s7 = .int .i64 k ∧ n ≤ k ∧ k ≤ l.length ∧ kx = l.length - k ∧ Aside (Rn l n k) ∧ Below w.heap.size w wq)
        case atStart => exact ⟨n, rfl, Nat.le_refl _, hn, rfl, fun j x y h1 h2 => by omega, hbr⟩
        case round =>
          obtain ⟨k, rfl, hnk, hk, hkx2, hR, hbk⟩ := hrel
          have hnx : ∀ W, Below w.heap.size w W → (n < k ∧ Bd l k) → ∃ n2 : Nat, Value.int .i64 (k : Int) = .int .i64 n2 ∧ n2 ≤ l.length ∧ l.length - k = l.length - n2 ∧ Bd l n2 ∧ Below w.heap.size w W := fun W h1 h2 => ⟨k, rfl, hk, rfl, h2.2, h1⟩
          have hrd : ∀ n, n ≤ l.length → EvR w (.slice (some ⟨gb, 0, none⟩) n cap) (l.take n) := fun n hn => ⟨_, cap, by rw [List.length_take, Nat.min_eq_left hn], .inr ⟨gb, 0, rfl, hgl, fun j u hj => by
            rw [Nat.zero_add]
            refine HC.out j u ?_
            have h1 : evs l = evs (l.take n) ++ evs (l.drop n) := by rw [← evs_append, List.take_append_drop]
            rw [h1, List.getElem?_append_left (List.getElem?_eq_some_iff.1 hj).1]
            exact hj⟩⟩
          have hend : ∀ W, Below w.heap.size w W → 0 < n → (∃ (a : Option Addr) (n' c : Nat), Ending.returned (.tuple #[.slice (some ⟨gb, 0, none⟩) n cap, .bool (decide ((n : Int) < l.length))]) = .returned (.tuple #[.slice a n' c, .bool (decide ((n' : Int) < l.length))]) ∧ n' ≤ l.length ∧ Bd l n' ∧ (l ≠ [] → 0 < n') ∧ EvR w (.slice a n' c) (l.take n') ∧ blk (.slice a n' c) = blk (.slice (some ⟨gb, 0, none⟩) l.length cap)) ∧ Below w.heap.size w W := fun W h1 h2 => ⟨⟨_, n, cap, rfl, hn, hBd, fun _ => h2, hrd n hn, rfl⟩, h1⟩
          have hdt : decide ((n : Int) < (l.length : Int)) = true := by simp; omega
          rw [hdt] at hend
          clear hdt
          have HEND : Aside _ := hend
          clear hend
          by_cases hkl : k < l.length
          · have g1 := HG.out wr k hkl hbk
            have g2 := HG.out wr n hnl hbk
            have g3 := HG.out wr.drew k hkl hbk.drew
            have g4 := HG.out wr.drew n hnl hbk.drew
            have hki : (k : Int) < (l.length : Int) := by omega
            have hni : (n : Int) < (l.length : Int) := by omega
            have hst : (l[k].1 == l[n].1) = true → Aside (Rn l n (k + 1)) := fun e => hR.out.step hkl hnl e
            have hbd : (l[k].1 == l[n].1) = false → n < k ∧ Bd l k := fun e => hR.out.bd hnk hkl hnl e
            have HST : Aside _ := hst
            have HBD : Aside _ := hbd
            clear hst hbd
            generalize l[k].1 = ra at g1 g3 HST HBD
            generalize l[n].1 = rb at g2 g4 HST HBD
            cases hab : (ra == rb) with
            | true =>
              rw [hab] at HST
              go_wp2_with fail
              go_quiet (fail)
              go_wp2
              go_roundg (l.length - (k + 1))
              case measure => omega
              case rel => exact ⟨k + 1, by simp, by omega, by omega, rfl, HST.out trivial, below_dn hbk _⟩
            | false =>
              rw [hab] at HBD
              have hkb := HBD.out rfl
              have HKB : Aside _ := hkb
              clear hkb
              by_cases hn0 : 0 < n
              · by_cases hkm : most < (k : Int)
                · go_wp2_with fail
                  go_quiet (fail)
                  go_wp2
                  exact bodyPost_ret (v := .tuple #[.slice (some ⟨gb, 0, none⟩) n cap, .bool true]) (by simp [results, Tryz.results84, go_sem]) rfl (HEND.out _ (below_dn hbk _) hn0)
                · go_wp2_with fail
                  go_quiet (fail)
                  go_wp2
                  go_roundg (l.length - k)
                  case measure => have := HKB.out; omega
                  case rel => exact hnx _ (below_dn hbk _) HKB.out
              · go_wp2_with fail
                go_quiet (fail)
                go_wp2
                go_roundg (l.length - k)
                case measure => have := HKB.out; omega
                case rel => exact hnx _ (below_dn hbk _) HKB.out
          · obtain rfl : k = l.length := by omega
            have hd : decide ((l.length : Int) < (l.length : Int)) = false := by simp
            by_cases hn0 : 0 < n
            · by_cases hkm : most < (l.length : Int)
              · go_wp2_with fail
                go_quiet (fail)
                go_wp2
                exact bodyPost_ret (v := .tuple #[.slice (some ⟨gb, 0, none⟩) n cap, .bool true]) (by simp [results, Tryz.results84, go_sem]) rfl (HEND.out _ (below_dn hbk _) hn0)
              · go_wp2_with fail
                go_quiet (fail)
                go_wp2
                go_roundg (l.length - l.length)
                case measure => omega
                case rel => exact hnx _ (below_dn hbk _) ⟨hnl, .inr (.inl rfl)⟩
            · go_wp2_with fail
              go_quiet (fail)
              go_wp2
              go_roundg (l.length - l.length)
              case measure => omega
              case rel => exact hnx _ (below_dn hbk _) ⟨hnl, .inr (.inl rfl)⟩
      · obtain rfl : n = l.length := by omega
        go_wp2
        refine bodyPost_ret (v := .tuple #[.slice (some ⟨gb, 0, none⟩) l.length cap, .bool false]) (by simp [results, Tryz.results84, go_sem]) rfl ⟨⟨_, l.length, cap, by simp, Nat.le_refl _, hBd, fun h => by have := List.length_pos_iff.2 h; omega, ?_, rfl⟩, hbr⟩
        rw [List.take_length]
        exact hE.read
end Go.Proofs.YtbheebpfbabffaaGreat.Wat

