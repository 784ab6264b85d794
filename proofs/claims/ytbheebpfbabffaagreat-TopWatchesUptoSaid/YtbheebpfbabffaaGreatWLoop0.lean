/- TopWatches: what holds at each round; the parts of a round. -/
import Derived.Test.YtbheebpfbabffaaGreatWFew
import Derived.Test.YtbheebpfbabffaaGreatWApply
import Derived.Test.YtbheebpfbabffaaGreatWPoll
import Derived.Test.YtbheebpfbabffaaGreatVV
set_option linter.unusedSimpArgs false
set_option linter.unusedVariables false
namespace Go.Proofs.YtbheebpfbabffaaGreat.Wat
open Go.RowKit Go Go.Lib Mach Go.MapKept

def idsOf (n : Nat) : Ids := ⟨n, n + 3, n + 5, n + 4, n + 7, n + 6⟩
/-- A machine that has done nothing. -/
theorem fresh_ma {w : World} {n : Nat} (X : List Nat) (h : Fresh w n) : Ma w (idsOf n) 0 0 0 [] [] [n + 3, n + 2, n + 1] X := by
  have hnd : ∀ l : List Nat, l.Nodup → Nd l := fun l h a => List.nodup_iff_count.1 h a
  refine ⟨⟨h.m, ⟨.pointer none, 0, n + 1, n + 2, .slice none 0 0, [n + 1], [], h.st, ⟨.pointer none, 0, [], [], h.ix, .inl ⟨rfl, rfl, rfl⟩, fun _ h => absurd h List.not_mem_nil, Nat.le_refl _, rfl, fun a => single_one _ a⟩, MapK.of_empty h.vs, fun _ h => absurd h List.not_mem_nil, World.ownsRow_nil _ _ _ _, fun _ h => absurd h List.not_mem_nil, Nat.le_refl _, ⟨rfl, fun _ h => absurd h List.not_mem_nil⟩, rfl, hnd _ (by simp)⟩, ⟨[], h.bk, MapK.of_empty h.lm, fun _ h => absurd h List.not_mem_nil, by simp⟩, ⟨h.tb.lt, h.fm.lt⟩, hnd _ (by simp [Ids.foot, idsOf])⟩, [], h.tb, MapK.of_empty h.fm, by simp, fun _ h => absurd h List.not_mem_nil⟩
theorem mstore_w {w : World} {m : Ids} {cl : Int} {rev C : Nat} {chs : List Ver} {Ks : List Value} {S : List Nat} (h : Mc w m cl rev C chs Ks S) : Calls Tryz.prog 8 #[Ptr m.mb] w fun e w' => e = .returned (Ptr m.sb) ∧ w = w' := by
  have hc := h.blk.cell
  go_enter Tryz.func8, Tryz.ntmps8
  go_wp2_with fail
  go_at_call 29
  refine (g_store h.blk).mono ?_
  rintro e w1 ⟨rfl, rfl⟩
  go_wp2
  go_ret
  exact ⟨rfl, rfl⟩
/-- Feed, however a watcher stands. -/
theorem feed_f {w : World} {rev C : Nat} {op : Value} {chs : List Ver} {Ks : List Value} {S : List Nat} {hb hm wb sb : Nat} {id : Int} {pl : Nat} {mo : Mo} {B : List Nat} (h : Hb w hb hm wb sb id pl mo B)
    (hs : St w sb op rev C chs Ks S) (hC : C ≤ 1000000) (hso : So chs) (hrv : ∀ p ∈ chs, p.1 ≤ rev) (hrev : rev ≤ 1000000) (hpl : 1 ≤ pl) (hpl2 : pl ≤ 3000000) (hwS : ∀ y ∈ S, y ≠ wb) :
    Calls Tryz.prog 16 #[Ptr hb] w fun e w' => e = .returned (.tuple #[]) ∧ FeedPost chs rev hb hm wb sb id pl mo B w w' := by
  cases mo with
  | behind => exact feed_b h
  | hears l => exact feed_h h hs hC hso hrv hrev hpl hpl2 hwS
  | ended l => exact feed_e h
theorem poll_f {w : World} {rev C : Nat} {op : Value} {chs : List Ver} {Ks : List Value} {S : List Nat} {hb hm wb sb : Nat} {id : Int} {pl : Nat} {mo : Mo} {B : List Nat} (h : Hb w hb hm wb sb id pl mo B)
    (hs : St w sb op rev C chs Ks S) (hC : C ≤ 1000000) (hso : So chs) (hrv : ∀ p ∈ chs, p.1 ≤ rev) (hrev : rev ≤ 1000000) (hpl : 1 ≤ pl) (hpl2 : pl ≤ 3000000) (hwS : ∀ y ∈ S, y ≠ wb) (most : Int) :
    Calls Tryz.prog 17 #[Ptr hb, .int .i64 id, .int .i64 most] w (PollPost chs rev hb hm wb sb id pl mo B w) := by
  cases mo with
  | behind => exact poll_b h hs hC hso hrv hrev hpl hpl2 hwS most
  | hears l => exact poll_h h most
  | ended l => exact poll_e h most
/-- What is new since the last revision. -/
theorem since_new {chs new : List Ver} {rev rev' k : Nat} (hr : ∀ p ∈ chs, 1 ≤ p.1 ∧ p.1 ≤ rev) (hn : NewOk rev rev' new) (ha : At (chs ++ new) ((rev : Int) + 1) k) : (chs ++ new).drop k = new := by
  have h1 : ∀ p ∈ chs ++ new, p.1 ≤ (rev : Int) + 1 := fun p hp => by
    rcases List.mem_append.1 hp with hp | hp
    · have := (hr p hp).2; omega
    · rcases hn with ⟨rfl, -⟩ | ⟨-, -, hn⟩
      · cases hp
      · have := hn p hp; omega
  rw [at_fl ha h1, fl_app, fl_nil (l := chs) (fun p hp h2 => by have := (hr p hp).2; omega), List.nil_append]
  refine fl_all fun p hp => ?_
  rcases hn with ⟨rfl, -⟩ | ⟨-, -, hn⟩
  · cases hp
  · have := hn p hp; omega

/-- A row of commands, below block N. -/
def CmdsAt (w : World) (N : Nat) (v : Value) (l : List Cmd) : Prop := RdAt w N v 10 Cmd.cells l ∧ ∀ c ∈ l, CmdAt w N c
theorem CmdsAt.keep {w w' : World} {N : Nat} {v : Value} {l : List Cmd} (h : CmdsAt w N v l) (k : Below N w w') : CmdsAt w' N v l := ⟨h.1.keep k, fun c hc => (h.2 c hc).keep k⟩
/-- All blocks that a round may change. -/
def Fa (m : Ids) (S B : List Nat) (va vt : Value) : List Nat := m.foot S ++ (B ++ (blk va ++ blk vt))
theorem fa_count (m : Ids) (S B : List Nat) (va vt : Value) (y : Nat) : (Fa m S B va vt).count y = (m.foot S).count y + B.count y + (blk va).count y + (blk vt).count y := by
  unfold Fa
  simp only [List.count_append]
  omega
/-- The memory of a round. -/
structure Me (w0 w : World) (N : Nat) (m : Ids) (hb hm : Nat) (cl : Int) (rev C : Nat) (chs : List Ver) (Ks : List Value) (S : List Nat) (wb : Nat) (id : Int) (pl : Nat) (mo : Mo) (B : List Nat) (va vt : Value) (all told : List Ver) : Prop where
  ma : Ma w m cl rev C chs Ks S (B ++ (blk va ++ blk vt))
  hu : Hb w hb hm wb m.sb id pl mo B
  ea : Evs w 0 va all
  et : Evs w 0 vt told
  nd : Nd (Fa m S B va vt)
  lo : ∀ y ∈ Fa m S B va vt, N ≤ y
  bw : Below N w0 w
  nw : N ≤ w.heap.size
theorem Me.mem {w0 w : World} {N : Nat} {m : Ids} {hb hm : Nat} {cl : Int} {rev C : Nat} {chs : List Ver} {Ks : List Value} {S : List Nat} {wb : Nat} {id : Int} {pl : Nat} {mo : Mo} {B : List Nat} {va vt : Value} {all told : List Ver} (h : Me w0 w N m hb hm cl rev C chs Ks S wb id pl mo B va vt all told) :
    (∀ y ∈ m.foot S, y ∉ B ∧ y ∉ blk va ∧ y ∉ blk vt) ∧ (∀ y ∈ B, y ∉ m.foot S ∧ y ∉ blk va ∧ y ∉ blk vt) ∧ (∀ y ∈ blk va, y ∉ m.foot S ∧ y ∉ B ∧ y ∉ blk vt) ∧ ∀ y ∈ blk vt, y ∉ m.foot S ∧ y ∉ B ∧ y ∉ blk va := by
  have hc := fun y => fa_count m S B va vt y
  have hn := h.nd
  refine ⟨fun y hy => ⟨fun h2 => ?_, fun h2 => ?_, fun h2 => ?_⟩, fun y hy => ⟨fun h2 => ?_, fun h2 => ?_, fun h2 => ?_⟩, fun y hy => ⟨fun h2 => ?_, fun h2 => ?_, fun h2 => ?_⟩, fun y hy => ⟨fun h2 => ?_, fun h2 => ?_, fun h2 => ?_⟩⟩
  all_goals
    have h3 := count_in hy
    have h4 := count_in h2
    have h5 := hc y
    have h6 := hn y
    omega
theorem fa_mem {m : Ids} {S B : List Nat} {va vt : Value} {y : Nat} : y ∈ Fa m S B va vt ↔ y ∈ m.foot S ∨ y ∈ B ∨ y ∈ blk va ∨ y ∈ blk vt := by
  simp [Fa]
theorem Me.lt {w0 w : World} {N : Nat} {m : Ids} {hb hm : Nat} {cl : Int} {rev C : Nat} {chs : List Ver} {Ks : List Value} {S : List Nat} {wb : Nat} {id : Int} {pl : Nat} {mo : Mo} {B : List Nat} {va vt : Value} {all told : List Ver} (h : Me w0 w N m hb hm cl rev C chs Ks S wb id pl mo B va vt all told) : ∀ y ∈ Fa m S B va vt, y < w.heap.size := by
  intro y hy
  rcases fa_mem.1 hy with hy | hy | hy | hy
  · exact h.ma.1.lt y hy
  · exact h.hu.lt y hy
  · exact (h.ea.lt y hy).2
  · exact (h.et.lt y hy).2
theorem Me.wb3 {w0 w : World} {N : Nat} {m : Ids} {hb hm : Nat} {cl : Int} {rev C : Nat} {chs : List Ver} {Ks : List Value} {S : List Nat} {wb : Nat} {id : Int} {pl : Nat} {mo : Mo} {B : List Nat} {va vt : Value} {all told : List Ver} (h : Me w0 w N m hb hm cl rev C chs Ks S wb id pl mo B va vt all told) : wb ∈ B ∧ hm ∈ B ∧ hb ∈ B := by
  obtain ⟨md, bl, -, -, rfl⟩ := h.hu.wat
  simp
theorem grow_v {w : World} {va va' : Value} (h : ∀ y ∈ blk va', y ∈ blk va ∨ w.heap.size ≤ y) : Grow w (blk va) (blk va') := by
  refine ⟨fun a ha => ?_, fun a _ => blk_one va' a⟩
  by_cases hm : a ∈ blk va'
  · rcases h a hm with h1 | h1
    · have := count_in h1; have := blk_one va' a; omega
    · omega
  · rw [count_out hm]; exact Nat.zero_le _
/-- A footprint that has become another one. -/
theorem fa_grow {w : World} {N : Nat} {m : Ids} {S S' B B' : List Nat} {va va' vt vt' : Value} (hn : Nd (Fa m S B va vt)) (hl : ∀ y ∈ Fa m S B va vt, y < w.heap.size) (ho : ∀ y ∈ Fa m S B va vt, N ≤ y) (hN : N ≤ w.heap.size)
    (g : ∀ a, (a < w.heap.size → (Fa m S' B' va' vt').count a ≤ (Fa m S B va vt).count a) ∧ (w.heap.size ≤ a → (Fa m S' B' va' vt').count a ≤ 1)) : Nd (Fa m S' B' va' vt') ∧ ∀ y ∈ Fa m S' B' va' vt', N ≤ y := by
  refine ⟨fun a => ?_, fun y hy => ?_⟩
  · by_cases ha : a < w.heap.size
    · exact Nat.le_trans ((g a).1 ha) (hn a)
    · exact (g a).2 (by omega)
  · by_cases ha : y < w.heap.size
    · have h1 := (g y).1 ha
      have h2 := count_in hy
      exact ho y (List.count_pos_iff.1 (by omega))
    · omega
theorem foot_count (m : Ids) (S : List Nat) (y : Nat) : (m.foot S).count y = ([m.mb, m.bb, m.bm, m.tb, m.tm] : List Nat).count y + S.count y := by
  unfold Ids.foot
  rw [List.count_append]
theorem Me.apply {w0 w : World} {N : Nat} {m : Ids} {hb hm : Nat} {cl : Int} {rev C : Nat} {chs : List Ver} {Ks : List Value} {S : List Nat} {wb : Nat} {id : Int} {pl : Nat} {mo : Mo} {B : List Nat} {va vt : Value} {all told : List Ver} (h : Me w0 w N m hb hm cl rev C chs Ks S wb id pl mo B va vt all told) {w' : World} (p : ApPost w m rev C chs Ks S (B ++ (blk va ++ blk vt)) w') :
    ∃ (cl' : Int) (rev' C' : Nat) (new : List Ver) (Ks' : List Value) (S' : List Nat), Me w0 w' N m hb hm cl' rev' C' (chs ++ new) Ks' S' wb id pl mo B va vt all told ∧ C' ≤ C + Ks.length + 32 ∧ Ks'.length ≤ Ks.length + 32 ∧ NewOk rev rev' new := by
  obtain ⟨k, cl', rev', C', new, Ks', S', hM, hG, h1, h2, h3⟩ := p
  obtain ⟨m1, m2, m3, m4⟩ := h.mem
  have hlt := h.lt
  have hf := fa_grow (S' := S') (B' := B) (va' := va) (vt' := vt) h.nd hlt h.lo h.nw (fun a => by
    have e1 := fa_count m S B va vt a
    have e2 := fa_count m S' B va vt a
    have e3 := foot_count m S a
    have e4 := foot_count m S' a
    have e5 := h.nd a
    refine ⟨fun ha => ?_, fun ha => ?_⟩
    · have := hG.1 a ha; omega
    · have := hG.2 a ha
      have := count_out (fun hm : a ∈ Fa m S B va vt => by have := hlt a hm; omega)
      omega)
  exact ⟨cl', rev', C', new, Ks', S', ⟨hM, h.hu.only k (fun y hy hm => (m2 y hy).1 hm), h.ea.only k (fun y hy hm => (m3 y hy).1 hm), h.et.only k (fun y hy hm => (m4 y hy).1 hm), hf.1, hf.2, h.bw.trans (k.below N h.nw (fun y hy hm => by have := h.lo y (fa_mem.2 (.inl hm)); omega)), Nat.le_trans h.nw k.size⟩, h1, h2, h3⟩
theorem xmem {B : List Nat} {va vt : Value} {y : Nat} : y ∈ B ++ (blk va ++ blk vt) ↔ y ∈ B ∨ y ∈ blk va ∨ y ∈ blk vt := by
  simp
theorem Me.xlt {w0 w : World} {N : Nat} {m : Ids} {hb hm : Nat} {cl : Int} {rev C : Nat} {chs : List Ver} {Ks : List Value} {S : List Nat} {wb : Nat} {id : Int} {pl : Nat} {mo : Mo} {B : List Nat} {va vt : Value} {all told : List Ver} (h : Me w0 w N m hb hm cl rev C chs Ks S wb id pl mo B va vt all told) : ∀ y ∈ B ++ (blk va ++ blk vt), y < w.heap.size := fun y hy => h.lt y (fa_mem.2 (.inr (xmem.1 hy)))
theorem Me.keep {w0 w : World} {N : Nat} {m : Ids} {hb hm : Nat} {cl : Int} {rev C : Nat} {chs : List Ver} {Ks : List Value} {S : List Nat} {wb : Nat} {id : Int} {pl : Nat} {mo : Mo} {B : List Nat} {va vt : Value} {all told : List Ver} (h : Me w0 w N m hb hm cl rev C chs Ks S wb id pl mo B va vt all told) {w' : World} (k : Below w.heap.size w w') : Me w0 w' N m hb hm cl rev C chs Ks S wb id pl mo B va vt all told :=
  ⟨h.ma.keep k, h.hu.keep k, h.ea.keep k, h.et.keep k, h.nd, h.lo, h.bw.trans (k.mono h.nw), Nat.le_trans h.nw k.size⟩
theorem Me.all {w0 w : World} {N : Nat} {m : Ids} {hb hm : Nat} {cl : Int} {rev C : Nat} {chs : List Ver} {Ks : List Value} {S : List Nat} {wb : Nat} {id : Int} {pl : Nat} {mo : Mo} {B : List Nat} {va vt : Value} {all told : List Ver} (h : Me w0 w N m hb hm cl rev C chs Ks S wb id pl mo B va vt all told) {w' : World} {va' : Value} {all' : List Ver} (k : Only (fun y => y ∈ blk va) w w') (hE : Evs w' 0 va' all') (hb' : ∀ y ∈ blk va', y ∈ blk va ∨ w.heap.size ≤ y) : Me w0 w' N m hb hm cl rev C chs Ks S wb id pl mo B va' vt all' told := by
  obtain ⟨m1, m2, m3, m4⟩ := h.mem
  have hlt := h.lt
  have hg := grow_v hb'
  have hf := fa_grow (S' := S) (B' := B) (va' := va') (vt' := vt) h.nd hlt h.lo h.nw (fun a => by
    have e1 := fa_count m S B va vt a
    have e2 := fa_count m S B va' vt a
    refine ⟨fun ha => ?_, fun ha => ?_⟩
    · have := hg.1 a ha; omega
    · have := hg.2 a ha
      have := count_out (fun hm : a ∈ Fa m S B va vt => by have := hlt a hm; omega)
      omega)
  refine ⟨h.ma.only k (fun y hy g => (m1 y hy).2.1 g) (fun y hy _ => xmem.2 (.inr (.inl hy))) (fun y hy hl => ?_), h.hu.only k (fun y hy g => (m2 y hy).2.1 g), hE, h.et.only k (fun y hy g => (m4 y hy).2.2 g), hf.1, hf.2, h.bw.trans (k.below N h.nw (fun y hy hm => by have := h.lo y (fa_mem.2 (.inr (.inr (.inl hm)))); omega)), Nat.le_trans h.nw k.size⟩
  rcases xmem.1 hy with hy | hy | hy
  · exact xmem.2 (.inl hy)
  · rcases hb' y hy with h1 | h1
    · exact xmem.2 (.inr (.inl h1))
    · omega
  · exact xmem.2 (.inr (.inr hy))
theorem Me.told {w0 w : World} {N : Nat} {m : Ids} {hb hm : Nat} {cl : Int} {rev C : Nat} {chs : List Ver} {Ks : List Value} {S : List Nat} {wb : Nat} {id : Int} {pl : Nat} {mo : Mo} {B : List Nat} {va vt : Value} {all told : List Ver} (h : Me w0 w N m hb hm cl rev C chs Ks S wb id pl mo B va vt all told) {w' : World} {vt' : Value} {told' : List Ver} (k : Only (fun y => y ∈ blk vt) w w') (hE : Evs w' 0 vt' told') (hb' : ∀ y ∈ blk vt', y ∈ blk vt ∨ w.heap.size ≤ y) : Me w0 w' N m hb hm cl rev C chs Ks S wb id pl mo B va vt' all told' := by
  obtain ⟨m1, m2, m3, m4⟩ := h.mem
  have hlt := h.lt
  have hg := grow_v hb'
  have hf := fa_grow (S' := S) (B' := B) (va' := va) (vt' := vt') h.nd hlt h.lo h.nw (fun a => by
    have e1 := fa_count m S B va vt a
    have e2 := fa_count m S B va vt' a
    refine ⟨fun ha => ?_, fun ha => ?_⟩
    · have := hg.1 a ha; omega
    · have := hg.2 a ha
      have := count_out (fun hm : a ∈ Fa m S B va vt => by have := hlt a hm; omega)
      omega)
  refine ⟨h.ma.only k (fun y hy g => (m1 y hy).2.2 g) (fun y hy _ => xmem.2 (.inr (.inr hy))) (fun y hy hl => ?_), h.hu.only k (fun y hy g => (m2 y hy).2.2 g), h.ea.only k (fun y hy g => (m3 y hy).2.2 g), hE, hf.1, hf.2, h.bw.trans (k.below N h.nw (fun y hy hm => by have := h.lo y (fa_mem.2 (.inr (.inr (.inr hm)))); omega)), Nat.le_trans h.nw k.size⟩
  rcases xmem.1 hy with hy | hy | hy
  · exact xmem.2 (.inl hy)
  · exact xmem.2 (.inr (.inl hy))
  · rcases hb' y hy with h1 | h1
    · exact xmem.2 (.inr (.inr h1))
    · omega
theorem Me.hub {w0 w : World} {N : Nat} {m : Ids} {hb hm : Nat} {cl : Int} {rev C : Nat} {chs : List Ver} {Ks : List Value} {S : List Nat} {wb : Nat} {id : Int} {pl : Nat} {mo : Mo} {B : List Nat} {va vt : Value} {all told : List Ver} (h : Me w0 w N m hb hm cl rev C chs Ks S wb id pl mo B va vt all told) {w' : World} {G : Nat → Prop} {wb' : Nat} {id' : Int} {pl' : Nat} {mo' : Mo} {B' : List Nat} (k : Only G w w') (hG : ∀ y, G y → y < w.heap.size → y ∈ B) (hH : Hb w' hb hm wb' m.sb id' pl' mo' B') (hg : Grow w B B') : Me w0 w' N m hb hm cl rev C chs Ks S wb' id' pl' mo' B' va vt all told := by
  obtain ⟨m1, m2, m3, m4⟩ := h.mem
  have hlt := h.lt
  have hf := fa_grow (S' := S) (B' := B') (va' := va) (vt' := vt) h.nd hlt h.lo h.nw (fun a => by
    have e1 := fa_count m S B va vt a
    have e2 := fa_count m S B' va vt a
    refine ⟨fun ha => ?_, fun ha => ?_⟩
    · have := hg.1 a ha; omega
    · have := hg.2 a ha
      have := count_out (fun hm : a ∈ Fa m S B va vt => by have := hlt a hm; omega)
      omega)
  have hlt2 : ∀ y, y ∈ m.foot S ∨ y ∈ blk va ∨ y ∈ blk vt → y < w.heap.size := fun y hy => hlt y (fa_mem.2 (by rcases hy with h | h | h <;> simp [h]))
  refine ⟨h.ma.only k (fun y hy g => (m1 y hy).1 (hG y g (hlt2 y (.inl hy)))) (fun y hy hl => xmem.2 (.inl (hG y hy hl))) (fun y hy hl => ?_), hH, h.ea.only k (fun y hy g => (m3 y hy).2.1 (hG y g (hlt2 y (.inr (.inl hy))))), h.et.only k (fun y hy g => (m4 y hy).2.1 (hG y g (hlt2 y (.inr (.inr hy))))), hf.1, hf.2, h.bw.trans (k.below N h.nw (fun y hy hm => by have := h.nw; have := h.lo y (fa_mem.2 (.inr (.inl (hG y hm (by omega))))); omega)), Nat.le_trans h.nw k.size⟩
  rcases xmem.1 hy with hy | hy | hy
  · exact xmem.2 (.inl (hg.mem hl hy))
  · exact xmem.2 (.inr (.inl hy))
  · exact xmem.2 (.inr (.inr hy))
theorem Me.feed {w0 w : World} {N : Nat} {m : Ids} {hb hm : Nat} {cl : Int} {rev C : Nat} {chs : List Ver} {Ks : List Value} {S : List Nat} {wb : Nat} {id : Int} {pl : Nat} {mo : Mo} {B : List Nat} {va vt : Value} {all told : List Ver} (h : Me w0 w N m hb hm cl rev C chs Ks S wb id pl mo B va vt all told) {w' : World} (p : FeedPost chs rev hb hm wb m.sb id pl mo B w w') : ∃ pl' mo' B', FeedR chs rev pl mo pl' mo' ∧ Me w0 w' N m hb hm cl rev C chs Ks S wb id pl' mo' B' va vt all told := by
  obtain ⟨k, pl', mo', B', hR, hH, hg⟩ := p
  exact ⟨pl', mo', B', hR, h.hub k (fun y hy _ => hy ▸ h.wb3.1) hH hg⟩
/-- Numbers of a round: i rounds are behind it. -/
structure Nu (i fr rev C : Nat) (Ks : List Value) (id : Int) : Prop where
  r : rev ≤ i
  k : Ks.length ≤ 32 * i
  c : C ≤ 1400 * i
  i0 : 0 ≤ id
  i1 : id ≤ i + 1
  i40 : i ≤ 40
  f1 : 1 ≤ fr
  f5 : fr ≤ 5
theorem Me.chl {w0 w : World} {N : Nat} {m : Ids} {hb hm : Nat} {cl : Int} {rev C : Nat} {chs : List Ver} {Ks : List Value} {S : List Nat} {wb : Nat} {id : Int} {pl : Nat} {mo : Mo} {B : List Nat} {va vt : Value} {all told : List Ver} (h : Me w0 w N m hb hm cl rev C chs Ks S wb id pl mo B va vt all told) : chs.length ≤ C := by
  obtain ⟨op, hs⟩ := h.ma.1.st
  obtain ⟨_, _, _, _, _, _, -, -, -, -, -, -, hcl, -⟩ := hs
  exact hcl
theorem Gl.len {chs : List Ver} {rev fr : Nat} {all told : List Ver} {pl : Nat} {mo : Mo} {next : Nat} (h : Gl chs rev fr all told pl mo next) : all.length ≤ chs.length ∧ told.length ≤ all.length := by
  obtain ⟨r, hr⟩ := h.pre
  refine ⟨by rw [h.al]; exact List.length_filter_le .., ?_⟩
  rw [hr, List.length_append]; omega
theorem Gl.pls {chs : List Ver} {rev fr : Nat} {all told : List Ver} {pl : Nat} {mo : Mo} {next i C : Nat} {Ks : List Value} {id : Int} (h : Gl chs rev fr all told pl mo next) (n : Nu i fr rev C Ks id) : 1 ≤ pl ∧ pl ≤ 46 ∧ 1 ≤ next ∧ next ≤ 46 := by
  have h3 := h.pl1
  have h4 := h.nx1
  obtain ⟨n1, n2, n3, n4, n5, n6, n7, n8⟩ := n
  omega
end Go.Proofs.YtbheebpfbabffaaGreat.Wat

