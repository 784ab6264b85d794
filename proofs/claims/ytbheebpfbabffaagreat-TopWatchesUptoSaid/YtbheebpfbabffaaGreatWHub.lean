/- watch: the hub: New, Watch. -/
import Derived.Test.YtbheebpfbabffaaGreatVP
set_option linter.unusedSimpArgs false
set_option linter.unusedVariables false
namespace Go.Proofs.YtbheebpfbabffaaGreat.Wat
open Go.RowKit Go Go.Lib Mach Go.MapKept

/-- How a watcher stands. -/
inductive Mo where
  | behind
  | hears (l : List Ver)
  | ended (l : List Ver)
def Mo.kept : Mo → List Ver
  | .behind => []
  | .hears l => l
  | .ended l => l
def Md (w : World) (md : Value) (bl : List Nat) : Mo → Prop
  | .behind => md = .iface 87 (.agg #[]) ∧ bl = []
  | .hears l => ∃ v, md = .iface 113 (.agg #[v]) ∧ Evs w 0 v l ∧ l.length ≤ 16 ∧ bl = blk v
  | .ended l => ∃ v, md = .iface 117 (.agg #[v, .int .i64 14]) ∧ Evs w 0 v l ∧ l.length ≤ 16 ∧ bl = blk v
theorem Md.only {G : Nat → Prop} {w w' : World} {md : Value} {bl : List Nat} {mo : Mo} (h : Md w md bl mo) (k : Only G w w') (hG : ∀ y ∈ bl, ¬ G y) : Md w' md bl mo := by
  cases mo with
  | behind => exact h
  | hears l =>
    obtain ⟨v, h1, h2, h3, rfl⟩ := h
    exact ⟨v, h1, h2.only k hG, h3, rfl⟩
  | ended l =>
    obtain ⟨v, h1, h2, h3, rfl⟩ := h
    exact ⟨v, h1, h2.only k hG, h3, rfl⟩
theorem Md.lt {w : World} {md : Value} {bl : List Nat} {mo : Mo} (h : Md w md bl mo) : ∀ y ∈ bl, y < w.heap.size := by
  intro y hy
  cases mo with
  | behind => rw [h.2] at hy; cases hy
  | hears l =>
    obtain ⟨v, h1, h2, h3, rfl⟩ := h
    exact (h2.lt y hy).2
  | ended l =>
    obtain ⟨v, h1, h2, h3, rfl⟩ := h
    exact (h2.lt y hy).2
/-- A hub with no watcher. -/
def He (w : World) (hb hm sb : Nat) (last : Int) : Prop := Blk w hb #[Ptr sb, .map (some hm), .int .i64 last] ∧ MapK w (.int .i64) hm []
/-- A hub with one watcher, of all keys. -/
structure Hb (w : World) (hb hm wb sb : Nat) (id : Int) (pl : Nat) (mo : Mo) (B : List Nat) : Prop where
  hub : Blk w hb #[Ptr sb, .map (some hm), .int .i64 id]
  map : ∃ c, MapK w (.int .i64) hm [{ key := .int .i64 id, val := Ptr wb, born := c }]
  wat : ∃ md bl, Wa w wb pl md ∧ Md w md bl mo ∧ B = [hb, hm, wb] ++ bl
  nd : Nd B
theorem Hb.only {G : Nat → Prop} {w w' : World} {hb hm wb sb : Nat} {id : Int} {pl : Nat} {mo : Mo} {B : List Nat} (h : Hb w hb hm wb sb id pl mo B) (k : Only G w w') (hG : ∀ y ∈ B, ¬ G y) : Hb w' hb hm wb sb id pl mo B := by
  obtain ⟨md, bl, h1, h2, h3⟩ := h.wat
  obtain ⟨c, hm'⟩ := h.map
  rw [h3] at hG
  exact ⟨h.hub.only k (hG _ (by simp)), ⟨c, hm'.only k (hG _ (by simp))⟩, ⟨md, bl, h1.only k (hG _ (by simp)), h2.only k (fun y hy => hG _ (by simp [hy])), h3⟩, h.nd⟩
theorem Hb.lt {w : World} {hb hm wb sb : Nat} {id : Int} {pl : Nat} {mo : Mo} {B : List Nat} (h : Hb w hb hm wb sb id pl mo B) : ∀ y ∈ B, y < w.heap.size := by
  obtain ⟨md, bl, h1, h2, h3⟩ := h.wat
  obtain ⟨c, hm'⟩ := h.map
  intro y hy
  rw [h3] at hy
  simp at hy
  rcases hy with rfl | rfl | rfl | hy
  · exact h.hub.lt
  · exact hm'.lt
  · exact h1.lt
  · exact h2.lt y hy
theorem Hb.keep {w w' : World} {hb hm wb sb : Nat} {id : Int} {pl : Nat} {mo : Mo} {B : List Nat} (h : Hb w hb hm wb sb id pl mo B) (k : Below w.heap.size w w') : Hb w' hb hm wb sb id pl mo B := h.only (G := fun _ => False) (Only.of_below k) (fun _ _ h => h)
theorem He.only {G : Nat → Prop} {w w' : World} {hb hm sb : Nat} {last : Int} (h : He w hb hm sb last) (k : Only G w w') (h1 : ¬ G hb) (h2 : ¬ G hm) : He w' hb hm sb last := ⟨h.1.only k h1, h.2.only k h2⟩
theorem He.ne {w : World} {hb hm sb : Nat} {last : Int} (h : He w hb hm sb last) : hb ≠ hm := fun e => by
  obtain ⟨t, h1⟩ := h.1
  obtain ⟨c, h2, -⟩ := h.2
  rw [e, h2] at h1
  cases h1

set_option maxRecDepth 100000 in
theorem hub_new (sb : Nat) (w : World) : Calls Tryz.prog 7 #[Ptr sb] w fun e w' => e = .returned (Ptr (w.heap.size + 1)) ∧ He w' (w.heap.size + 1) w.heap.size sb 0 ∧ Below w.heap.size w w' := by
  have hmm := @run_makeMap Tryz.prog
  go_enter Tryz.func7, Tryz.ntmps7
  go_wp2
  go_ret
  exact ⟨rfl, ⟨Blk.newAt (by simp), (MapK.new w _).alloc _⟩, bmore (bmore (Below.refl _ _) _) _⟩

set_option maxHeartbeats 4000000 in
set_option maxRecDepth 100000 in
theorem watch_f {w : World} {hb hm sb : Nat} {last : Int} (hE : He w hb hm sb last) (hlast : 0 ≤ last ∧ last ≤ 1000000) (pl : Nat) (hpl : 1 ≤ pl) (hpl2 : pl ≤ 3000000) :
    Calls Tryz.prog 10 #[Ptr hb, .string ⟨#[0]⟩, .string (topn 101), .int .i64 pl] w fun e w' => e = .returned (.int .i64 (last + 1)) ∧ (∃ wb, w.heap.size ≤ wb ∧ Hb w' hb hm wb sb (last + 1) pl .behind [hb, hm, wb]) ∧ Only (fun y => y = hb ∨ y = hm) w w' := by
  have hne := hE.ne
  have hEl := hE.1.lt
  have hml := hE.2.lt
  obtain ⟨w1, hw1⟩ : ∃ w1, w1 = w.setCell ⟨hb, 2, none⟩ (.int .i64 (last + 1)) := ⟨_, rfl⟩
  have hO1 : Only (fun y => y = hb ∨ y = hm) w w1 := by rw [hw1]; exact (Only.refl _ w).set _ (fun _ => .inl rfl) _
  have hB1 : Blk w1 hb #[Ptr sb, .map (some hm), .int .i64 (last + 1)] := by rw [hw1]; have := hE.1.setCell 2 (.int .i64 (last + 1)); simpa using this
  have hM1 : MapK w1 (.int .i64) hm [] := by rw [hw1]; exact hE.2.only (F := fun y => y = hb) ((Only.refl (fun y => y = hb) w).set ⟨hb, 2, none⟩ (fun _ => rfl) _) (fun e => hne e.symm)
  have hc := hE.1.cell
  have hf := hE.1.frz
  go_enter Tryz.func10, Tryz.ntmps10
  go_wp2_with fail
  rw [← hw1]
  clear hw1 hc hf hE
  have q1 : ∀ o, w1.drew.cell? ⟨hb, o, none⟩ = _ := hB1.cell
  have q2 : ∀ ob o, (w1.alloc ob).drew.cell? ⟨hb, o, none⟩ = _ := fun ob => (hB1.alloc ob).cell
  obtain ⟨f, q, hu, hM, hU⟩ : ∃ (f : Obj → Value → List MapEntry) (q : Obj → Value → Nat), (∀ o v, (Instr.mapUpdate 82 (.map (some hm)) (.int .i64 (last + 1)) v).run Tryz.prog (w1.alloc o).drew = .ok () (setMap (w1.alloc o).drew hm (f o v).toArray (q o v))) ∧ (∀ o v, MapK (setMap (w1.alloc o).drew hm (f o v).toArray (q o v)) (.int .i64) hm (f o v)) ∧ ∀ o v, Upd [] (.int .i64 (last + 1)) v (f o v) := by
    have h1 := fun o => upd_maps Tryz.underlying82 Tryz.underlying3 (key := .int .i64 (last + 1)) rfl (hM1.alloc o).drew
    exact ⟨fun o => (h1 o).choose, fun o => (h1 o).choose_spec.choose, fun o => (h1 o).choose_spec.choose_spec.1, fun o => (h1 o).choose_spec.choose_spec.2.1, fun o => (h1 o).choose_spec.choose_spec.2.2⟩
  have hmx : max (pl : Int) 1 = pl := by omega
  go_region
  have hM2 := hM (.cells #[.string ⟨#[0]⟩, .string (topn 101), .int .i64 pl, .iface 87 (.agg #[])] 91) (Ptr w1.heap.size)
  have hU2 := hU (.cells #[.string ⟨#[0]⟩, .string (topn 101), .int .i64 pl, .iface 87 (.agg #[])] 91) (Ptr w1.heap.size)
  have hO2 : Only (fun y => y = hm) w1 (setMap (w1.alloc (.cells #[.string ⟨#[0]⟩, .string (topn 101), .int .i64 pl, .iface 87 (.agg #[])] 91)).drew hm (f (.cells #[.string ⟨#[0]⟩, .string (topn 101), .int .i64 pl, .iface 87 (.agg #[])] 91) (Ptr w1.heap.size)).toArray (q (.cells #[.string ⟨#[0]⟩, .string (topn 101), .int .i64 pl, .iface 87 (.agg #[])] 91) (Ptr w1.heap.size))) := Only.map (F := fun y => y = hm) (Only.of_below (bmore (Below.refl _ _) _).drew) hm (fun _ => rfl) _ _
  have hOn : Only (fun y => y = hm) (w1.alloc (.cells #[.string ⟨#[0]⟩, .string (topn 101), .int .i64 pl, .iface 87 (.agg #[])] 91)).drew (setMap (w1.alloc (.cells #[.string ⟨#[0]⟩, .string (topn 101), .int .i64 pl, .iface 87 (.agg #[])] 91)).drew hm (f (.cells #[.string ⟨#[0]⟩, .string (topn 101), .int .i64 pl, .iface 87 (.agg #[])] 91) (Ptr w1.heap.size)).toArray (q (.cells #[.string ⟨#[0]⟩, .string (topn 101), .int .i64 pl, .iface 87 (.agg #[])] 91) (Ptr w1.heap.size))) := Only.map (F := fun y => y = hm) (Only.refl _ _) hm (fun _ => rfl) _ _
  have hW : Blk (w1.alloc (.cells #[.string ⟨#[0]⟩, .string (topn 101), .int .i64 pl, .iface 87 (.agg #[])] 91)).drew w1.heap.size #[.string ⟨#[0]⟩, .string (topn 101), .int .i64 pl, .iface 87 (.agg #[])] := (Blk.new _ _ _).drew
  have hml1 := hM1.lt
  have hW2 := hW.only hOn (by omega)
  have hB2 := hB1.only hO2 hne
  have hs1 := hO1.size
  generalize setMap (w1.alloc (.cells #[.string ⟨#[0]⟩, .string (topn 101), .int .i64 pl, .iface 87 (.agg #[])] 91)).drew hm _ _ = w2 at *
  generalize f (.cells #[.string ⟨#[0]⟩, .string (topn 101), .int .i64 pl, .iface 87 (.agg #[])] 91) (Ptr w1.heap.size) = l2 at *
  have hc2 := hB2.cell
  have hB1l := hB1.lt
  clear hu hM hU q1 q2 hOn hW
  go_wp2
  go_ret
  obtain ⟨-, c, rfl⟩ | ⟨l1, x, l2, h0, -⟩ := hU2
  · refine ⟨rfl, ⟨w1.heap.size, hs1, ⟨hB2, ⟨c, hM2⟩, ⟨_, [], hW2, ⟨rfl, rfl⟩, rfl⟩, ?_⟩⟩, hO1.trans hO2 (fun y _ e => .inr e)⟩
    intro a
    have hnd : [hb, hm, w1.heap.size].Nodup := by
      simp
      omega
    exact List.nodup_iff_count.1 hnd a
  · simp at h0
end Go.Proofs.YtbheebpfbabffaaGreat.Wat

