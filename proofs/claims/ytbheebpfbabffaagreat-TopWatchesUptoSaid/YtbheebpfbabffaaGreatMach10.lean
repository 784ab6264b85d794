/- The store's note, the write's Done. -/
import Derived.Deep.DeepCutAuto
import Derived.Deep.RegionWith
import Derived.Deep.RegionHeld3
import Derived.Deep.RegionLaw
import Derived.Test.YtbheebpfbabffaaGreatMach9
set_option linter.unusedSimpArgs false
set_option linter.unusedVariables false
namespace Go.Proofs.YtbheebpfbabffaaGreat.Mach
open Go.RowKit Go

theorem ta_put (v : Value) (w : World) : Sem.run Tryz.prog (Instr.typeAssert (.iface 191 v) 107 191 true) w = .ok (.tuple #[v, .bool true]) w := by kernel_rfl
theorem info_vs : (Tryz.prog.info? 109).map (fun i => (i.zero, i.size, i.bytes)) = some (some (.agg #[.int .i64 0, .nilIface]), 2, 24) := by kernel_rfl

/-- What note leaves. -/
def NotePost (n : Nat) (a b c : Int) (p : Value) (w w' : World) : Prop := ∃ cl, Only (fun x => x = n + 1 ∨ x = n + 2 ∨ x = n + 3) w w' ∧ Blk w' (n + 3) #[.int .i64 a, .int .i64 b, .int .i64 c, .pointer (some ⟨n + 1, 0, none⟩), .map (some (n + 2)), cl, p]

/-- What the loads of note's third region read, in a world on its way. -/
theorem s3_keep {C D : Array Value} {x b : Nat} {F : Nat → Prop} {wb W W' : World} (hS : (∀ o, W.cell? ⟨x, o, none⟩ = C[o]?) ∧ (∀ o, W.cell? ⟨b, o, none⟩ = D[o]?) ∧ x < W.heap.size ∧ b < W.heap.size ∧ Only F wb W) (hb : Below W.heap.size W W') :
    (∀ o, W'.cell? ⟨x, o, none⟩ = C[o]?) ∧ (∀ o, W'.cell? ⟨b, o, none⟩ = D[o]?) ∧ x < W'.heap.size ∧ b < W'.heap.size ∧ Only F wb W' :=
  ⟨fun o => (keep0 hb hS.2.2.1 o).trans (hS.1 o), fun o => (keep0 hb hS.2.2.2.1 o).trans (hS.2.1 o), Nat.lt_of_lt_of_le hS.2.2.1 hb.size, Nat.lt_of_lt_of_le hS.2.2.2.1 hb.size, hS.2.2.2.2.then hb⟩
theorem s3_alloc {C D : Array Value} {x b : Nat} {F : Nat → Prop} {wb W : World} (hS : (∀ o, W.cell? ⟨x, o, none⟩ = C[o]?) ∧ (∀ o, W.cell? ⟨b, o, none⟩ = D[o]?) ∧ x < W.heap.size ∧ b < W.heap.size ∧ Only F wb W) (o : Obj) :
    (∀ q, (W.alloc o).cell? ⟨x, q, none⟩ = C[q]?) ∧ (∀ q, (W.alloc o).cell? ⟨b, q, none⟩ = D[q]?) ∧ x < (W.alloc o).heap.size ∧ b < (W.alloc o).heap.size ∧ Only F wb (W.alloc o) := s3_keep hS (bmore (Below.refl _ _) o)
theorem s3_allocd {C D : Array Value} {x b : Nat} {F : Nat → Prop} {wb W : World} (hS : (∀ o, W.drew.cell? ⟨x, o, none⟩ = C[o]?) ∧ (∀ o, W.drew.cell? ⟨b, o, none⟩ = D[o]?) ∧ x < W.drew.heap.size ∧ b < W.drew.heap.size ∧ Only F wb W.drew) (o : Obj) :
    (∀ q, (W.alloc o).drew.cell? ⟨x, q, none⟩ = C[q]?) ∧ (∀ q, (W.alloc o).drew.cell? ⟨b, q, none⟩ = D[q]?) ∧ x < (W.alloc o).drew.heap.size ∧ b < (W.alloc o).drew.heap.size ∧ Only F wb (W.alloc o).drew := s3_alloc (W := W.drew) hS o
theorem s3_map {C D : Array Value} {x b r : Nat} {F : Nat → Prop} {wb W : World} (hS : (∀ o, W.cell? ⟨x, o, none⟩ = C[o]?) ∧ (∀ o, W.cell? ⟨b, o, none⟩ = D[o]?) ∧ x < W.heap.size ∧ b < W.heap.size ∧ Only F wb W) (h1 : x ≠ r) (h2 : b ≠ r) (hF : F r) (es : Array MapEntry) (c : Nat) :
    (∀ o, (setMap W r es c).cell? ⟨x, o, none⟩ = C[o]?) ∧ (∀ o, (setMap W r es c).cell? ⟨b, o, none⟩ = D[o]?) ∧ x < (setMap W r es c).heap.size ∧ b < (setMap W r es c).heap.size ∧ Only F wb (setMap W r es c) :=
  ⟨fun o => (cell_setMap W r es c x o h1).trans (hS.1 o), fun o => (cell_setMap W r es c b o h2).trans (hS.2.1 o), by simpa [setMap] using hS.2.2.1, by simpa [setMap] using hS.2.2.2.1, hS.2.2.2.2.map r (fun _ => hF) es c⟩

theorem news_blk {W : World} {B : Nat} {c : Array Value} (h : Blk W B c) (j : Nat) (u : Value) (hu : c.toList[j]? = some u) : W.cell? ((⟨B, 0, none⟩ : Addr).add j) = some u := by
  have hadd : (⟨B, 0, none⟩ : Addr).add j = ⟨B, j, none⟩ := by unfold Addr.add; split <;> simp_all
  rw [hadd, h.cell j]
  simpa using hu
theorem news_new (W : World) (c : Array Value) (t : TypeId) (j : Nat) (u : Value) (hu : c.toList[j]? = some u) : (W.alloc (.cells c t)).cell? ((⟨W.heap.size, 0, none⟩ : Addr).add j) = some u := news_blk (Blk.new W c t) j u hu
theorem run_upds {P : Program} {w : World} {t k e : TypeId} (ht : P.underlying t = some (.map k e)) (hk : P.underlying k = some .string) {b : Nat} (hb : Mp w b #[]) (s : ByteArray) :
    ∃ c, ∀ v : Value, (Instr.mapUpdate t (.map (some b)) (.string s) v).run P w = .ok () (setMap w b #[{ key := .string s, val := v, born := c }] (c + 1)) := by
  obtain ⟨c, hb⟩ := hb
  exact ⟨c, fun v => run_mapUpdate_first w t k e b c s v ht hk hb⟩

section
variable {P : Program} {w : World}
theorem step_look {ops : Array Oper} {o : Oper} {a : Act} {K : Act → World → Prop} {Q : Exit → Act → World → Prop} {E : Prop} (hg : o.guard = none) (t : TypeId) (m x : Operand) (c : Bool) (hop : o.op = Op.lookup t m x c) {v : Value}
    (hrun : (Instr.lookup t (a.eval m) (a.eval x) c).run P w = .ok v w) (hK : K (a.put o.dst v) w) : if Region.wanted o (yielded ops a.tmps) = true then Oper.wp P o a w K Q else E := by
  have hw : Region.wanted o (yielded ops a.tmps) = true := by simp [Region.wanted, hg]
  rw [if_pos hw]
  unfold Oper.wp
  simp [execOp, hop, hrun, Result.andThen]
  exact hK
theorem step_upd {ops : Array Oper} {o : Oper} {a : Act} {K : Act → World → Prop} {Q : Exit → Act → World → Prop} {E : Prop} (hg : o.guard = none) (t : TypeId) (m k x : Operand) (hop : o.op = Op.mapUpdate t m k x) {w' : World}
    (hrun : (Instr.mapUpdate t (a.eval m) (a.eval k) (a.eval x)).run P w = .ok () w') (hK : K (a.put o.dst undef) w') : if Region.wanted o (yielded ops a.tmps) = true then Oper.wp P o a w K Q else E := by
  have hw : Region.wanted o (yielded ops a.tmps) = true := by simp [Region.wanted, hg]
  rw [if_pos hw]
  unfold Oper.wp
  simp [execOp, hop, hrun, Result.andThen]
  exact hK
end

set_option maxHeartbeats 8000000 in
set_option maxRecDepth 100000 in
theorem note_a (n : Nat) (a b c : Int) (p : Value) (w : World) (h : Blk w (n + 3) #[.int .i64 a, .int .i64 b, .int .i64 c, .pointer (some ⟨n + 1, 0, none⟩), .map (some (n + 2)), .slice none 0 0, p]) (hm0 : Mp w (n + 2) #[]) (hix : Blk w (n + 1) #[.pointer none, .int .i64 0]) :
    Calls Tryz.prog 136 #[.pointer (some ⟨n + 3, 0, none⟩), .agg #[.int .i64 1, putV]] w fun e w' => e = .returned (.tuple #[]) ∧ NotePost n a b c p w w' := by
  have hta := ta_put
  have hc := h.cell
  have hl := h.lt
  unfold putV kv1
  go_enter Tryz.func136, Tryz.ntmps136
  go_wp2_with fail
  have k1 := (h.alloc (.cells #[.int .i64 1, .iface 191 (.agg #[.string ⟨#[97]⟩, .string ⟨#[120]⟩, .int .i64 1, .int .i64 1, .int .i64 1, .int .i64 0])] 109)).alloc (.cells #[.string ⟨#[97]⟩, .string ⟨#[120]⟩, .int .i64 1, .int .i64 1, .int .i64 1, .int .i64 0] 191)
  have k2 := (hm0.alloc (.cells #[.int .i64 1, .iface 191 (.agg #[.string ⟨#[97]⟩, .string ⟨#[120]⟩, .int .i64 1, .int .i64 1, .int .i64 1, .int .i64 0])] 109)).alloc (.cells #[.string ⟨#[97]⟩, .string ⟨#[120]⟩, .int .i64 1, .int .i64 1, .int .i64 1, .int .i64 0] 191)
  have k3 := (hix.alloc (.cells #[.int .i64 1, .iface 191 (.agg #[.string ⟨#[97]⟩, .string ⟨#[120]⟩, .int .i64 1, .int .i64 1, .int .i64 1, .int .i64 0])] 109)).alloc (.cells #[.string ⟨#[97]⟩, .string ⟨#[120]⟩, .int .i64 1, .int .i64 1, .int .i64 1, .int .i64 0] 191)
  have k4 := (Blk.new w #[.int .i64 1, .iface 191 (.agg #[.string ⟨#[97]⟩, .string ⟨#[120]⟩, .int .i64 1, .int .i64 1, .int .i64 1, .int .i64 0])] 109).alloc (.cells #[.string ⟨#[97]⟩, .string ⟨#[120]⟩, .int .i64 1, .int .i64 1, .int .i64 1, .int .i64 0] 191)
  have hb := bmore (bmore (Below.refl w.heap.size w) (.cells #[.int .i64 1, .iface 191 (.agg #[.string ⟨#[97]⟩, .string ⟨#[120]⟩, .int .i64 1, .int .i64 1, .int .i64 1, .int .i64 0])] 109)) (.cells #[.string ⟨#[97]⟩, .string ⟨#[120]⟩, .int .i64 1, .int .i64 1, .int .i64 1, .int .i64 0] 191)
  generalize (w.alloc (.cells #[.int .i64 1, .iface 191 (.agg #[.string ⟨#[97]⟩, .string ⟨#[120]⟩, .int .i64 1, .int .i64 1, .int .i64 1, .int .i64 0])] 109)).alloc (.cells #[.string ⟨#[97]⟩, .string ⟨#[120]⟩, .int .i64 1, .int .i64 1, .int .i64 1, .int .i64 0] 191) = wa at *
  have hO0 := Only.of_below (F := fun x => x = n + 1 ∨ x = n + 2 ∨ x = n + 3) hb
  have hm := meth_key
  unfold kv1 at hm
  clear hc h hm0 hix hb
  go_cut [] (fun wx => Only (fun x => x = n + 1) wa wx)
  case first =>
    have hc1 : ∀ o, wa.drew.cell? ⟨n + 3, o, none⟩ = _ := k1.cell
    have hc4 : ∀ o, wa.drew.cell? ⟨w.heap.size, o, none⟩ = _ := k4.cell
    have hz1 := k1.drew.lt
    have hz4 := k4.drew.lt
    go_region_with (first
      | (go_at_call 257; refine (key_put _).mono ?_; rintro e w5 ⟨rfl, hb5⟩; have hc5 := (k1.drew.keep hb5).cell; have hc6 := (k4.drew.keep hb5).cell)
      | (go_at_call 135; refine (iput_a n _ (k3.drew.keep hb5)).mono ?_; rintro e w6 ⟨rfl, hO6⟩))
    all_goals (
      go_wp2_with fail
      go_meet
      exact ((Only.refl _ wa).drew.then hb5).trans hO6 (fun _ _ h => h))
  case rest =>
    have m1 := k1.only hcut (by omega)
    have m2 := k2.only hcut (by omega)
    have m4 := k4.only hcut (by omega)
    have hO1 := hO0.trans hcut (fun _ _ h => .inl h)
    clear k1 k2 k3 k4 hO0 hcut
    go_wp2_with fail
    go_cut [] (fun wx => Only (fun x => x = n + 2) wc wx)
    case first =>
      have hS : (∀ o, wc.drew.cell? ⟨n + 3, o, none⟩ = (#[.int .i64 a, .int .i64 b, .int .i64 c, .pointer (some ⟨n + 1, 0, none⟩), .map (some (n + 2)), .slice none 0 0, p] : Array Value)[o]?) ∧ (∀ o, wc.drew.cell? ⟨w.heap.size, o, none⟩ = (#[.int .i64 1, .iface 191 (.agg #[.string ⟨#[97]⟩, .string ⟨#[120]⟩, .int .i64 1, .int .i64 1, .int .i64 1, .int .i64 0])] : Array Value)[o]?) ∧ n + 3 < wc.drew.heap.size ∧ w.heap.size < wc.drew.heap.size ∧ Only (fun x => x = n + 2) wc wc.drew :=
        ⟨m1.cell, m4.cell, m1.lt, m4.lt, (Only.refl _ _).drew⟩
      have hM0 := m2.drew
      obtain ⟨i0, hi0, hz0, hz1, hz2⟩ := info_parts info_vs
      go_region_held3 (fun w' => (∀ o, w'.cell? ⟨n + 3, o, none⟩ = (#[.int .i64 a, .int .i64 b, .int .i64 c, .pointer (some ⟨n + 1, 0, none⟩), .map (some (n + 2)), .slice none 0 0, p] : Array Value)[o]?) ∧ (∀ o, w'.cell? ⟨w.heap.size, o, none⟩ = (#[.int .i64 1, .iface 191 (.agg #[.string ⟨#[97]⟩, .string ⟨#[120]⟩, .int .i64 1, .int .i64 1, .int .i64 1, .int .i64 0])] : Array Value)[o]?) ∧ n + 3 < w'.heap.size ∧ w.heap.size < w'.heap.size ∧ Only (fun x => x = n + 2) wc w')
        (first
          | assumption
          | with_reducible exact hS
          | (with_reducible refine s3_allocd ?_ _; exact hS)
          | (with_reducible refine s3_alloc ?_ _; first | assumption | exact hS)
          | (refine s3_map ?_ (by omega) (by omega) (by rfl) _ _; first | assumption | exact hS)
          | (with_reducible refine s3_keep ?_ hb; first | assumption | exact hS | (with_reducible refine s3_alloc ?_ _; first | assumption | exact hS) | (with_reducible refine s3_allocd ?_ _; exact hS)))
        (first
          | (go_at_call 257; refine (key_put _).mono ?_; rintro e w5 ⟨rfl, hb⟩; (try have hNn := Blk.keep (Blk.new _ #[.int .i64 1, .iface 191 (.agg #[.string ⟨#[97]⟩, .string ⟨#[120]⟩, .int .i64 1, .int .i64 1, .int .i64 1, .int .i64 0])] 109) hb); (try have hNd := Blk.keep (Blk.drew (Blk.new _ #[.int .i64 1, .iface 191 (.agg #[.string ⟨#[97]⟩, .string ⟨#[120]⟩, .int .i64 1, .int .i64 1, .int .i64 1, .int .i64 0])] 109)) hb); (try have hNm := Blk.keep (c := #[.int .i64 1, .iface 191 (.agg #[.string ⟨#[97]⟩, .string ⟨#[120]⟩, .int .i64 1, .int .i64 1, .int .i64 1, .int .i64 0])]) (by assumption) hb); have hM5 : Mp w5 (n + 2) #[] := Mp.keep (by first | assumption | exact Mp.alloc (by assumption) _ | exact (Mp.alloc m2 _).drew) hb; have hl5 := run_look_none (w := w5) Tryz.underlying94 Tryz.underlying9 (zero_vs _) hM5 ⟨#[97]⟩ false; have hl6 := fun o => run_look_none (w := w5.alloc o) Tryz.underlying94 Tryz.underlying9 (zero_vs _) (hM5.alloc o) ⟨#[97]⟩ false)
          | (refine step_append_nil rfl _ _ 95 rfl 109 i0 (.agg #[.int .i64 0, .nilIface]) 2 24 Tryz.underlying95 hi0 hz0 hz1 hz2 rfl (by decide) rfl _ 1 1 [.int .i64 1, .iface 191 (.agg #[.string ⟨#[97]⟩, .string ⟨#[120]⟩, .int .i64 1, .int .i64 1, .int .i64 1, .int .i64 0])] rfl rfl (by first | exact news_new _ #[.int .i64 1, .iface 191 (.agg #[.string ⟨#[97]⟩, .string ⟨#[120]⟩, .int .i64 1, .int .i64 1, .int .i64 1, .int .i64 0])] 109 | exact news_blk (c := #[.int .i64 1, .iface 191 (.agg #[.string ⟨#[97]⟩, .string ⟨#[120]⟩, .int .i64 1, .int .i64 1, .int .i64 1, .int .i64 0])]) (by assumption)) (by intro u hu; simp at hu; rcases hu with rfl | rfl <;> rfl) (by decide) (by decide) (by decide) _ rfl ?_; intro cap w6 hM; have hb := hM.below; have hM6 : Mp w6 (n + 2) #[] := Mp.keep (by first | assumption | exact Mp.alloc (by assumption) _ | exact (Mp.alloc m2 _).drew) hb; obtain ⟨c6, hu6⟩ := run_upds Tryz.underlying94 Tryz.underlying9 hM6 ⟨#[97]⟩))
      all_goals (
        go_wp2_with fail
        go_meet
        exact ((by assumption : (∀ o, (_ : World).cell? ⟨n + 3, o, none⟩ = _) ∧ _ ∧ _ ∧ _ ∧ Only (fun x => x = n + 2) wc _)).2.2.2.2)
    case rest =>
      have r1 := m1.only hcut (by omega)
      have r4 := m4.only hcut (by omega)
      have hO2 := hO1.trans hcut (fun _ _ h => .inr (.inl h))
      clear m1 m2 m4 hO1 hcut
      go_wp2_with fail
      have d1 := r1.drew
      have d4 := r4.drew
      have hd1 := d1.cell
      have hf1 := d1.frz
      have hd4 := d4.cell
      have hz1 := d1.lt
      have hz4 := d4.lt
      have hOd := hO2.drew
      have hw1 := r1.cell
      have hwl := r1.lt
      have hw4 := r4.cell
      have hwm := r4.lt
      obtain ⟨i0, hi0, hz0, hy1, hy2⟩ := info_parts info_vs
      go_region_law (first
        | (refine step_append_nil rfl _ _ 95 rfl 109 i0 (.agg #[.int .i64 0, .nilIface]) 2 24 Tryz.underlying95 hi0 hz0 hy1 hy2 rfl (by decide) rfl _ 1 1 [.int .i64 1, .iface 191 (.agg #[.string ⟨#[97]⟩, .string ⟨#[120]⟩, .int .i64 1, .int .i64 1, .int .i64 1, .int .i64 0])] rfl rfl (by first | exact news_new _ #[.int .i64 1, .iface 191 (.agg #[.string ⟨#[97]⟩, .string ⟨#[120]⟩, .int .i64 1, .int .i64 1, .int .i64 1, .int .i64 0])] 109 | exact news_blk (c := #[.int .i64 1, .iface 191 (.agg #[.string ⟨#[97]⟩, .string ⟨#[120]⟩, .int .i64 1, .int .i64 1, .int .i64 1, .int .i64 0])]) (by assumption)) (by intro u hu; simp at hu; rcases hu with rfl | rfl <;> rfl) (by decide) (by decide) (by decide) _ rfl ?_; intro cap w6 hM; have hst6 : Blk w6 (n + 3) #[.int .i64 a, .int .i64 b, .int .i64 c, .pointer (some ⟨n + 1, 0, none⟩), .map (some (n + 2)), .slice none 0 0, p] := Blk.keep (by first | assumption | exact Blk.alloc (by assumption) _ | exact (Blk.alloc r1 _).drew) hM.below; have hcc6 := hst6.cell; have hff6 := hst6.frz))
      all_goals (
        have hX := Only.then (by first | exact (hO2.alloc _).drew | exact hO2.drew.alloc _) hM.below
        go_end0
        have h5 := hst6.setCell 5 (.slice (some ⟨wc.heap.size + 1, 0, none⟩) 1 cap)
        simp at h5
        exact ⟨rfl, .slice (some ⟨wc.heap.size + 1, 0, none⟩) 1 cap, hX.set ⟨n + 3, 5, none⟩ (fun _ => .inr (.inr rfl)) _, h5⟩)
end Go.Proofs.YtbheebpfbabffaaGreat.Mach

