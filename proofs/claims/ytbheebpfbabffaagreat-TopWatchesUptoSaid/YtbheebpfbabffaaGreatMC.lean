/- Joined: a part of the proof of TopWatches. -/
import Derived.Deep.AppendLies
import Derived.Deep.RegionWith
import Derived.WalkSmall
import Derived.OwnWalk
import Derived.Test.YtbheebpfbabffaaGreatMB
set_option linter.unusedSimpArgs false
set_option linter.unusedVariables false
namespace Go.Proofs.YtbheebpfbabffaaGreat.Mach
open Go.RowKit Go

section
variable {P : Program} {w : World}
theorem own_nil (w : World) (base : Nat) (e : TypeId) (size : Nat) : w.ownsRow base e size (.slice none 0 0) 0 [] := ⟨by simp, .inl ⟨rfl, rfl⟩⟩
/-- What an append onto nil leaves. -/
structure Made (w w' : World) (H : Nat) (news : List Value) : Prop where
  below : Below w.heap.size w w'
  cell : ∀ (j : Nat) u, news[j]? = some u → w'.cell? ⟨H, j, none⟩ = some u
  frz : ∀ j, w'.frozen? ⟨H, j, none⟩ = false
  lt : H < w'.heap.size
theorem made_of {w w' : World} {e : TypeId} {size m cap g H : Nat} {news : List Value} (hH : w.heap.size = H) (hl : news.length = m * size) (hm : 0 < m) (hown : w'.ownsRow w.heap.size e size (.slice (some ⟨g, 0, none⟩) (0 + m) cap) (0 + m) ([] ++ news)) (hg : w.grownBy w' (Value.slice none 0 0).ownBlock)
    (hat : (Value.slice none 0 0).ownBlock = some g ∨ g = H) (hlt : g < w'.heap.size) : g = H ∧ Made w w' H news := by
  have hgH : g = H := by
    rcases hat with h | h
    · simp [Value.ownBlock] at h
    · exact h
  subst hgH
  refine ⟨rfl, (Below.refl _ _).grown hg (Nat.le_refl _) (fun k hk => by simp [Value.ownBlock] at hk), ?_, ?_, hlt⟩
  · intro j u hu
    rcases hown.2 with ⟨h, -⟩ | ⟨g', cap', cur, hv, -, hh, -, -, -, ht⟩
    · cases h
    · cases hv
      have hj : j < m * size := by rw [← hl]; exact (List.getElem?_eq_some_iff.1 hu).1
      have h1 : (cur.toList.take ((0 + m) * size))[j]? = some u := by rw [ht]; simpa using hu
      rw [List.getElem?_take] at h1
      rw [if_pos (by simpa using hj)] at h1
      simp [World.cell?, hh]
      simpa using h1
  · intro j
    rcases hown.2 with ⟨h, -⟩ | ⟨g', cap', cur, hv, -, hh, -, -, -, -⟩
    · cases h
    · cases hv
      simp [World.frozen?, hh]
theorem wpList_append_nil {ops : Array Oper} {rest : List Oper} {o : Oper} {a : Act} {Q : Exit → Act → World → Prop} (hgd : o.guard = none) (s x : Operand) (t : TypeId)
    (ho : o.op = .call { callee := .builtin .append, args := #[s, x], argTypes := #[t, t] }) (e : TypeId) (i : TypeInfo) (z : Value) (size bytes : Nat) (ht : P.underlying t = some (.slice e)) (hi : P.info? e = some i) (hz : i.zero = some z)
    (hsize : i.size = size) (hby : i.bytes = bytes) (hzs : z.cells.size = size) (hsz : 0 < size) (hs : a.eval s = .slice none 0 0)
    (ad : Addr) (m c : Nat) (news : List Value) (hx : a.eval x = .slice (some ad) m c) (hl : news.length = m * size) (hnews : ∀ j u, news[j]? = some u → w.cell? (ad.add j) = some u) (h1 : ∀ u ∈ news, u.oneCell' = true)
    (hm : 0 < m) (h63 : m ≤ maxLen) (hbytes : m * bytes ≤ 140737488355328) (H : Nat) (hH : w.heap.size = H)
    (h : ∀ cap w', Made w w' H news → wpList P ops Q rest (a.put o.dst (.slice (some ⟨H, 0, none⟩) m cap)) w') : wpList P ops Q (o :: rest) a w :=
  wpList_append_lies w hgd s x t ho w.heap.size e i z size bytes ht hi hz hsize hby hzs hsz _ 0 [] hs (own_nil _ _ _ _) ad m c news hx hl hnews h1 hm (by omega) (by simpa using hbytes) (Nat.le_refl _) H hH
    fun g cap w' hown hg hat hlt => by
      obtain ⟨rfl, hM⟩ := made_of hH hl hm hown hg hat hlt
      simpa using h cap w' hM
theorem step_append_nil {ops : Array Oper} {o : Oper} {a : Act} {K : Act → World → Prop} {Q : Exit → Act → World → Prop} {E : Prop} (hgd : o.guard = none) (s x : Operand) (t : TypeId)
    (ho : o.op = .call { callee := .builtin .append, args := #[s, x], argTypes := #[t, t] }) (e : TypeId) (i : TypeInfo) (z : Value) (size bytes : Nat) (ht : P.underlying t = some (.slice e)) (hi : P.info? e = some i) (hz : i.zero = some z)
    (hsize : i.size = size) (hby : i.bytes = bytes) (hzs : z.cells.size = size) (hsz : 0 < size) (hs : a.eval s = .slice none 0 0)
    (ad : Addr) (m c : Nat) (news : List Value) (hx : a.eval x = .slice (some ad) m c) (hl : news.length = m * size) (hnews : ∀ j u, news[j]? = some u → w.cell? (ad.add j) = some u) (h1 : ∀ u ∈ news, u.oneCell' = true)
    (hm : 0 < m) (h63 : m ≤ maxLen) (hbytes : m * bytes ≤ 140737488355328) (H : Nat) (hH : w.heap.size = H)
    (h : ∀ cap w', Made w w' H news → K (a.put o.dst (.slice (some ⟨H, 0, none⟩) m cap)) w') :
    if Region.wanted o (yielded ops a.tmps) = true then Oper.wp P o a w K Q else E :=
  step_append_lies w hgd s x t ho w.heap.size e i z size bytes ht hi hz hsize hby hzs hsz _ 0 [] hs (own_nil _ _ _ _) ad m c news hx hl hnews h1 hm (by omega) (by simpa using hbytes) (Nat.le_refl _) H hH
    fun g cap w' hown hg hat hlt => by
      obtain ⟨rfl, hM⟩ := made_of hH hl hm hown hg hat hlt
      simpa using h cap w' hM
end

/-- The example's key as a version's, put at revision 1. -/
abbrev kv1 : Array Value := #[.string ⟨#[97]⟩, .string ⟨#[120]⟩, .int .i64 1, .int .i64 1, .int .i64 1, .int .i64 0]
abbrev putV : Value := .iface 191 (.agg kv1)
theorem info_ch : (Tryz.prog.info? 107).map (fun i => (i.zero, i.size, i.bytes)) = some (some .nilIface, 1, 16) := by kernel_rfl

set_option maxRecDepth 100000 in
theorem key_put (w : World) : Calls Tryz.prog 257 #[.agg kv1] w fun e w' => e = .returned (.string ⟨#[97]⟩) ∧ Below w.heap.size w w' := by
  unfold kv1
  go_enter Tryz.func257, Tryz.ntmps257
  go_wp2
  go_ret
  exact ⟨rfl, bmore (Below.refl _ _) _⟩

theorem run_upd {P : Program} {w : World} {t k e : TypeId} (ht : P.underlying t = some (.map k e)) (hk : P.underlying k = some .string) {b : Nat} (hb : Mp w b #[]) (s : ByteArray) (v : Value) :
    ∃ c, (Instr.mapUpdate t (.map (some b)) (.string s) v).run P w = .ok () (setMap w b #[{ key := .string s, val := v, born := c }] (c + 1)) := by
  obtain ⟨c, hb⟩ := hb
  exact ⟨c, run_mapUpdate_first w t k e b c s v ht hk hb⟩
/-- A write in which nothing has been laid yet; so many keys it counts. -/
structure OpenW (w : World) (n q : Nat) (l : Int) : Prop where
  by0 : Mp w q #[]
  wr : Blk w (q + 1) #[.pointer (some ⟨n + 3, 0, none⟩), .slice none 0 0, .map (some q), .int .i64 l]
theorem OpenW.keep {w w' : World} {n q : Nat} {l : Int} (h : OpenW w n q l) (hb : Below w.heap.size w w') : OpenW w' n q l := ⟨h.by0.keep hb, h.wr.keep hb⟩
/-- What lay leaves. -/
def LayPost (n q : Nat) (l : Int) (w w' : World) : Prop := ∃ cap lb, w.heap.size ≤ lb ∧ Only (fun k => k = q ∨ k = q + 1) w w' ∧ Blk w' (q + 1) #[.pointer (some ⟨n + 3, 0, none⟩), .slice (some ⟨lb, 0, none⟩) 1 cap, .map (some q), .int .i64 l] ∧ w'.cell? ⟨lb, 0, none⟩ = some putV
theorem cell_setOther (w : World) (a : Addr) (v : Value) (b o : Nat) (h : b ≠ a.block) : (w.setCell a v).cell? ⟨b, o, none⟩ = w.cell? ⟨b, o, none⟩ := World.cell?_of_block (w := w) (Below.heap_setCell w a v b h)
theorem cell_setMap (w : World) (r : Nat) (es : Array MapEntry) (c b o : Nat) (h : b ≠ r) : (setMap w r es c).cell? ⟨b, o, none⟩ = w.cell? ⟨b, o, none⟩ := World.cell?_of_block (w := w) (by
  simp only [setMap, Array.getElem?_setIfInBounds]
  rw [if_neg (fun e => h e.symm)])
theorem meth_key (w : World) : (method 475 191 (.agg kv1) "horologe/mvcc.key").run Tryz.prog w = .ok (257, .agg kv1) w := by kernel_rfl

set_option maxHeartbeats 4000000 in
set_option maxRecDepth 100000 in
theorem lay_a (n q : Nat) (l : Int) (w : World) (h : OpenW w n q l) : Calls Tryz.prog 158 #[.pointer (some ⟨q + 1, 0, none⟩), putV] w fun e w' => e = .returned (.tuple #[]) ∧ LayPost n q l w w' := by
  have hc := h.wr.cell
  have hl := h.wr.lt
  have hf := h.wr.frz
  obtain ⟨i0, hi0, hz0, hz1, hz2⟩ := info_parts info_ch
  unfold putV kv1
  go_enter Tryz.func158, Tryz.ntmps158
  go_wp2_with (at_builtin; refine wpList_append_nil rfl _ _ 279 rfl 107 i0 .nilIface 1 16 Tryz.underlying279 hi0 hz0 hz1 hz2 rfl (by decide) rfl ⟨w.heap.size, 0, none⟩ 1 1 [.iface 191 (.agg #[.string ⟨#[97]⟩, .string ⟨#[120]⟩, .int .i64 1, .int .i64 1, .int .i64 1, .int .i64 0])] rfl rfl (cell_one_new _ _ _) ?c2 (by decide) (by decide) (by decide) (w.heap.size + 1) (by simp) ?_)
  case c2 => intro u hu; simp at hu; subst hu; rfl
  intro cap w1 hM
  have h1 := (h.keep (bmore (Below.refl _ _) _)).keep hM.below
  have hb1 := bthen (bmore (Below.refl _ _) _) hM.below
  have hc1 := h1.wr.cell
  have hf1 := h1.wr.frz
  have hx := hM.cell 0 _ rfl
  have hxl := hM.lt
  clear hc hf hM
  go_wp2_with fail
  have hO : Only (fun k => k = q ∨ k = q + 1) w (w1.setCell ⟨q + 1, 1, none⟩ (.slice (some ⟨w.heap.size + 1, 0, none⟩) 1 cap)) := (Only.of_below hb1).set _ (fun _ => .inr rfl) _
  have hx2 := (cell_setOther w1 ⟨q + 1, 1, none⟩ (.slice (some ⟨w.heap.size + 1, 0, none⟩) 1 cap) (w.heap.size + 1) 0 (by simp; omega)).trans hx
  have hxl2 : w.heap.size + 1 < (w1.setCell ⟨q + 1, 1, none⟩ (.slice (some ⟨w.heap.size + 1, 0, none⟩) 1 cap)).heap.size := by simpa [World.setCell] using hxl
  clear hx hxl
  have k1 := h1.wr.setCell 1 (.slice (some ⟨w.heap.size + 1, 0, none⟩) 1 cap)
  have k2 := h1.by0.setOther ⟨q + 1, 1, none⟩ (by simp) (.slice (some ⟨w.heap.size + 1, 0, none⟩) 1 cap)
  generalize w1.setCell ⟨q + 1, 1, none⟩ (.slice (some ⟨w.heap.size + 1, 0, none⟩) 1 cap) = w2 at *
  simp at k1
  have hc2 := k1.cell
  have hdc : ∀ o, w2.drew.cell? ⟨q + 1, o, none⟩ = _ := hc2
  clear hc1 hf1
  have hm := meth_key
  unfold kv1 at hm
  go_region_with (go_at_call 257; refine (key_put _).mono ?_; rintro e w5 ⟨rfl, hb5⟩; have hc5 := (k1.drew.keep hb5).cell; obtain ⟨c5, hu5⟩ := run_upd Tryz.underlying278 Tryz.underlying9 (k2.drew.keep hb5) ⟨#[97]⟩ putV)
  all_goals (
    go_end0
    refine ⟨rfl, cap, w.heap.size + 1, by omega, (hO.drew.then hb5).map q (fun _ => .inl rfl) _ _, (k1.drew.keep hb5).setMap (by omega) _ _, ?_⟩
    rw [cell_setMap _ _ _ _ _ _ (by omega)]
    exact (keep0 hb5 hxl2 0).trans hx2)
end Go.Proofs.YtbheebpfbabffaaGreat.Mach

namespace Go.Proofs.YtbheebpfbabffaaGreat.Mach
open Go.RowKit Go

/-- What Put leaves. -/
def PutPost (n q : Nat) (w w' : World) : Prop := ∃ cap lb, w.heap.size ≤ lb ∧ Only (fun k => k = q ∨ k = q + 1) w w' ∧ Blk w' (q + 1) #[.pointer (some ⟨n + 3, 0, none⟩), .slice (some ⟨lb, 0, none⟩) 1 cap, .map (some q), .int .i64 1] ∧ w'.cell? ⟨lb, 0, none⟩ = some putV

set_option maxHeartbeats 4000000 in
set_option maxRecDepth 100000 in
theorem put_a (n q : Nat) (w : World) (h : Opened w n q) : Calls Tryz.prog 152 #[.pointer (some ⟨q + 1, 0, none⟩), .string ⟨#[97]⟩, .string ⟨#[120]⟩, .int .i64 0] w fun e w' => e = .returned (.int .i64 0) ∧ PutPost n q w w' := by
  have hc := h.wr.cell
  have hl := h.wr.lt
  go_enter Tryz.func152, Tryz.ntmps152
  go_wp2_with (first
    | fail
    | (at_lookup; refine wpList_look_run rfl _ _ _ _ rfl (run_look_none Tryz.underlying278 Tryz.underlying9 (zero_ch _) h.by0 _ _) ?_))
  go_at_call 155
  refine (now_a n q _ _ h).mono ?_
  unfold kv0
  rintro e w5 ⟨rfl, hb5⟩
  have h2 := h.keep hb5
  have hc2 := h2.wr.cell
  have hl2 := h2.wr.lt
  clear hc hl
  go_wp2_with fail
  go_at_call 153
  have h3 := h2.keep (bmore (Below.refl _ _) (.cells #[.string ⟨#[]⟩, .string ⟨#[]⟩, .int .i64 0, .int .i64 0, .int .i64 0, .int .i64 0] 51))
  refine (closed_a n q _ h3).mono ?_
  rintro e w' ⟨rfl, rfl⟩
  have hs2 := h2.st.cell
  have hsl := h2.st.lt
  have hf2 := h2.wr.frz
  go_wp2_with fail
  go_at_call 158
  have k1 := h2.wr.setCell 3 (.int .i64 1)
  simp at k1
  have hO : Only (fun k => k = q ∨ k = q + 1) w (w5.setCell ⟨q + 1, 3, none⟩ (.int .i64 1)) := (Only.of_below hb5).set _ (fun _ => .inr rfl) _
  refine (lay_a n q 1 _ ⟨(h2.by0.setOther ⟨q + 1, 3, none⟩ (by simp) _).alloc _, k1.alloc _⟩).mono ?_
  rintro e w7 ⟨rfl, cap, lb, hlb, hO7, hB7, hx7⟩
  have HF : Hid (PutPost n q w w7) := ⟨cap, lb, by simp [World.setCell] at hlb; have := hb5.size; omega, (hO.alloc _).trans hO7 (fun _ _ h => h), hB7, hx7⟩
  clear hlb hO7 hB7 hx7
  go_wp2
  go_ret
  exact ⟨rfl, HF⟩

/-- What told leaves. -/
def ToldPost (n q : Nat) (w w' : World) : Prop := PutPost n q w w'
set_option maxHeartbeats 4000000 in
set_option maxRecDepth 100000 in
theorem told_a (n q : Nat) (w : World) (h : Opened w n q) : Calls Tryz.prog 118 #[.pointer (some ⟨q + 1, 0, none⟩), .agg #[.int .i64 0, .string ⟨#[97]⟩, .string ⟨#[]⟩, .string ⟨#[120]⟩, .int .i64 0, .int .i64 0]] w fun e w' => e = .returned (.tuple #[.agg #[.int .i64 0, .slice none 0 0], .int .i64 0, .int .i64 0]) ∧ ToldPost n q w w' := by
  go_enter Tryz.func118, Tryz.ntmps118
  go_wp2_with fail
  go_at_call 122
  have h1 := (h.keep (bmore (Below.refl _ _) (.cells #[.int .i64 0, .string ⟨#[97]⟩, .string ⟨#[]⟩, .string ⟨#[120]⟩, .int .i64 0, .int .i64 0] 72))).keep (bmore (Below.refl _ _) (.cells #[.int .i64 0, .slice none 0 0] 135))
  refine (wrange_a n q _ _ h1).mono ?_
  rintro e w2 ⟨rfl, hb2⟩
  have h2 := h1.keep hb2
  have k0 : Blk w2 w.heap.size _ := ((Blk.newAt rfl).alloc _).keep hb2
  have k1 : Blk w2 (w.heap.size + 1) _ := (Blk.newAt (by simp)).keep hb2
  have hbel := bthen (bmore (bmore (Below.refl _ _) _) _) hb2
  have hql := h.wr.lt
  have hz := k1.lt
  have hc0 := k0.cell
  clear hb2
  go_wp2_with fail
  go_at_call 152
  refine (put_a n q _ h2).mono ?_
  rintro e w7 ⟨rfl, cap, lb, hlb, hO7, hB7, hx7⟩
  have k2 := k1.only hO7 (by omega)
  have hc2 := k2.cell
  have hf2 := k2.frz
  have hO := (Only.of_below (F := fun k => k = q ∨ k = q + 1) hbel).trans hO7 (fun _ _ h => h)
  clear hc0
  go_wp2
  refine bodyPost_ret (v := .tuple #[.agg #[.int .i64 0, .slice none 0 0], .int .i64 0, .int .i64 0]) (by simp [results, Tryz.results118, go_sem, hc2, hf2]) rfl ⟨rfl, cap, lb, by omega, ?_, ?_, ?_⟩
  · exact (hO.set _ (fun h => by simp at h; omega) _).set _ (fun h => by simp at h; omega) _
  · exact (hB7.setOther _ (by simp; omega) _).setOther _ (by simp; omega) _
  · rw [cell_setOther _ _ _ _ _ (by simp; omega), cell_setOther _ _ _ _ _ (by simp; omega)]
    exact hx7
end Go.Proofs.YtbheebpfbabffaaGreat.Mach

