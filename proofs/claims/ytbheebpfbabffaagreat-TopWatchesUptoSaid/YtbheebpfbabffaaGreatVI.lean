/- Joined: a part of the proof of TopWatches. -/
import Derived.RegionTactic
import Derived.Deep.RegionWith
import Derived.Lib.Strings
import Derived.Test.YtbheebpfbabffaaGreatVH
set_option linter.unusedSimpArgs false
set_option linter.unusedVariables false
namespace Go.Proofs.YtbheebpfbabffaaGreat.Wat
open Go.RowKit Go Go.Lib Mach Go.MapKept

set_option maxRecDepth 100000 in
theorem key_put_f (x : KVr) (w : World) : Calls Tryz.prog 257 #[x.agg] w fun e w' => e = .returned (.string x.k) ∧ Below w.heap.size w w' := by
  unfold KVr.agg
  go_enter Tryz.func257, Tryz.ntmps257
  go_wp2
  go_ret
  exact ⟨rfl, bmore (Below.refl _ _) _⟩
set_option maxRecDepth 100000 in
theorem key_del_f (k : ByteArray) (w : World) : Calls Tryz.prog 258 #[.agg #[.string k]] w fun e w' => e = .returned (.string k) ∧ Below w.heap.size w w' := by
  go_enter Tryz.func258, Tryz.ntmps258
  go_wp2
  go_ret
  exact ⟨rfl, by first | exact Below.refl _ _ | exact bmore (Below.refl _ _) _⟩
theorem meth_put (x : KVr) (w : World) : (method 475 191 x.agg "horologe/mvcc.key").run Tryz.prog w = .ok (257, x.agg) w := by
  unfold KVr.agg
  kernel_rfl
theorem meth_del (k : ByteArray) (w : World) : (method 475 259 (.agg #[.string k]) "horologe/mvcc.key").run Tryz.prog w = .ok (258, .agg #[.string k]) w := by kernel_rfl

theorem Upd.len {l l' : List MapEntry} {key v : Value} (h : Upd l key v l') : l'.length ≤ l.length + 1 := by
  rcases h with ⟨-, c, rfl⟩ | ⟨l1, x, l2, rfl, -, rfl⟩
  · simp
  · simp
theorem Upd.val {l l' : List MapEntry} {key v : Value} (h : Upd l key v l') : ∀ e ∈ l', e ∈ l ∨ (e.key = key ∧ e.val = v) := by
  rcases h with ⟨-, c, rfl⟩ | ⟨l1, x, l2, rfl, -, rfl⟩
  · intro e he
    rcases List.mem_append.1 he with h | h
    · exact .inl h
    · rw [List.mem_singleton.1 h]; exact .inr ⟨rfl, rfl⟩
  · intro e he
    simp only [List.mem_append, List.mem_cons] at he ⊢
    rcases he with h | rfl | h
    · exact .inl (.inl h)
    · exact .inr ⟨rfl, rfl⟩
    · exact .inl (.inr (.inr h))
theorem Upd.keys {l l' : List MapEntry} {key v : Value} (h : Upd l key v l') : key ∈ l'.map (·.key) ∧ ∀ k, k ∈ l.map (·.key) → k ∈ l'.map (·.key) := by
  rcases h with ⟨-, c, rfl⟩ | ⟨l1, x, l2, rfl, hx, rfl⟩
  · simp only [List.map_append, List.mem_append]
    exact ⟨.inr (by simp), fun k h => .inl h⟩
  · simp only [List.map_append, List.map_cons, List.mem_append, List.mem_cons]
    exact ⟨by simp, fun k h => by
      rcases h with h | rfl | h
      · exact .inl h
      · exact .inr (.inl hx)
      · exact .inr (.inr h)⟩

theorem grow_one {w : World} {W W' : List Nat} (pre : List Nat) (v v' : Value) (g H : Nat) (hW : W = pre ++ blk v) (hW' : W' = pre ++ [g]) (hn : Nd W) (hlt : ∀ y ∈ W, y < w.heap.size) (hat : v.ownBlock = some g ∨ g = H) (hH : w.heap.size ≤ H) : Grow w W W' := by
  subst hW hW'
  constructor
  · intro a ha
    rw [List.count_append, List.count_append]
    rcases hat with h | rfl
    · simp [blk, h]
    · have := single_zero (k := g) (a := a) (by omega)
      omega
  · intro a ha
    have hz : (pre ++ blk v).count a = 0 := count_out (fun hm => by have := hlt a hm; omega)
    rw [List.count_append] at hz
    rw [List.count_append]
    have := single_one g a
    omega

theorem only_grown {G : Nat → Prop} {a b c : World} {r : Option Nat} (h : Only G a b) (k : b.grownBy c r) (hr : ∀ y, r = some y → y < a.heap.size → G y) : Only G a c :=
  ⟨k.os.trans h.os, k.tape.trans h.tape, k.output.trans h.output, Nat.le_trans h.size k.size, fun i hi hn => (k.block i (Nat.lt_of_lt_of_le hi h.size) (fun e => hn (hr i e.symm hi))).trans (h.block i hi hn)⟩

/-- What lay leaves of the write. -/
def LayPost (w : World) (sb wr P : Nat) (Ks : List Value) (L : List Chg) (W : List Nat) (live : Int) (bm : Nat) (bs : List MapEntry) (c : Chg) (w' : World) : Prop :=
  Only (fun y => y ∈ W) w w' ∧ ∃ W' lv' bs', Wr w' sb wr P Ks (L ++ [c]) W' live lv' bm bs' ∧ Grow w W W' ∧ (∀ k, k ∈ bs.map (·.key) → k ∈ bs'.map (·.key))

theorem lay_join {w w1 w5 : World} {sb wr P P' : Nat} {Ks : List Value} {L : List Chg} {W : List Nat} {live : Int} {lv : Value} {bm : Nat} {bs l' : List MapEntry} {c : Chg} {g cap q : Nat} {o : Obj} (h : Wr w sb wr P Ks L W live lv bm bs) (hN : Nd W) (hc : c.ok)
    (hp : ∀ x, c = .put x → P + 1 ≤ P') (hP : P ≤ P') (hd : ∀ k, c = .del k → .string k ∈ Ks ∧ ∀ e ∈ bs, e.key ≠ .string k)
    (hown : w1.ownsRow 0 ChgT 1 (.slice (some ⟨g, 0, none⟩) (L.length + 1) cap) (L.length + 1) (L.map Chg.val ++ [c.val])) (hgb : (w.alloc o).grownBy w1 lv.ownBlock) (hat : lv.ownBlock = some g ∨ g = w.heap.size + 1) (hgl : g < w1.heap.size)
    (hb5 : Below (w1.setCell ⟨wr, 1, none⟩ (.slice (some ⟨g, 0, none⟩) (L.length + 1) cap)).heap.size (w1.setCell ⟨wr, 1, none⟩ (.slice (some ⟨g, 0, none⟩) (L.length + 1) cap)).drew w5)
    (hM : MapK (setMap w5 bm l'.toArray q) .string bm l') (hU : Upd bs (.string c.key) c.val l') : LayPost w sb wr P' Ks L W live bm bs c (setMap w5 bm l'.toArray q) := by
  have hfo := h.foot
  have hlt := h.lt
  have hw1 := h.blk.lt
  have hW1 : wr ∈ W := by rw [hfo]; simp
  have hW2 : bm ∈ W := by rw [hfo]; simp
  have hct : ∀ y, W.count y = ([wr] : List Nat).count y + ([bm] : List Nat).count y + (blk lv).count y := fun y => by
    rw [hfo, show wr :: bm :: blk lv = [wr] ++ ([bm] ++ blk lv) from rfl]
    simp only [List.count_append]
    omega
  have one : ∀ a : Nat, ([a] : List Nat).count a = 1 := fun a => by simp
  have hne : wr ≠ bm := fun e => by
    have := hct wr; have := hN wr; have := one wr
    rw [← e] at *
    omega
  have hlb : ∀ y, lv.ownBlock = some y → y ∈ W ∧ y ≠ wr ∧ y ≠ bm := fun y hy => by
    have hm : y ∈ blk lv := by simp [blk, hy]
    have h1 := hct y; have h2 := hN y; have h3 := one y; have h4 := count_in hm
    refine ⟨by rw [hfo]; simp [hm], fun e => ?_, fun e => ?_⟩
    · rw [e] at h1 h2 h4
      have := one wr
      omega
    · rw [e] at h1 h2 h4
      have := one bm
      omega
  have hg1 : g ≠ wr ∧ g ≠ bm := by
    rcases hat with h' | h'
    · exact (hlb g h').2
    · have := hlt bm hW2
      omega
  have hO1 : Only (fun y => y ∈ W) w w1 := only_grown ((Only.refl _ w).alloc o) hgb (fun y hy _ => (hlb y hy).1)
  have hO2 : Only (fun y => y ∈ W) w (w1.setCell ⟨wr, 1, none⟩ (.slice (some ⟨g, 0, none⟩) (L.length + 1) cap)).drew := (hO1.set _ (fun _ => hW1) _).drew
  have hO5 : Only (fun y => y ∈ W) w w5 := hO2.then hb5
  have hO : Only (fun y => y ∈ W) w (setMap w5 bm l'.toArray q) := hO5.map bm (fun _ => hW2) _ _
  have hbw : Blk w1 wr #[Ptr sb, lv, .map (some bm), .int .i64 live] := by
    obtain ⟨t, hb⟩ := h.blk.alloc o
    exact ⟨t, (hgb.block wr (Array.getElem?_eq_some_iff.1 hb).1 (fun e => (hlb wr e.symm).2.1 rfl)).trans hb⟩
  have hbw2 : Blk (setMap w5 bm l'.toArray q) wr #[Ptr sb, .slice (some ⟨g, 0, none⟩) (L.length + 1) cap, .map (some bm), .int .i64 live] := by
    have h1 := hbw.setCell 1 (.slice (some ⟨g, 0, none⟩) (L.length + 1) cap)
    have h2 := (Blk.keep (w := (w1.setCell ⟨wr, 1, none⟩ (.slice (some ⟨g, 0, none⟩) (L.length + 1) cap)).drew) (h1 : Blk _ _ _) hb5).setMap hne l'.toArray q
    simpa using h2
  refine ⟨hO, wr :: bm :: [g], .slice (some ⟨g, 0, none⟩) (L.length + 1) cap, l', ⟨hbw2, ?_, hM, ?_, ?_, ?_, ?_, ?_, ?_, rfl⟩, ?_, hU.keys.2⟩
  · have h1 : Only (fun y => y = wr ∨ y = bm) w1 (setMap w5 bm l'.toArray q) := ((((Only.refl _ w1).set ⟨wr, 1, none⟩ (fun _ => .inl rfl) _).drew).then hb5).map bm (fun _ => .inr rfl) _ _
    have := own_keep hown h1 (fun y hy => by
      obtain rfl : y = g := by simpa [blk, Value.ownBlock] using hy
      rintro (e | e)
      · exact hg1.1 e
      · exact hg1.2 e)
    simpa using this
  · intro e he
    rcases hU.val e he with h' | ⟨-, h'⟩
    · exact h.val e h'
    · exact ⟨c, h', hc⟩
  · intro d hd'
    rcases List.mem_append.1 hd' with h' | h'
    · exact h.ok d h'
    · rw [List.mem_singleton.1 h']; exact hc
  · have := hU.len
    have := h.len
    simp only [List.length_append, List.length_cons, List.length_nil]
    omega
  · cases c with
    | put x => rw [dels_put]; exact h.nd
    | del k =>
      rw [dels_del]
      refine List.nodup_append.2 ⟨h.nd, by simp, fun a ha b hb e => ?_⟩
      rw [List.mem_singleton.1 hb] at e
      rw [e] at ha
      obtain ⟨x, hx, hxe⟩ := List.mem_map.1 (h.sub _ ha).1
      exact (hd k rfl).2 x hx hxe
  · intro k hk
    cases c with
    | put x =>
      rw [dels_put] at hk
      exact ⟨hU.keys.2 k (h.sub k hk).1, (h.sub k hk).2⟩
    | del d =>
      rw [dels_del] at hk
      rcases List.mem_append.1 hk with hk | hk
      · exact ⟨hU.keys.2 k (h.sub k hk).1, (h.sub k hk).2⟩
      · rw [List.mem_singleton.1 hk]
        exact ⟨hU.keys.1, (hd d rfl).1⟩
  · have := h.puts
    cases c with
    | put x =>
      rw [dels_put]
      have := hp x rfl
      simp only [List.length_append, List.length_cons, List.length_nil]
      omega
    | del k =>
      rw [dels_del]
      simp only [List.length_append, List.length_cons, List.length_nil]
      omega
  · exact grow_one [wr, bm] lv (.nilIface) g (w.heap.size + 1) (by rw [hfo]; rfl) rfl hN hlt hat (by omega)

set_option maxHeartbeats 4000000 in
set_option maxRecDepth 100000 in
theorem lay_f {w : World} {sb wr P P' : Nat} {Ks : List Value} {L : List Chg} {W : List Nat} {live : Int} {lv : Value} {bm : Nat} {bs : List MapEntry} {c : Chg} (h : Wr w sb wr P Ks L W live lv bm bs) (hN : Nd W) (hc : c.ok)
    (hp : ∀ x, c = .put x → P + 1 ≤ P') (hP : P ≤ P') (hd : ∀ k, c = .del k → .string k ∈ Ks ∧ ∀ e ∈ bs, e.key ≠ .string k) (hL : L.length ≤ 1000000) :
    Calls Tryz.prog 158 #[Ptr wr, c.val] w fun e w' => e = .returned (.tuple #[]) ∧ LayPost w sb wr P' Ks L W live bm bs c w' := by
  have hbc := h.blk.cell
  have hbl := h.blk.lt
  obtain ⟨i0, hi0, hz0, hz1, hz2⟩ := info_parts chg_info
  have hJ := fun w1 w5 l' g cap q o => lay_join (P' := P') (c := c) (w1 := w1) (w5 := w5) (l' := l') (g := g) (cap := cap) (q := q) (o := o) h hN hc hp hP hd
  have hrc : ∀ o : Obj, (w.alloc o).ownsRow 0 ChgT 1 lv L.length (L.map Chg.val) := fun o => own_below h.row ((Below.refl _ _).alloc (Nat.le_refl _) _)
  have hH : ∀ o : Obj, (w.alloc o).heap.size = w.heap.size + 1 := fun o => by simp
  have hmx : L.length + 1 ≤ maxLen := by unfold maxLen; omega
  have hkk : (L.length + 1) * 16 ≤ 140737488355328 := by omega
  have hkW : ∀ (o : Obj) (w' : World), (w.alloc o).grownBy w' lv.ownBlock → Blk w' wr #[Ptr sb, lv, .map (some bm), .int .i64 live] ∧ MapK w' .string bm bs := fun o w' hg => by
    have hfo := h.foot
    have hct : ∀ y, W.count y = ([wr] : List Nat).count y + ([bm] : List Nat).count y + (blk lv).count y := fun y => by
      rw [hfo, show wr :: bm :: blk lv = [wr] ++ ([bm] ++ blk lv) from rfl]
      simp only [List.count_append]
      omega
    have hk : ∀ y, y = wr ∨ y = bm → lv.ownBlock ≠ some y := fun y hy e => by
      have hm : y ∈ blk lv := by simp [blk, e]
      have h1 := hct y; have h2 := hN y; have h4 := count_in hm
      have one : ([y] : List Nat).count y = 1 := by simp
      rcases hy with e | e
      · rw [← e] at h1; omega
      · rw [← e] at h1; omega
    have hO : Only (fun y => lv.ownBlock = some y) w w' := only_grown ((Only.refl _ w).alloc o) hg (fun y hy _ => hy)
    exact ⟨h.blk.only hO (hk wr (.inl rfl)), h.map.only hO (hk bm (.inr rfl))⟩
  have hne : bm ≠ wr := fun e => by
    have h2 := hN wr
    rw [h.foot, e, show wr :: wr :: blk lv = [wr] ++ ([wr] ++ blk lv) from rfl] at h2
    simp only [List.count_append] at h2
    have one : ([wr] : List Nat).count wr = 1 := by simp
    omega
  clear h hN
  go_enter Tryz.func158, Tryz.ntmps158
  cases c with
  | put x =>
    have hmt := meth_put x
    have hkp := key_put_f x
    obtain ⟨xk, xv, xa, xb, xc, xd⟩ := x
    unfold Chg.val KVr.agg at *
    go_wp2_with (at_builtin; refine wpList_append_lies _ rfl _ _ 279 rfl 0 ChgT i0 .nilIface 1 16 Tryz.underlying279 hi0 hz0 hz1 hz2 rfl (by decide) lv L.length _ rfl (hrc _) ⟨w.heap.size, 0, none⟩ 1 1 [.iface 191 (.agg #[.string xk, .string xv, .int .i64 xa, .int .i64 xb, .int .i64 xc, .int .i64 xd])] rfl rfl (fun j u hj => by rw [Addr.add_lit, Nat.zero_add]; exact (alloc_new w _ _ j).trans (by simpa using hj)) (by intro u hu; simp at hu; rcases hu with rfl; rfl) (by decide) hmx hkk (Nat.zero_le _) (w.heap.size + 1) (hH _) (fun g cap w1 hown hgb hat hgl => ?_); obtain ⟨hb1, hm1⟩ := hkW _ _ hgb; have hc1 := hb1.cell; have hf1 := hb1.frz)
    have hb2 := hb1.setCell 1 (.slice (some ⟨g, 0, none⟩) (L.length + 1) cap)
    have hm2 : MapK (w1.setCell ⟨wr, 1, none⟩ (.slice (some ⟨g, 0, none⟩) (L.length + 1) cap)) .string bm bs := hm1.only ((Only.refl (fun y => y = wr) w1).set _ (fun _ => rfl) _) hne
    have hJ2 := fun w5 l' q => hJ w1 w5 l' g cap q _ hown hgb hat hgl
    clear hc1 hf1 hbc
    generalize hw2 : w1.setCell ⟨wr, 1, none⟩ (.slice (some ⟨g, 0, none⟩) (L.length + 1) cap) = w2 at *
    simp at hb2
    have hc2 := hb2.cell
    have hdc : ∀ o, w2.drew.cell? ⟨wr, o, none⟩ = _ := hc2
    clear hw2
    go_region_with (go_at_call 257; refine (hkp _).mono ?_; rintro e w5 ⟨rfl, hb5⟩; have hc5 := (hb2.drew.keep hb5).cell; obtain ⟨l5, c5, hu5, hM5, hU5⟩ := upd_map Tryz.underlying278 Tryz.underlying9 (key := .string xk) trivial (.iface 191 (.agg #[.string xk, .string xv, .int .i64 xa, .int .i64 xb, .int .i64 xc, .int .i64 xd])) (hm2.drew.keep hb5))
    all_goals (go_end0; exact ⟨rfl, hJ2 _ _ _ hb5 hM5 hU5⟩)
  | del k =>
    have hmt := meth_del k
    unfold Chg.val at *
    go_wp2_with (at_builtin; refine wpList_append_lies _ rfl _ _ 279 rfl 0 ChgT i0 .nilIface 1 16 Tryz.underlying279 hi0 hz0 hz1 hz2 rfl (by decide) lv L.length _ rfl (hrc _) ⟨w.heap.size, 0, none⟩ 1 1 [.iface 259 (.agg #[.string k])] rfl rfl (fun j u hj => by rw [Addr.add_lit, Nat.zero_add]; exact (alloc_new w _ _ j).trans (by simpa using hj)) (by intro u hu; simp at hu; rcases hu with rfl; rfl) (by decide) hmx hkk (Nat.zero_le _) (w.heap.size + 1) (hH _) (fun g cap w1 hown hgb hat hgl => ?_); obtain ⟨hb1, hm1⟩ := hkW _ _ hgb; have hc1 := hb1.cell; have hf1 := hb1.frz)
    have hb2 := hb1.setCell 1 (.slice (some ⟨g, 0, none⟩) (L.length + 1) cap)
    have hm2 : MapK (w1.setCell ⟨wr, 1, none⟩ (.slice (some ⟨g, 0, none⟩) (L.length + 1) cap)) .string bm bs := hm1.only ((Only.refl (fun y => y = wr) w1).set _ (fun _ => rfl) _) hne
    have hJ2 := fun w5 l' q => hJ w1 w5 l' g cap q _ hown hgb hat hgl
    clear hc1 hf1 hbc
    generalize hw2 : w1.setCell ⟨wr, 1, none⟩ (.slice (some ⟨g, 0, none⟩) (L.length + 1) cap) = w2 at *
    simp at hb2
    have hc2 := hb2.cell
    have hdc : ∀ o, w2.drew.cell? ⟨wr, o, none⟩ = _ := hc2
    clear hw2
    go_region_with (go_at_call 258; refine (key_del_f k _).mono ?_; rintro e w5 ⟨rfl, hb5⟩; have hc5 := (hb2.drew.keep hb5).cell; obtain ⟨l5, c5, hu5, hM5, hU5⟩ := upd_map Tryz.underlying278 Tryz.underlying9 (key := .string k) trivial (.iface 259 (.agg #[.string k])) (hm2.drew.keep hb5))
    all_goals (go_end0; exact ⟨rfl, hJ2 _ _ _ hb5 hM5 hU5⟩)
end Go.Proofs.YtbheebpfbabffaaGreat.Wat

namespace Go.Proofs.YtbheebpfbabffaaGreat.Wat
open Go.RowKit Go Go.Lib Mach Go.MapKept

/-- What becomes of an open write. -/
def TxPost (w : World) (sb wr rev C P : Nat) (chs : List Ver) (Ks : List Value) (S W : List Nat) (w' : World) : Prop :=
  Only (fun y => y ∈ W) w w' ∧ ∃ L' W', Tx w' sb wr rev C P chs Ks L' S W' ∧ Grow w W W'
theorem nd_right {S W : List Nat} (h : Nd (S ++ W)) : Nd W := fun a => by
  have := h a
  rw [List.count_append] at this
  omega
theorem nd_apart {S W : List Nat} (h : Nd (S ++ W)) : ∀ y ∈ S, ¬ y ∈ W := fun y h1 h2 => by
  have := h y
  rw [List.count_append] at this
  have := count_in h1
  have := count_in h2
  omega
theorem nd_grow {w : World} {S W W' : List Nat} (h : Nd (S ++ W)) (hS : ∀ y ∈ S, y < w.heap.size) (g : Grow w W W') : Nd (S ++ W') := fun a => by
  have h1 := h a
  rw [List.count_append] at h1 ⊢
  by_cases ha : a < w.heap.size
  · have := g.1 a ha
    omega
  · have := g.2 a (by omega)
    have := count_out (fun hm : a ∈ S => ha (hS a hm))
    omega

theorem tx_lay {w w2 w' : World} {sb wr rev C P : Nat} {chs : List Ver} {Ks : List Value} {L : List Chg} {S W : List Nat} {live : Int} {bm : Nat} {bs : List MapEntry} {c : Chg} (hst : St w sb (Ptr wr) rev C chs Ks S) (hN : Nd (S ++ W))
    (hO : Only (fun y => y ∈ W) w w2) (hl : LayPost w2 sb wr P Ks L W live bm bs c w') : TxPost w sb wr rev C P chs Ks S W w' := by
  obtain ⟨hO2, W', lv', bs', hW, hg, -⟩ := hl
  have hOO := hO.trans hO2 (fun _ _ h => h)
  have hg2 : Grow w W W' := ⟨fun a ha => hg.1 a (Nat.lt_of_lt_of_le ha hO.size), fun a _ => by
    by_cases h2 : a < w2.heap.size
    · exact Nat.le_trans (hg.1 a h2) (nd_right hN a)
    · exact hg.2 a (by omega)⟩
  exact ⟨hOO, _, W', ⟨hst.only hOO (nd_apart hN), ⟨_, _, _, _, hW⟩, nd_grow hN hst.lt hg2⟩, hg2⟩
theorem Wr.more {w : World} {sb wr P P' : Nat} {Ks : List Value} {L : List Chg} {W : List Nat} {live : Int} {lv : Value} {bm : Nat} {bs : List MapEntry} (h : Wr w sb wr P Ks L W live lv bm bs) (hP : P ≤ P') : Wr w sb wr P' Ks L W live lv bm bs :=
  ⟨h.blk, h.row, h.map, h.val, h.ok, h.len, h.nd, h.sub, by have := h.puts; omega, h.foot⟩
theorem tx_still {w w' : World} {sb wr rev C P P' : Nat} {chs : List Ver} {Ks : List Value} {L : List Chg} {S W : List Nat} (h : Tx w sb wr rev C P chs Ks L S W) (k : Below w.heap.size w w') (hP : P ≤ P') : TxPost w sb wr rev C P' chs Ks S W w' := by
  obtain ⟨h1, ⟨live, lv, bm, bs, h2⟩, h3⟩ := h.keep k
  exact ⟨Only.of_below k, L, W, ⟨h1, ⟨live, lv, bm, bs, h2.more hP⟩, h3⟩, fun _ _ => Nat.le_refl _, fun a _ => nd_right h3 a⟩
theorem Wr.setLive {w : World} {sb wr P : Nat} {Ks : List Value} {L : List Chg} {W : List Nat} {live : Int} {lv : Value} {bm : Nat} {bs : List MapEntry} (h : Wr w sb wr P Ks L W live lv bm bs) (hN : Nd W) (l' : Int) : Wr (w.setCell ⟨wr, 3, none⟩ (.int .i64 l')) sb wr P Ks L W l' lv bm bs := by
  have hf := h.foot
  have hct : ∀ y, W.count y = ([wr] : List Nat).count y + ([bm] : List Nat).count y + (Wat.blk lv).count y := fun y => by
    rw [hf, show wr :: bm :: Wat.blk lv = [wr] ++ ([bm] ++ Wat.blk lv) from rfl]
    simp only [List.count_append]
    omega
  have hO : Only (fun y => y = wr) w (w.setCell ⟨wr, 3, none⟩ (.int .i64 l')) := (Only.refl (fun y => y = wr) w).set ⟨wr, 3, none⟩ (fun _ => rfl) _
  have one : ([wr] : List Nat).count wr = 1 := by simp
  have hb : ¬ bm = wr := fun e => by
    have := hct wr; have := hN wr
    rw [e] at *
    omega
  have hr : ∀ y ∈ Wat.blk lv, ¬ y = wr := fun y hy e => by
    have h1 := hct wr; have := hN wr
    rw [e] at hy
    have := count_in hy
    omega
  refine ⟨?_, own_keep h.row hO hr, h.map.only hO hb, h.val, h.ok, h.len, h.nd, h.sub, h.puts, hf⟩
  have := h.blk.setCell 3 (.int .i64 l')
  simpa using this

set_option maxHeartbeats 4000000 in
set_option maxRecDepth 100000 in
theorem put_t {w : World} {sb wr rev C P : Nat} {chs : List Ver} {Ks : List Value} {L : List Chg} {S W : List Nat} (h : Tx w sb wr rev C P chs Ks L S W) (hC : C ≤ 1000000) (hrev : rev ≤ 1000000) (hL : P + Ks.length ≤ 1000000) (key value : ByteArray) (lease : Int) :
    Calls Tryz.prog 152 #[Ptr wr, .string key, .string value, .int .i64 lease] w fun e w' => (∃ x : Int, e = .returned (.int .i64 x)) ∧ TxPost w sb wr rev C (P + 1) chs Ks S W w' := by
  have hT := h
  obtain ⟨hst, ⟨live, lv, bm, bs, hW⟩, hN⟩ := h
  have hNW := nd_right hN
  have hLs := hW.size
  have hbc := hW.blk.cell
  go_enter Tryz.func152, Tryz.ntmps152
  have hlk : ∃ (v : Value) (ch : Bool), ∀ w, MapK w .string bm bs → (Instr.lookup 278 (.map (some bm)) (.string key) true).run Tryz.prog w = .ok (.tuple #[v, .bool ch]) w := by
    rcases look_map Tryz.underlying278 Tryz.underlying9 (zero_ch) (key := .string key) (l := bs) (b := bm) trivial hW.map.key with ⟨-, hl⟩ | ⟨e, he, hk, hl⟩
    · exact ⟨_, _, fun w h => hl w true h⟩
    · exact ⟨_, _, fun w h => hl w true h⟩
  obtain ⟨v, ch, hl⟩ := hlk
  go_wp2_with (at_lookup; refine wpList_look_run rfl _ _ _ _ rfl (hl _ hW.map) ?_)
  go_at_call 155
  refine (now_f hst hC hW.blk hW.map hW.val key).mono ?_
  rintro e w1 ⟨⟨⟨xk, xv, xa, xb, xc, xd⟩, is, rfl, hx⟩, hb1⟩
  unfold KVr.agg
  have HX : Aside _ := hx
  clear hx
  have hT1 := fun o => tx_still hT (bmore hb1 o) (Nat.le_succ P)
  have hb2 := fun o => bmore hb1 o
  have hst2 := fun o => hst.keep (hb2 o)
  have hW2 := fun o => hW.only (Only.of_below (F := fun _ => False) (hb2 o)) (fun _ _ h => h)
  clear hbc
  have hc2 := fun o => (hW2 o).blk.cell
  have hf2 := fun o => (hW2 o).blk.frz
  have hW1 := hW.only (Only.of_below (F := fun _ => False) hb1) (fun _ _ h => h)
  have hc1 := hW1.blk.cell
  have hf1 := hW1.blk.frz
  have hl1 := hW1.blk.lt
  by_cases hk1 : (key.toList == ([] : List UInt8)) = true
  · go_wp2
    go_ret
    exact ⟨⟨_, rfl⟩, hT1 _⟩
  · have hk0 : 1 ≤ key.size := by
      rcases Nat.eq_zero_or_pos key.size with h0 | h0
      · exact absurd (by
          have : key.toList = [] := by
            rw [Lib.toList_data]
            exact List.length_eq_zero_iff.1 h0
          rw [this]; rfl) hk1
      · exact h0
    by_cases hk2 : key.size ≤ 100
    rotate_left
    · go_wp2
      go_ret
      exact ⟨⟨_, rfl⟩, hT1 _⟩
    by_cases hl0 : lease < 0
    · go_wp2
      go_ret
      exact ⟨⟨_, rfl⟩, hT1 _⟩
    by_cases hv : value.size ≤ 4096
    rotate_left
    · go_wp2
      go_ret
      exact ⟨⟨_, rfl⟩, hT1 _⟩
    cases ch with
    | true =>
      go_wp2
      go_ret
      exact ⟨⟨_, rfl⟩, hT1 _⟩
    | false =>
      have hcl : ∀ w, (∃ L', Tx w sb wr rev C P chs Ks L' S W) → Calls Tryz.prog 153 #[Ptr wr] w fun e w' => e = .returned (.bool false) ∧ w = w' := fun w ⟨_, ⟨_, _, _, _, _, _, hs, _⟩, ⟨_, _, _, _, hw⟩, _⟩ => closed_f sb wr _ _ _ _ _ _ _ _ _ w hs hw.blk
      have hcl2 := fun o => hcl _ ⟨L, hT.keep (hb2 o)⟩
      obtain ⟨slive, xi, vb, cv, SX, es, hs, -⟩ := id hst
      have hsc := fun o => (hs.keep (hb2 o)).cell
      cases is with
      | true =>
        go_wp2_with fail
        go_at_call 153
        refine (hcl2 _).mono ?_
        rintro e w2 ⟨rfl, rfl⟩
        go_wp2_with fail
        go_at_call 158
        refine (lay_f (c := .put ⟨xk, value, xa, _, _, lease⟩) (P' := P + 1) (hW2 _) hNW (HX.out (by first | rfl | trivial)).2 (fun _ _ => Nat.le_refl _) (Nat.le_succ _) (fun k e => by cases e) (by omega)).mono ?_
        rintro e w2 ⟨rfl, hP⟩
        go_wp2
        go_ret
        exact ⟨⟨_, rfl⟩, tx_lay hst hN (Only.of_below (hb2 _)) hP⟩
      | false =>
        by_cases hlv : 4096 ≤ live
        · go_wp2
          go_ret
          exact ⟨⟨_, rfl⟩, hT1 _⟩
        · go_wp2_with fail
          go_at_call 153
          refine (hcl2 _).mono ?_
          rintro e w2 ⟨rfl, rfl⟩
          go_wp2_with fail
          go_at_call 158
          refine (lay_f (c := .put ⟨key, value, _, _, _, lease⟩) (P' := P + 1) ((hW1.setLive hNW _).only ((Only.refl (fun _ => False) _).alloc _) (fun _ _ h => h)) hNW ⟨hk0, hk2⟩ (fun _ _ => Nat.le_refl _) (Nat.le_succ _) (fun k e => by cases e) (by omega)).mono ?_
          rintro e w2 ⟨rfl, hP⟩
          go_wp2
          go_ret
          exact ⟨⟨_, rfl⟩, tx_lay hst hN (((Only.of_below hb1).set ⟨wr, 3, none⟩ (fun _ => by rw [hW.foot]; simp) _).alloc _) hP⟩
end Go.Proofs.YtbheebpfbabffaaGreat.Wat

