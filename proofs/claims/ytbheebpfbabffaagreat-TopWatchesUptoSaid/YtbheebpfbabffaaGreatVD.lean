/- Joined: a part of the proof of TopWatches. -/
import Derived.Test.YtbheebpfbabffaaGreatVA
import Derived.Test.YtbheebpfbabffaaGreatVB
import Derived.Test.YtbheebpfbabffaaGreatVC
set_option linter.unusedSimpArgs false
set_option linter.unusedVariables false
namespace Go.Proofs.YtbheebpfbabffaaGreat.Wat
open Go.RowKit Go Go.Lib Mach

/-- Items between the kids' items. -/
def inter : List Nat → List (List Nat) → List Nat
  | i :: is, k :: ks => k ++ i :: inter is ks
  | [], k :: _ => k
  | _, [] => []

theorem inter_mem_item : ∀ (its : List Nat) (ks : List (List Nat)), ks.length = its.length + 1 → ∀ i ∈ its, i ∈ inter its ks
  | [], _, _, _, h => absurd h (List.not_mem_nil)
  | j :: is, k :: ks, hl, i, h => by
    rw [inter]
    rcases List.mem_cons.1 h with rfl | h
    · simp
    · have := inter_mem_item is ks (by simpa using hl) i h
      simp [this]
theorem inter_mem_kid : ∀ (its : List Nat) (ks : List (List Nat)), ks.length = its.length + 1 → ∀ k ∈ ks, ∀ a ∈ k, a ∈ inter its ks
  | [], k :: ks, hl, q, h, a, ha => by
    obtain rfl : ks = [] := by simpa using hl
    rw [inter]
    rcases List.mem_cons.1 h with rfl | h
    · exact ha
    · cases h
  | j :: is, k :: ks, hl, q, h, a, ha => by
    rw [inter]
    rcases List.mem_cons.1 h with rfl | h
    · simp [ha]
    · have := inter_mem_kid is ks (by simpa using hl) q h a ha
      simp [this]
/-- A new item in a kid. -/
theorem inter_set : ∀ (its : List Nat) (ks : List (List Nat)) (i : Nat) (k k' : List Nat) (x : Nat) (p q : List Nat), ks.length = its.length + 1 → ks[i]? = some k → k = p ++ q → k' = p ++ x :: q →
    ∃ P Q, inter its ks = P ++ Q ∧ inter its (ks.set i k') = P ++ x :: Q
  | [], [a], i, k, k', x, p, q, hl, hk, e1, e2 => by
    obtain rfl : i = 0 := by
      have := (List.getElem?_eq_some_iff.1 hk).1
      simp at this; omega
    simp at hk
    subst hk
    exact ⟨p, q, by simp [inter, e1], by simp [inter, e2]⟩
  | j :: is, a :: ks, i, k, k', x, p, q, hl, hk, e1, e2 => by
    cases i with
    | zero =>
      simp at hk
      subst hk
      exact ⟨p, q ++ j :: inter is ks, by simp [inter, e1], by simp [inter, e2]⟩
    | succ i =>
      obtain ⟨P, Q, h1, h2⟩ := inter_set is ks i k k' x p q (by simpa using hl) (by simpa using hk) e1 e2
      exact ⟨a ++ j :: P, Q, by simp [inter, h1], by simp [inter, h2]⟩
/-- A kid parted into two around an item. -/
theorem inter_part : ∀ (its : List Nat) (ks : List (List Nat)) (i : Nat) (a b : List Nat) (m : Nat), ks.length = its.length + 1 → i ≤ its.length →
    inter (its.take i ++ m :: its.drop i) (ks.take i ++ a :: b :: ks.drop (i + 1)) = inter its (ks.set i (a ++ m :: b))
  | [], [k], i, a, b, m, hl, hi => by
    obtain rfl : i = 0 := by simpa using hi
    simp [inter]
  | j :: is, k :: ks, i, a, b, m, hl, hi => by
    cases i with
    | zero => simp [inter]
    | succ i =>
      have := inter_part is ks i a b m (by simpa using hl) (by simpa using hi)
      simp [inter, this]
/-- A node parted at its k-th item. -/
theorem inter_split : ∀ (its : List Nat) (ks : List (List Nat)) (k : Nat) (m : Nat), ks.length = its.length + 1 → its[k]? = some m →
    inter its ks = inter (its.take k) (ks.take (k + 1)) ++ m :: inter (its.drop (k + 1)) (ks.drop (k + 1))
  | [], _, k, m, _, h => by simp at h
  | j :: is, a :: ks, k, m, hl, h => by
    cases k with
    | zero =>
      simp at h
      subst h
      simp [inter]
    | succ k =>
      have := inter_split is ks k m (by simpa using hl) (by simpa using h)
      simp [inter, this]

/-- A leaf, with at most cap items. -/
def Leaf (w : World) (cap b : Nat) (l F : List Nat) : Prop := ∃ s B, Blk w b #[s, .slice none 0 0] ∧ Arr w s l B ∧ l.length ≤ cap ∧ F = b :: B
/-- A node over kids: each its block, its items in order, its footprint. -/
def Inner (w : World) (cap : Nat) (R : Nat → List Nat → List Nat → Prop) (b : Nat) (l F : List Nat) : Prop :=
  ∃ (s k : Value) (its B C : List Nat) (ks : List (Nat × List Nat × List Nat)), Blk w b #[s, k] ∧ Arr w s its B ∧ Arr w k (ks.map (·.1)) C ∧ its.length ≤ cap ∧ ks.length = its.length + 1 ∧
    (∀ x ∈ ks, R x.1 x.2.1 x.2.2) ∧ l = inter its (ks.map (·.2.1)) ∧ F = b :: (B ++ (C ++ (ks.map (·.2.2)).flatten))
def Rep (w : World) : Nat → Nat → List Nat → List Nat → Prop
  | 0 => Leaf w 5
  | h + 1 => Inner w 5 (Rep w h)
/-- A node that may hold one item too many. -/
def Rep6 (w : World) : Nat → Nat → List Nat → List Nat → Prop
  | 0 => Leaf w 6
  | h + 1 => Inner w 6 (Rep w h)

theorem Rep.only {G : Nat → Prop} {w w' : World} (k : Only G w w') : ∀ (h b : Nat) (l F : List Nat), Rep w h b l F → (∀ x ∈ F, ¬ G x) → Rep w' h b l F
  | 0, b, l, F, ⟨s, B, hb, ha, hn, hF⟩, hG => by
    subst hF
    exact ⟨s, B, hb.only k (hG b (by simp)), ha.only k (fun x hx => hG x (by simp [hx])), hn, rfl⟩
  | h + 1, b, l, F, ⟨s, kv, its, B, C, ks, hb, ha, hk, hn, hl, hR, e1, e2⟩, hG => by
    subst e2
    refine ⟨s, kv, its, B, C, ks, hb.only k (hG b (by simp)), ha.only k (fun x hx => hG x (by simp [hx])), hk.only k (fun x hx => hG x (by simp [hx])), hn, hl, fun x hx => ?_, e1, rfl⟩
    refine Rep.only k h x.1 x.2.1 x.2.2 (hR x hx) (fun y hy => hG y ?_)
    have : y ∈ (ks.map (·.2.2)).flatten := List.mem_flatten.2 ⟨x.2.2, List.mem_map.2 ⟨x, hx, rfl⟩, hy⟩
    simp only [List.mem_cons, List.mem_append]
    exact .inr (.inr (.inr this))
theorem Rep.lt {w : World} : ∀ (h b : Nat) (l F : List Nat), Rep w h b l F → ∀ x ∈ F, x < w.heap.size
  | 0, b, l, F, ⟨s, B, hb, ha, hn, hF⟩, x, hx => by
    subst hF
    rcases List.mem_cons.1 hx with rfl | hx
    · exact hb.lt
    · exact ha.lt x hx
  | h + 1, b, l, F, ⟨s, kv, its, B, C, ks, hb, ha, hk, hn, hl, hR, e1, e2⟩, x, hx => by
    subst e2
    simp only [List.mem_cons, List.mem_append] at hx
    rcases hx with rfl | hx | hx | hx
    · exact hb.lt
    · exact ha.lt x hx
    · exact hk.lt x hx
    · obtain ⟨f, hf, hx⟩ := List.mem_flatten.1 hx
      obtain ⟨y, hy, rfl⟩ := List.mem_map.1 hf
      exact Rep.lt h y.1 y.2.1 y.2.2 (hR y hy) x hx

/-- Items lie as they should. -/
def Its (w : World) (l : List Nat) : Prop := ∀ i ∈ l, ∃ kk v, Blk w i #[.string kk, v]
theorem Its.only {G : Nat → Prop} {w w' : World} {l : List Nat} (h : Its w l) (k : Only G w w') (hG : ∀ x ∈ l, ¬ G x) : Its w' l := fun i hi => by
  obtain ⟨kk, v, hb⟩ := h i hi
  exact ⟨kk, v, hb.only k (hG i hi)⟩
end Go.Proofs.YtbheebpfbabffaaGreat.Wat

namespace Go.Proofs.YtbheebpfbabffaaGreat.Wat
open Go.RowKit Go Go.Lib Mach

/-- A slice of pointers that are there: where it lies. -/
theorem Arr.some {w : World} {v : Value} {ps B : List Nat} (h : Arr w v ps B) (hp : 0 < ps.length) : ∃ b c, v = .slice (some ⟨b, 0, none⟩) ps.length c ∧ B = [b] ∧ b < w.heap.size ∧ ps.length ≤ c ∧ c ≤ 9223372036854775807 ∧
    (∀ j u, (ps.map Ptr)[j]? = some u → w.cell? ⟨b, j, none⟩ = some u) ∧ ∀ k, k ≤ ps.length → Arr w (.slice (some ⟨b, 0, none⟩) k c) (ps.take k) B := by
  obtain ⟨-, rfl, -⟩ | ⟨b, rest, rfl, hb, hm, hq, rfl⟩ := h
  · simp at hp
  · refine ⟨b, ps.length + rest.length, rfl, rfl, hb.lt, by omega, hm, fun j u hj => ?_, fun k hk => .inr ⟨b, (ps.drop k).map Ptr ++ rest, ?_, ?_, ?_, ?_, rfl⟩⟩
    · have hlt : j < (ps.map Ptr).length := (List.getElem?_eq_some_iff.1 hj).1
      rw [hb.cell, List.getElem?_toArray, List.getElem?_append_left hlt, hj]
    · have : (ps.take k).length = k := by simp; omega
      rw [this]
      congr 1
      simp; omega
    · refine hb.eq ?_
      congr 1
      rw [← List.append_assoc, ← List.map_append, List.take_append_drop]
    · simp; omega
    · simp; omega

set_option maxRecDepth 100000 in
theorem split_small (b : Nat) (s k : Value) (its B : List Nat) (w : World) (hb : Blk w b #[s, k]) (hs : Arr w s its B) (hn : its.length ≤ 5) :
    Calls Tryz.prog 201 #[Ptr b] w fun e w' => e = .returned (.tuple #[.pointer none, .pointer none]) ∧ w' = w := by
  have hc := hb.cell
  obtain ⟨rfl, rfl, rfl⟩ | ⟨ib, rest, rfl, hib, hm, hp, rfl⟩ := hs
  · go_enter Tryz.func201, Tryz.ntmps201
    go_wp2
    exact bodyPost_ret (v := .tuple #[.pointer none, .pointer none]) (by simp [results, Tryz.results201, go_sem]) rfl ⟨rfl, rfl⟩
  · go_enter Tryz.func201, Tryz.ntmps201
    go_wp2
    exact bodyPost_ret (v := .tuple #[.pointer none, .pointer none]) (by simp [results, Tryz.results201, go_sem]) rfl ⟨rfl, rfl⟩

set_option maxHeartbeats 4000000 in
set_option maxRecDepth 100000 in
theorem split_leaf (b : Nat) (s : Value) (its B : List Nat) (w : World) (hb : Blk w b #[s, .slice none 0 0]) (hs : Arr w s its B) (hn : its.length = 6) (hbB : b ∉ B) :
    Calls Tryz.prog 201 #[Ptr b] w fun e w' => ∃ m r q s1 s2, e = .returned (.tuple #[Ptr m, Ptr r]) ∧ its[3]? = some m ∧
      Blk w' b #[s1, .slice none 0 0] ∧ Arr w' s1 (its.take 3) B ∧ Blk w' r #[s2, .slice none 0 0] ∧ Arr w' s2 (its.drop 4) [q] ∧ Only (fun k => k = b) w w' ∧ w.heap.size ≤ q ∧ q < r := by
  obtain ⟨ib, c, rfl, rfl, hil, hnc, hm, hics, htake⟩ := hs.some (by omega)
  have ht3 := htake 3 (by omega)
  rw [hn] at hb hs hnc htake
  obtain ⟨m, hm3⟩ : ∃ m, its[3]? = some m := ⟨its[3], by simp⟩
  have hic3 : w.cell? ⟨ib, 3, none⟩ = some (Ptr m) := hics 3 _ (by simp [hm3])
  have hc := hb.cell
  have hbl := hb.lt
  have hne : ib ≠ b := fun e => hbB (by simp [e])
  have hb4 : ¬ (c = 4) := by omega
  go_enter Tryz.func201, Tryz.ntmps201
  go_wp2_with fail
  go_at_call 222
  have hcl := cloI ib 4 (c - 4) (its.drop 4) w (by simp; omega) (by simp; omega) (fun j u hj => hics (4 + j) u (by simpa [List.getElem?_drop] using hj))
  rw [show (its.drop 4).length = 2 by simp [hn]] at hcl
  refine hcl.mono ?_
  rintro e w1 ⟨v1, q, rfl, ha1, hb1, hq⟩
  obtain ⟨q', c1, rfl, hq2, hql, hc1, -, -, -⟩ := ha1.some (by simp; omega)
  obtain rfl : q = q' := by simpa using hq2
  clear hq2 hics hic3 hc
  have hB1 := hb.keep hb1
  have hc := hB1.cell
  have hf := hB1.frz
  have hbl1 := hB1.lt
  rw [show (its.drop 4).length = 2 by simp [hn]] at *
  go_wp2
  have hq1 : q < w1.heap.size := ha1.lt q (by simp)
  have hO1 : Only (fun k => k = b) w w1 := Only.of_below hb1
  have hO2 : Only (fun k => k = b) w1 ((w1.setCell ⟨b, 0, none⟩ (.slice (some ⟨ib, 0, none⟩) 3 c)).alloc (.cells #[.slice (some ⟨q, 0, none⟩) 2 c1, .slice none 0 0] 297)) := ((Only.refl (fun k => k = b) w1).set ⟨b, 0, none⟩ (fun _ => rfl) _).alloc _
  have hO : Only (fun k => k = b) w ((w1.setCell ⟨b, 0, none⟩ (.slice (some ⟨ib, 0, none⟩) 3 c)).alloc (.cells #[.slice (some ⟨q, 0, none⟩) 2 c1, .slice none 0 0] 297)) := (hO1.set ⟨b, 0, none⟩ (fun _ => rfl) _).alloc _
  have hme : its[3] = m := by rw [List.getElem?_eq_getElem (by omega)] at hm3; exact Option.some.inj hm3
  refine bodyPost_ret (v := .tuple #[Ptr m, Ptr w1.heap.size]) (by simp [results, Tryz.results201, go_sem, hme]) rfl ⟨m, w1.heap.size, q, .slice (some ⟨ib, 0, none⟩) 3 c, .slice (some ⟨q, 0, none⟩) 2 c1, rfl, hm3, ?_, ht3.only hO (fun x hx e => hbB (by rw [← show x = b from e]; exact hx)), ?_, ha1.only hO2 (fun x hx e => by simp at hx; omega), hO, hq, hq1⟩
  · have := (hB1.setCell 0 (.slice (some ⟨ib, 0, none⟩) 3 c)).alloc (.cells #[.slice (some ⟨q, 0, none⟩) 2 c1, .slice none 0 0] 297)
    simpa using this
  · exact Blk.newAt (by simp [World.setCell])

set_option maxHeartbeats 4000000 in
set_option maxRecDepth 100000 in
theorem split_inner (b : Nat) (s kv : Value) (its ks B C : List Nat) (w : World) (hb : Blk w b #[s, kv]) (hs : Arr w s its B) (hk : Arr w kv ks C) (hn : its.length = 6) (hkn : ks.length = 7) (hbB : b ∉ B) (hbC : b ∉ C) :
    Calls Tryz.prog 201 #[Ptr b] w fun e w' => ∃ m r q p s1 s2 k1 k2, e = .returned (.tuple #[Ptr m, Ptr r]) ∧ its[3]? = some m ∧
      Blk w' b #[s1, k1] ∧ Arr w' s1 (its.take 3) B ∧ Arr w' k1 (ks.take 4) C ∧ Blk w' r #[s2, k2] ∧ Arr w' s2 (its.drop 4) [q] ∧ Arr w' k2 (ks.drop 4) [p] ∧ Only (fun k => k = b) w w' ∧ w.heap.size ≤ q ∧ q < r ∧ r < p := by
  obtain ⟨ib, c, rfl, rfl, hil, hnc, hm, hics, htake⟩ := hs.some (by omega)
  obtain ⟨kb, d, rfl, rfl, hkl, hkc, hkm, hkcs, hktake⟩ := hk.some (by omega)
  have ht3 := htake 3 (by omega)
  have ht4 := hktake 4 (by omega)
  rw [hn] at hb hs hnc htake
  rw [hkn] at hb hk hkc hktake
  obtain ⟨m, hm3⟩ : ∃ m, its[3]? = some m := ⟨its[3], by simp⟩
  have hic3 : w.cell? ⟨ib, 3, none⟩ = some (Ptr m) := hics 3 _ (by simp [hm3])
  have hc := hb.cell
  have hbl := hb.lt
  have hne : ib ≠ b := fun e => hbB (by simp [e])
  have hne2 : kb ≠ b := fun e => hbC (by simp [e])
  have hb4 : ¬ (c = 4) := by omega
  have hd4 : ¬ (d = 4) := by omega
  go_enter Tryz.func201, Tryz.ntmps201
  go_wp2_with fail
  go_at_call 222
  have hcl := cloI ib 4 (c - 4) (its.drop 4) w (by simp; omega) (by simp; omega) (fun j u hj => hics (4 + j) u (by simpa [List.getElem?_drop] using hj))
  rw [show (its.drop 4).length = 2 by simp [hn]] at hcl
  refine hcl.mono ?_
  rintro e w1 ⟨v1, q, rfl, ha1, hb1, hq⟩
  obtain ⟨q', c1, rfl, hq2, hql, hc1, -, -, -⟩ := ha1.some (by simp; omega)
  obtain rfl : q = q' := by simpa using hq2
  clear hq2 hics hic3 hc
  have hB1 := (hb.keep hb1).alloc (.cells #[.slice (some ⟨q, 0, none⟩) 2 c1, .slice none 0 0] 297)
  have hN1 := Blk.new w1 #[.slice (some ⟨q, 0, none⟩) 2 c1, .slice none 0 0] 297
  rw [show (its.drop 4).length = 2 by simp [hn]] at *
  have hc := hB1.cell
  have hO1 : Only (fun k => k = b) w (w1.alloc (.cells #[.slice (some ⟨q, 0, none⟩) 2 c1, .slice none 0 0] 297)) := (Only.of_below hb1).alloc _
  have ha2 : Arr (w1.alloc (.cells #[.slice (some ⟨q, 0, none⟩) 2 c1, .slice none 0 0] 297)) _ _ _ := ha1.only ((Only.refl (fun _ => False) w1).alloc _) (fun _ _ h => h)
  have hsz : (w1.alloc (.cells #[.slice (some ⟨q, 0, none⟩) 2 c1, .slice none 0 0] 297)).heap.size = w1.heap.size + 1 := by simp
  have hw1 : w.heap.size ≤ w1.heap.size := hb1.size
  have hbl1 : b < w1.heap.size := by omega
  go_wp2_with fail
  generalize hwa : w1.alloc (.cells #[.slice (some ⟨q, 0, none⟩) 2 c1, .slice none 0 0] 297) = wa at *
  clear hwa
  go_at_call 223
  have hkcs2 : ∀ j u, (ks.map Ptr)[j]? = some u → wa.cell? ⟨kb, j, none⟩ = some u := fun j u hj => by
    rw [World.cell?_of_block (w := w) (hO1.block kb hkl (fun e => hne2 e))]
    exact hkcs j u hj
  have hcl2 := cloN kb 4 (d - 4) (ks.drop 4) wa (by simp; omega) (by simp; omega) (fun j u hj => hkcs2 (4 + j) u (by simpa [List.getElem?_drop] using hj))
  rw [show (ks.drop 4).length = 3 by simp [hkn]] at hcl2
  refine hcl2.mono ?_
  rintro e w2 ⟨v2, p, rfl, hp1, hb2, hp⟩
  obtain ⟨p', c2, rfl, hp2, hpl, hc2, -, -, -⟩ := hp1.some (by simp; omega)
  obtain rfl : p = p' := by simpa using hp2
  clear hp2 hkcs hkcs2 hc
  rw [show (ks.drop 4).length = 3 by simp [hkn]] at *
  have hB2 := hB1.keep hb2
  have hN2 := hN1.keep hb2
  have ha3 := ha2.only (Only.of_below (F := fun _ => False) hb2) (fun _ _ h => h)
  have hO2 := hO1.then hb2
  have hrb : w1.heap.size ≠ b := by omega
  have hbr : b ≠ w1.heap.size := by omega
  have hq1 : q < w1.heap.size := by
    have := ha1.lt q (by simp)
    exact this
  have hN3 := hN2.setCell 1 (.slice (some ⟨p, 0, none⟩) 3 c2)
  have hB3 := hB2.setOther ⟨w1.heap.size, 1, none⟩ hbr (.slice (some ⟨p, 0, none⟩) 3 c2)
  have hN4 := hN3.setOther ⟨b, 1, none⟩ hrb (.slice (some ⟨kb, 0, none⟩) 4 d)
  have hB4 := hB3.setCell 1 (.slice (some ⟨kb, 0, none⟩) 4 d)
  have hN5 := hN4.setOther ⟨b, 0, none⟩ hrb (.slice (some ⟨ib, 0, none⟩) 3 c)
  have hB5 := hB4.setCell 0 (.slice (some ⟨ib, 0, none⟩) 3 c)
  simp at hN3 hN4 hN5 hB4 hB5
  have n2c := hN2.cell
  have n2f := hN2.frz
  have b3c := hB3.cell
  have b3f := hB3.frz
  have b4c := hB4.cell
  have b4f := hB4.frz
  have hO5 : Only (fun k => k = b ∨ k = w1.heap.size) w2 (((w2.setCell ⟨w1.heap.size, 1, none⟩ (.slice (some ⟨p, 0, none⟩) 3 c2)).setCell ⟨b, 1, none⟩ (.slice (some ⟨kb, 0, none⟩) 4 d)).setCell ⟨b, 0, none⟩ (.slice (some ⟨ib, 0, none⟩) 3 c)) :=
    (((Only.refl _ w2).set ⟨w1.heap.size, 1, none⟩ (fun _ => .inr rfl) _).set ⟨b, 1, none⟩ (fun _ => .inl rfl) _).set ⟨b, 0, none⟩ (fun _ => .inl rfl) _
  have hOf : Only (fun k => k = b) w (((w2.setCell ⟨w1.heap.size, 1, none⟩ (.slice (some ⟨p, 0, none⟩) 3 c2)).setCell ⟨b, 1, none⟩ (.slice (some ⟨kb, 0, none⟩) 4 d)).setCell ⟨b, 0, none⟩ (.slice (some ⟨ib, 0, none⟩) 3 c)) :=
    hO2.trans hO5 (fun x hx hg => by rcases hg with h | h; exact h; omega)
  have hme : its[3] = m := by rw [List.getElem?_eq_getElem (by omega)] at hm3; exact Option.some.inj hm3
  go_wp2
  refine bodyPost_ret (v := .tuple #[Ptr m, Ptr w1.heap.size]) (by simp [results, Tryz.results201, go_sem, hme]) rfl ⟨m, w1.heap.size, q, p, .slice (some ⟨ib, 0, none⟩) 3 c, .slice (some ⟨q, 0, none⟩) 2 c1, .slice (some ⟨kb, 0, none⟩) 4 d, .slice (some ⟨p, 0, none⟩) 3 c2, rfl, hm3, hB5, ht3.only hOf (fun x hx e => hbB (by rw [← show x = b from e]; exact hx)), ht4.only hOf (fun x hx e => hbC (by rw [← show x = b from e]; exact hx)), hN5, ha3.only hO5 (fun x hx e => by simp at hx; omega), hp1.only hO5 (fun x hx e => by simp at hx; omega), hOf, hq, hq1, by omega⟩
end Go.Proofs.YtbheebpfbabffaaGreat.Wat

namespace Go.Proofs.YtbheebpfbabffaaGreat.Wat
open Go.RowKit Go Go.Lib Mach

/-- What a footprint became: of what was there no more than before, of what is new each once. -/
def Grow (w : World) (F F' : List Nat) : Prop := (∀ a, a < w.heap.size → F'.count a ≤ F.count a) ∧ (∀ a, w.heap.size ≤ a → F'.count a ≤ 1)
def Nd (F : List Nat) : Prop := ∀ a, F.count a ≤ 1
theorem Grow.nd {w : World} {F F' : List Nat} (h : Grow w F F') (hF : Nd F) : Nd F' := fun a => by
  by_cases ha : a < w.heap.size
  · exact Nat.le_trans (h.1 a ha) (hF a)
  · exact h.2 a (by omega)
theorem count_in {a : Nat} {F : List Nat} (h : a ∈ F) : 1 ≤ F.count a := List.count_pos_iff.2 h
theorem count_out {a : Nat} {F : List Nat} (h : a ∉ F) : F.count a = 0 := List.count_eq_zero.2 h
theorem Grow.mem {w : World} {F F' : List Nat} (h : Grow w F F') {a : Nat} (ha : a < w.heap.size) (hm : a ∈ F') : a ∈ F := by
  have := h.1 a ha
  have := count_in hm
  exact List.count_pos_iff.1 (by omega)

/-- What an insertion below a node leaves. -/
def InsPost (h b x : Nat) (l F : List Nat) (w : World) (e : Ending) (w' : World) : Prop := Only (fun k => k ∈ F) w w' ∧ ∃ l1 l2, l = l1 ++ l2 ∧
  ((∃ F', e = .returned (.tuple #[.pointer none, .pointer none]) ∧ Rep w' h b (l1 ++ x :: l2) F' ∧ Grow w F F') ∨
   (∃ m r la lb Fa Fb, e = .returned (.tuple #[Ptr m, Ptr r]) ∧ Rep w' h b la Fa ∧ Rep w' h r lb Fb ∧ l1 ++ x :: l2 = la ++ m :: lb ∧ Grow w F (Fa ++ Fb)))

theorem take_drop_split (l : List Nat) (k m : Nat) (h : l[k]? = some m) : l = l.take k ++ m :: l.drop (k + 1) := by
  obtain ⟨hk, rfl⟩ := List.getElem?_eq_some_iff.1 h
  rw [← List.drop_eq_getElem_cons hk, List.take_append_drop]

set_option maxHeartbeats 4000000 in
set_option maxRecDepth 100000 in
theorem ins_leaf (b x : Nat) (l F : List Nat) (kx : ByteArray) (vx : Value) (w : World) (hR : Rep w 0 b l F) (hF : Nd F) (hI : Its w l) (hx : Blk w x #[.string kx, vx]) :
    Calls Tryz.prog 178 #[Ptr b, Ptr x] w (InsPost 0 b x l F w) := by
  obtain ⟨s, B, hb, ha, hn, rfl⟩ := hR
  have hbB : b ∉ B := fun hm => by
    have h2 : B.count b = 0 := by simpa using hF b
    exact List.count_eq_zero.1 h2 hm
  have hxc := hx.cell
  go_enter Tryz.func178, Tryz.ntmps178
  go_wp2_with fail
  go_at_call 163
  refine (place_f b s _ l B kx w hb ha (by omega) hI).mono ?_
  rintro e w1 ⟨⟨i, is, hi, -, rfl⟩, hb1⟩
  clear hxc
  have hB1 := hb.keep hb1
  have hc := hB1.cell
  have hO1 : Only (fun k => k ∈ b :: B) w w1 := Only.of_below hb1
  have hA1 := ha.only (Only.of_below (F := fun _ => False) hb1) (fun _ _ h => h)
  obtain ⟨wa, hwa⟩ : ∃ wa, wa = w1.alloc (.cells #[Ptr x] 262) := ⟨_, rfl⟩
  have hO2 : Only (fun k => k ∈ b :: B) w wa := by rw [hwa]; exact hO1.alloc _
  have hOa : Only (fun _ => False) w1 wa := by rw [hwa]; exact (Only.refl _ _).alloc _
  have hB2 := hB1.only hOa (fun h => h)
  have hA2 := hA1.only hOa (fun _ _ h => h)
  have hV : Blk wa w1.heap.size #[Ptr x] := by rw [hwa]; exact Blk.new _ _ _
  have hvB : w1.heap.size ∉ B := fun hm => by have := hA1.lt _ hm; omega
  go_wp2_with fail
  rw [← hwa] at *
  clear hwa hc
  go_at_call 200
  refine (insI s l B x w1.heap.size i wa hA2 hi (by omega) hV hvB).mono ?_
  rintro e w2 ⟨v', B', rfl, hA3, hO3, hB'⟩
  have hlen : (l.take i ++ x :: l.drop i).length = l.length + 1 := by simp; omega
  obtain ⟨k, c, rfl, rfl, -, -, -, -, -⟩ := hA3.some (by omega)
  have hB3 := hB2.only hO3 hbB
  have hc := hB3.cell
  have hf := hB3.frz
  have hbl := hB3.lt
  have hkb : k ≠ b := by
    rintro rfl
    rcases hB' k (by simp) with h | h
    · exact hbB h
    · have := hB2.lt; omega
  have hO4 : Only (fun k => k ∈ b :: B) w w2 := hO2.trans hO3 (fun y _ hy => by simp [hy])
  have hszw : w.heap.size ≤ wa.heap.size := hO2.size
  go_wp2_with fail
  rw [hlen] at *
  have hlen : (l.take i ++ x :: l.drop i).length = l.length + 1 := by simp; omega
  have hO5 : Only (fun k => k ∈ b :: B) w (w2.setCell ⟨b, 0, none⟩ (.slice (some ⟨k, 0, none⟩) (l.length + 1) c)) := hO4.set ⟨b, 0, none⟩ (fun _ => by simp) _
  have hB5 := hB3.setCell 0 (.slice (some ⟨k, 0, none⟩) (l.length + 1) c)
  simp at hB5
  have hA5 := hA3.only (w' := w2.setCell ⟨b, 0, none⟩ (.slice (some ⟨k, 0, none⟩) (l.length + 1) c)) ((Only.refl (fun y => y = b) w2).set ⟨b, 0, none⟩ (fun _ => rfl) _) (fun y hy e => by simp at hy; omega)
  generalize w2.setCell ⟨b, 0, none⟩ (.slice (some ⟨k, 0, none⟩) (l.length + 1) c) = w5 at *
  clear hc hf
  have hG : Grow w (b :: B) [b, k] := by
    constructor
    · intro a ha
      by_cases h1 : b = a
      · subst h1; simp [hkb]
      · by_cases h2 : k = a
        · subst h2
          rcases hB' k (by simp) with h | h
          · have := count_in h
            simp [h1]; exact h
          · omega
        · simp [h1, h2]
    · intro a ha
      have : a ≠ b := by have := hb.lt; omega
      by_cases h2 : k = a
      · subst h2; simp [hkb.symm]
      · simp [h2, this.symm]
  go_at_call 201
  by_cases h5 : l.length + 1 ≤ 5
  · refine (split_small b _ _ _ _ w5 hB5 hA5 (by omega)).mono ?_
    rintro e w6 ⟨rfl, rfl⟩
    go_wp2
    exact bodyPost_ret (v := .tuple #[.pointer none, .pointer none]) (by simp [results, Tryz.results178, go_sem]) rfl ⟨hO5, l.take i, l.drop i, by simp, .inl ⟨[b, k], rfl, ⟨_, [k], hB5, hA5, by omega, rfl⟩, hG⟩⟩
  · refine (split_leaf b _ _ _ w5 hB5 hA5 (by omega) (by simpa using hkb.symm)).mono ?_
    rintro e w6 ⟨m, r, q, s1, s2, rfl, hm, hb6, ha6, hr6, hq6, hO6, hq, hqr⟩
    go_wp2
    have hw5 : w.heap.size ≤ w5.heap.size := hO5.size
    refine bodyPost_ret (v := .tuple #[Ptr m, Ptr r]) (by simp [results, Tryz.results178, go_sem]) rfl ⟨hO5.trans hO6 (fun y _ hy => by simp [show y = b from hy]), l.take i, l.drop i, by simp, .inr ⟨m, r, _, _, [b, k], [r, q], rfl, ⟨s1, [k], hb6, ha6, by simp; omega, rfl⟩, ⟨s2, [q], hr6, hq6, by simp; omega, rfl⟩, take_drop_split _ 3 m hm, ?_⟩⟩
    have hk5 : k < w5.heap.size := hA5.lt k (by simp)
    have hb5 : b < w5.heap.size := hB5.lt
    constructor
    · intro a ha
      have h1 := hG.1 a ha
      have h2 : ([r, q] : List Nat).count a = 0 := count_out (by simp; omega)
      rw [List.count_append]; omega
    · intro a ha
      have h1 := hG.2 a ha
      rw [List.count_append]
      by_cases h3 : a < w5.heap.size
      · have h2 : ([r, q] : List Nat).count a = 0 := count_out (by simp; omega)
        omega
      · have h2 : ([b, k] : List Nat).count a = 0 := count_out (by simp; omega)
        have h4 : ([r, q] : List Nat).count a ≤ 1 := by
          by_cases h5 : r = a
          · subst h5; simp [show ¬ q = r by omega]
          · by_cases h6 : q = a
            · subst h6; simp [h5]
            · simp [h5, h6]
        omega
end Go.Proofs.YtbheebpfbabffaaGreat.Wat

