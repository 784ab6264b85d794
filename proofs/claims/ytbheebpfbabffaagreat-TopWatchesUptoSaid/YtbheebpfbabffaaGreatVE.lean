/- Joined: a part of the proof of TopWatches. -/
import Derived.Test.YtbheebpfbabffaaGreatVD
set_option linter.unusedSimpArgs false
set_option linter.unusedVariables false
namespace Go.Proofs.YtbheebpfbabffaaGreat.Wat
open Go.RowKit Go Go.Lib Mach

abbrev Kid := Nat × List Nat × List Nat
abbrev feet (ks : List Kid) : List Nat := (ks.map (·.2.2)).flatten
theorem feet_mem {ks : List Kid} {z : Kid} (hz : z ∈ ks) {y : Nat} (hy : y ∈ z.2.2) : y ∈ feet ks := List.mem_flatten.2 ⟨z.2.2, List.mem_map.2 ⟨z, hz, rfl⟩, hy⟩
theorem single_le {k N : Nat} {B : List Nat} (h : k ∈ B ∨ N ≤ k) (a : Nat) (ha : a < N) : ([k] : List Nat).count a ≤ B.count a := by
  by_cases e : k = a
  · subst e
    rcases h with h | h
    · have := count_in h; simpa using this
    · omega
  · simp [e]
theorem single_one (k a : Nat) : ([k] : List Nat).count a ≤ 1 := by
  by_cases e : k = a
  · simp [e]
  · simp [e]
theorem single_zero {k a : Nat} (h : k ≠ a) : ([k] : List Nat).count a = 0 := by simp [h]
theorem inner_count (b : Nat) (B C P K Q : List Nat) (a : Nat) : (b :: (B ++ (C ++ (P ++ (K ++ Q))))).count a = ([b] : List Nat).count a + B.count a + C.count a + P.count a + K.count a + Q.count a := by
  rw [show b :: (B ++ (C ++ (P ++ (K ++ Q)))) = [b] ++ (B ++ (C ++ (P ++ (K ++ Q)))) from rfl]
  simp only [List.count_append]
  omega

theorem kids_part (p q : List Kid) (z z' r : Kid) (e : z'.1 = z.1) : ((p ++ z :: q).map (·.1)).take (p.length + 1) ++ r.1 :: ((p ++ z :: q).map (·.1)).drop (p.length + 1) = (p ++ z' :: r :: q).map (·.1) := by
  have h : (p ++ z :: q).map (·.1) = (p.map (·.1) ++ [z.1]) ++ q.map (·.1) := by simp
  rw [h, List.take_left' (by simp), List.drop_left' (by simp)]
  simp [e]

theorem feet_split (ks : List Kid) (n a : Nat) : (feet (ks.take n)).count a + (feet (ks.drop n)).count a = (feet ks).count a := by
  rw [← List.count_append, ← List.flatten_append, ← List.map_append, List.take_append_drop]
theorem node_count (b k1 k2 : Nat) (X : List Nat) (a : Nat) : (b :: ([k1] ++ ([k2] ++ X))).count a = ([b] : List Nat).count a + ([k1] : List Nat).count a + ([k2] : List Nat).count a + X.count a := by
  rw [show b :: ([k1] ++ ([k2] ++ X)) = [b] ++ ([k1] ++ ([k2] ++ X)) from rfl]
  simp only [List.count_append]
  omega

/-- The contract, at a height. -/
def InsAt (h : Nat) : Prop := ∀ (b x : Nat) (l F : List Nat) (kx : ByteArray) (vx : Value) (w : World), Rep w h b l F → Nd F → Its w l → Blk w x #[.string kx, vx] →
  Calls Tryz.prog 178 #[Ptr b, Ptr x] w (InsPost h b x l F w)

set_option maxHeartbeats 8000000 in
set_option maxRecDepth 100000 in
theorem ins_inner (h : Nat) (ih : InsAt h) : InsAt (h + 1) := by
  intro b x l F kx vx w hR hF hI hx
  obtain ⟨s, kv, its, B, C, ks, hb, ha, hk, hn, hkl, hRk, hl, hFe⟩ := hR
  have hxc := hx.cell
  have hIi : Its w its := fun i hi => hI i (by rw [hl]; exact inter_mem_item its _ (by simpa using hkl) i hi)
  go_enter Tryz.func178, Tryz.ntmps178
  go_wp2_with fail
  go_at_call 163
  refine (place_f b s _ its B kx w hb ha (by omega) hIi).mono ?_
  rintro e w1 ⟨⟨i, is, hi, -, rfl⟩, hb1⟩
  clear hxc
  obtain ⟨⟨kb, kl, kF⟩, hki⟩ : ∃ kid, ks[i]? = some kid := ⟨ks[i], List.getElem?_eq_getElem (by omega)⟩
  obtain ⟨p, q, rfl, hp⟩ : ∃ p q, ks = p ++ (kb, kl, kF) :: q ∧ p.length = i := by
    obtain ⟨hlt, he⟩ := List.getElem?_eq_some_iff.1 hki
    refine ⟨ks.take i, ks.drop (i + 1), ?_, by simp; omega⟩
    rw [← he, ← List.drop_eq_getElem_cons hlt, List.take_append_drop]
  have hfe : (List.map (·.2.2) (p ++ ((kb, kl, kF) : Kid) :: q)).flatten = feet p ++ (kF ++ feet q) := by simp [feet]
  rw [hfe] at hFe
  have hct := inner_count b B C (feet p) kF (feet q)
  rw [← hFe] at hct
  have hlen : (p ++ (kb, kl, kF) :: q).length = its.length + 1 := hkl
  have hRkid : Rep w h kb kl kF := hRk (kb, kl, kF) (by simp)
  have hbF : b ∈ F := by rw [hFe]; simp
  have hFlt : ∀ y ∈ F, y < w.heap.size := Rep.lt (h + 1) b l F ⟨s, kv, its, B, C, p ++ (kb, kl, kF) :: q, hb, ha, hk, hn, hkl, hRk, hl, by rw [hFe, hfe]⟩
  obtain ⟨kb', d, rfl, hCe, hkbl, hdc, hdm, hkcs, -⟩ := hk.some (by simp; omega)
  have hmapl : ((p ++ (kb, kl, kF) :: q).map (·.1)).length = its.length + 1 := by simpa using hlen
  rw [hmapl] at hb hk
  have hO1 : Only (fun _ => False) w w1 := Only.of_below hb1
  have hB1 := hb.keep hb1
  have hc := hB1.cell
  have hkc : w1.cell? ⟨kb', i, none⟩ = some (Ptr kb) := by
    rw [keep0 hb1 hkbl]
    exact hkcs i _ (by simp [← hp])
  clear hkcs
  go_wp2_with fail
  go_at_call 178
  have hndk : Nd kF := fun a => by have := hF a; have := hct a; omega
  have hIk : Its w1 kl := fun j hj => by
    obtain ⟨kk, v, hv⟩ := hI j (by rw [hl]; exact inter_mem_kid its _ (by simpa using hkl) kl (by simp) j hj)
    exact ⟨kk, v, hv.keep hb1⟩
  refine (ih kb x kl kF kx vx w1 (Rep.only hO1 h kb kl kF hRkid (fun _ _ h => h)) hndk hIk (hx.keep hb1)).mono ?_
  rintro e w2 ⟨hO2, l1, l2, hkl12, hpost⟩
  have disj : ∀ y ∈ kF, y ≠ b ∧ y ∉ B ∧ y ∉ C ∧ y ∉ feet p ∧ y ∉ feet q := fun y hy => by
    have h1 := hct y
    have h2 := hF y
    have h3 := count_in hy
    refine ⟨?_, fun hm => ?_, fun hm => ?_, fun hm => ?_, fun hm => ?_⟩
    · rintro rfl
      have : ([y] : List Nat).count y = 1 := by simp
      omega
    all_goals (have := count_in hm; omega)
  have bB : b ∉ B ∧ b ∉ C := by
    have h1 := hct b
    have h2 := hF b
    have h3 : ([b] : List Nat).count b = 1 := by simp
    refine ⟨fun hm => ?_, fun hm => ?_⟩
    all_goals (have := count_in hm; omega)
  have BC : ∀ y ∈ B, y ∉ C := fun y hy hm => by
    have h1 := hct y
    have h2 := hF y
    have := count_in hm
    have := count_in hy
    omega
  have pqF : ∀ z : Kid, (z ∈ p ∨ z ∈ q) → ∀ y ∈ z.2.2, y ∉ b :: (B ++ (C ++ kF)) := fun z hz y hy => by
    have h1 := hct y
    have h2 := hF y
    have h3 : 1 ≤ (feet p).count y + (feet q).count y := by
      rcases hz with hz | hz
      · have := count_in (feet_mem hz hy); omega
      · have := count_in (feet_mem hz hy); omega
    intro hm
    simp only [List.mem_cons, List.mem_append] at hm
    rcases hm with rfl | hm | hm | hm
    · have : ([y] : List Nat).count y = 1 := by simp
      omega
    all_goals (have := count_in hm; omega)
  have hB2 := hB1.only hO2 (fun hm => (disj b hm).1 rfl)
  have hA2 := (ha.only hO1 (fun _ _ h => h)).only hO2 (fun y hy hm => (disj y hm).2.1 hy)
  have hK2 := (hk.only hO1 (fun _ _ h => h)).only hO2 (fun y hy hm => (disj y hm).2.2.1 hy)
  have hP2 : ∀ z : Kid, (z ∈ p ∨ z ∈ q) → Rep w2 h z.1 z.2.1 z.2.2 := fun z hz =>
    Rep.only hO2 h _ _ _ (Rep.only hO1 h _ _ _ (hRk z (by rcases hz with hz | hz <;> simp [hz])) (fun _ _ h => h)) (fun y hy hm => pqF z hz y hy (by simp [hm]))
  have hOw2 : Only (fun k => k ∈ F) w w2 := (Only.of_below hb1 : Only (fun k => k ∈ F) w w1).trans hO2 (fun y _ hy => by rw [hFe]; simp [show y ∈ kF from hy])
  have hs12 : w.heap.size ≤ w1.heap.size := hb1.size
  have hs2 : w1.heap.size ≤ w2.heap.size := hO2.size
  have hil : i < (p ++ (kb, kl, kF) :: q).length := by omega
  have hc2 := hB2.cell
  clear hc hkc hI hIi hIk hndk
  rcases hpost with ⟨F', rfl, hR2, hG⟩ | ⟨m, r, la, lb, Fa, Fb, rfl, hRa, hRb, hlab, hG⟩
  · go_wp2_with fail
    go_at_call 201
    refine (split_small b _ _ _ _ w2 hB2 hA2 (by omega)).mono ?_
    rintro e w3 ⟨rfl, rfl⟩
    go_wp2
    obtain ⟨P, Q, e1, e2⟩ := inter_set its ((p ++ (kb, kl, kF) :: q).map (·.2.1)) i kl (l1 ++ x :: l2) x l1 l2 (by simpa using hkl) (by simp [← hp]) hkl12 rfl
    have hset : ((p ++ (kb, kl, kF) :: q).map (·.2.1)).set i (l1 ++ x :: l2) = (p ++ (kb, l1 ++ x :: l2, F') :: q).map (·.2.1) := by simp [← hp]
    refine bodyPost_ret (v := .tuple #[.pointer none, .pointer none]) (by simp [results, Tryz.results178, go_sem]) rfl ⟨hOw2, P, Q, by rw [hl, e1], .inl ⟨b :: (B ++ (C ++ (feet p ++ (F' ++ feet q)))), rfl, ⟨s, _, its, B, C, p ++ (kb, l1 ++ x :: l2, F') :: q, hB2, hA2, ?_, hn, by simpa using hkl, ?_, ?_, by simp [feet]⟩, ?_⟩⟩
    · simpa [hmapl] using hK2
    · intro z hz
      simp only [List.mem_append, List.mem_cons] at hz
      rcases hz with hz | rfl | hz
      · exact hP2 z (.inl hz)
      · exact hR2
      · exact hP2 z (.inr hz)
    · rw [← hset, e2]
    · constructor
      · intro a ha
        rw [hct, inner_count]
        have := hG.1 a (by omega)
        omega
      · intro a ha
        rw [inner_count]
        have hz := hct a
        rw [count_out (fun hm => by have := hFlt a hm; omega)] at hz
        by_cases h9 : a < w1.heap.size
        · have := hG.1 a h9
          omega
        · have := hG.2 a (by omega)
          omega
  · have hV : Blk (w2.alloc (.cells #[Ptr m] 262)) w2.heap.size #[Ptr m] := Blk.new _ _ _
    have hOa : Only (fun _ => False) w2 (w2.alloc (.cells #[Ptr m] 262)) := (Only.refl _ _).alloc _
    have hvB : w2.heap.size ∉ B := fun hm => by have := hA2.lt _ hm; omega
    go_wp2_with fail
    generalize w2.alloc (.cells #[Ptr m] 262) = wa at *
    have hB3 := hB2.only hOa (fun h => h)
    have hA3 := hA2.only hOa (fun _ _ h => h)
    have hK3 := hK2.only hOa (fun _ _ h => h)
    clear hc2
    go_at_call 200
    refine (insI s its B m w2.heap.size i wa hA3 hi (by omega) hV hvB).mono ?_
    rintro e w4 ⟨v', B', rfl, hA4, hO4, hB'⟩
    have hl4 : (its.take i ++ m :: its.drop i).length = its.length + 1 := by simp; omega
    obtain ⟨k1, c1, rfl, rfl, hk1l, -, -, -, -⟩ := hA4.some (by omega)
    rw [hl4] at hA4
    have hBlt : ∀ y ∈ B, y < w.heap.size := ha.lt
    have hCk : kb' < w.heap.size := hkbl
    have hblt : b < w.heap.size := hFlt b hbF
    have hs3 : w2.heap.size ≤ wa.heap.size := hOa.size
    have hs4 : wa.heap.size ≤ w4.heap.size := hO4.size
    have hk1b : k1 ≠ b := by
      rintro rfl
      rcases hB' k1 (by simp) with h | h
      · exact bB.1 h
      · omega
    have hk1C : k1 ∉ C := by
      intro hm
      rcases hB' k1 (by simp) with h | h
      · exact BC k1 h hm
      · rw [hCe] at hm; simp at hm; omega
    have hB4 := hB3.only hO4 bB.1
    have hK4 := hK3.only hO4 (fun y hy hm => BC y hm hy)
    have hc4 := hB4.cell
    have hf4 := hB4.frz
    have hbl4 := hB4.lt
    have hO5 : Only (fun y => y = b) w4 (w4.setCell ⟨b, 0, none⟩ (.slice (some ⟨k1, 0, none⟩) (its.length + 1) c1)) := (Only.refl (fun y => y = b) w4).set ⟨b, 0, none⟩ (fun _ => rfl) _
    have hB5 := hB4.setCell 0 (.slice (some ⟨k1, 0, none⟩) (its.length + 1) c1)
    simp at hB5
    have hc5 := hB5.cell
    have hf5 := hB5.frz
    rw [← hl4] at hc5 hf5
    go_wp2_with fail
    rw [hl4] at *
    have hl4 : (its.take i ++ m :: its.drop i).length = its.length + 1 := by simp; omega
    clear hc4 hf4 hc5 hf5
    have hz5 : (w4.setCell ⟨b, 0, none⟩ (.slice (some ⟨k1, 0, none⟩) (its.length + 1) c1)).heap.size = w4.heap.size := by simp [World.setCell]
    generalize w4.setCell ⟨b, 0, none⟩ (.slice (some ⟨k1, 0, none⟩) (its.length + 1) c1) = w5 at *
    have hA5 := hA4.only hO5 (fun y hy e => hk1b (by simp at hy; omega))
    have hK5 := hK4.only hO5 (fun y hy e => bB.2 (by rw [← show y = b from e]; exact hy))
    have hW : Blk (w5.alloc (.cells #[Ptr r] 228)) w5.heap.size #[Ptr r] := Blk.new _ _ _
    have hOb : Only (fun _ => False) w5 (w5.alloc (.cells #[Ptr r] 228)) := (Only.refl _ _).alloc _
    have hvC : w5.heap.size ∉ C := fun hm => by have := hK5.lt _ hm; omega
    generalize w5.alloc (.cells #[Ptr r] 228) = wb at *
    have hB6 := hB5.only hOb (fun h => h)
    have hA6 := hA5.only hOb (fun _ _ h => h)
    have hK6 := hK5.only hOb (fun _ _ h => h)
    have hs5 : w4.heap.size ≤ w5.heap.size := hO5.size
    have hs6 : w5.heap.size ≤ wb.heap.size := hOb.size
    go_at_call 202
    have hins := insN _ _ C r w5.heap.size (i + 1) wb hK6 (by omega) (by omega) hW hvC
    have hkids : ((p ++ (kb, kl, kF) :: q).map (·.1)).take (i + 1) ++ r :: ((p ++ (kb, kl, kF) :: q).map (·.1)).drop (i + 1) = (p ++ (kb, la, Fa) :: (r, lb, Fb) :: q).map (·.1) := by
      rw [← hp]
      exact kids_part p q (kb, kl, kF) (kb, la, Fa) (r, lb, Fb) rfl
    rw [hkids, show ((i + 1 : Nat) : Int) = (i : Int) + 1 by omega, hz5] at hins
    refine hins.mono ?_
    rintro e w6 ⟨v2, C', rfl, hK7, hO6, hC'⟩
    have hl7 : ((p ++ (kb, la, Fa) :: (r, lb, Fb) :: q).map (·.1)).length = its.length + 2 := by simp at hlen ⊢; omega
    obtain ⟨k2, c2, rfl, rfl, hk2l, -, -, -, -⟩ := hK7.some (by omega)
    rw [hl7] at hK7 ⊢
    have hs7 : wb.heap.size ≤ w6.heap.size := hO6.size
    have hk2b : k2 ≠ b := by
      rintro rfl
      rcases hC' k2 (by simp) with h | h
      · exact bB.2 h
      · omega
    have hk1B : k1 ∈ B ∨ wa.heap.size ≤ k1 := hB' k1 (by simp)
    have hk2C : k2 ∈ C ∨ wb.heap.size ≤ k2 := hC' k2 (by simp)
    have hk12 : k1 ≠ k2 := by
      rintro rfl
      rcases hk2C with h | h
      · exact hk1C h
      · omega
    have hB7 := hB6.only hO6 bB.2
    have hA7 := hA6.only hO6 (fun y hy hm => hk1C (by simp at hy; rw [← hy]; exact hm))
    have hc7 := hB7.cell
    have hf7 := hB7.frz
    have hbl7 := hB7.lt
    have hO7 : Only (fun y => y = b) w6 (w6.setCell ⟨b, 1, none⟩ (.slice (some ⟨k2, 0, none⟩) (its.length + 2) c2)) := (Only.refl (fun y => y = b) w6).set ⟨b, 1, none⟩ (fun _ => rfl) _
    have hB8 := hB7.setCell 1 (.slice (some ⟨k2, 0, none⟩) (its.length + 2) c2)
    simp at hB8
    go_wp2_with fail
    clear hc7 hf7
    generalize w6.setCell ⟨b, 1, none⟩ (.slice (some ⟨k2, 0, none⟩) (its.length + 2) c2) = w8 at *
    have hA8 := hA7.only hO7 (fun y hy e => hk1b (by simp at hy; omega))
    have hK8 := hK7.only hO7 (fun y hy e => hk2b (by simp at hy; omega))
    have hs8 : w6.heap.size ≤ w8.heap.size := hO7.size
    -- from w2 on only the node and its rows were written
    have hO28 : Only (fun y => y = b ∨ y ∈ B ∨ y ∈ C) w2 w8 := by
      have g1 : Only (fun y => y = b ∨ y ∈ B ∨ y ∈ C) w2 wa := ⟨hOa.os, hOa.tape, hOa.output, hOa.size, fun y hy _ => hOa.block y hy (fun h => h)⟩
      have g2 := g1.trans hO4 (fun y _ hy => .inr (.inl hy))
      have g3 := g2.trans hO5 (fun y _ hy => .inl hy)
      have g4 := g3.trans hOb (fun y _ hy => hy.elim)
      have g5 := g4.trans hO6 (fun y _ hy => .inr (.inr hy))
      exact g5.trans hO7 (fun y _ hy => .inl hy)
    have hOw8 : Only (fun k => k ∈ F) w w8 := hOw2.trans hO28 (fun y _ hy => by
      rw [hFe]
      simp only [List.mem_cons, List.mem_append]
      rcases hy with hy | hy | hy
      · exact .inl hy
      · exact .inr (.inl hy)
      · exact .inr (.inr (.inl hy)))
    have hClt : ∀ y ∈ C, y < w.heap.size := fun y hy => by rw [hCe] at hy; simp at hy; omega
    have freshOut : ∀ y, (y ∈ kF ∨ w1.heap.size ≤ y) → ¬ (y = b ∨ y ∈ B ∨ y ∈ C) := fun y hy hm => by
      rcases hy with hy | hy
      · have := disj y hy
        rcases hm with hm | hm | hm
        · exact this.1 hm
        · exact this.2.1 hm
        · exact this.2.2.1 hm
      · rcases hm with hm | hm | hm
        · omega
        · have := hBlt y hm; omega
        · have := hClt y hm; omega
    have kidOut : ∀ y, y ∈ Fa ++ Fb → (y ∈ kF ∨ w1.heap.size ≤ y) := fun y hy => by
      by_cases h9 : y < w1.heap.size
      · exact .inl (hG.mem h9 hy)
      · exact .inr (by omega)
    have hRa8 := Rep.only hO28 h _ _ _ hRa (fun y hy => freshOut y (kidOut y (by simp [hy])))
    have hRb8 := Rep.only hO28 h _ _ _ hRb (fun y hy => freshOut y (kidOut y (by simp [hy])))
    have hP8 : ∀ z : Kid, (z ∈ p ∨ z ∈ q) → Rep w8 h z.1 z.2.1 z.2.2 := fun z hz =>
      Rep.only hO28 h _ _ _ (hP2 z hz) (fun y hy hm => pqF z hz y hy (by simp only [List.mem_cons, List.mem_append]; rcases hm with hm | hm | hm; exact .inl hm; exact .inr (.inl hm); exact .inr (.inr (.inl hm))))
    have hR8 : ∀ z ∈ (p ++ (kb, la, Fa) :: (r, lb, Fb) :: q : List Kid), Rep w8 h z.1 z.2.1 z.2.2 := fun z hz => by
      simp only [List.mem_append, List.mem_cons] at hz
      rcases hz with hz | rfl | rfl | hz
      · exact hP8 z (.inl hz)
      · exact hRa8
      · exact hRb8
      · exact hP8 z (.inr hz)
    obtain ⟨P, Q, e1, e2⟩ := inter_set its ((p ++ (kb, kl, kF) :: q).map (·.2.1)) i kl (l1 ++ x :: l2) x l1 l2 (by simpa using hkl) (by simp [← hp]) hkl12 rfl
    have e3 : inter (its.take i ++ m :: its.drop i) ((p ++ (kb, la, Fa) :: (r, lb, Fb) :: q : List Kid).map (·.2.1)) = P ++ x :: Q := by
      rw [← e2, hlab, ← inter_part its _ i la lb m (by simpa using hkl) hi]
      congr 1
      rw [← hp]
      have h1 : (p ++ (kb, kl, kF) :: q).map (·.2.1) = p.map (·.2.1) ++ (kl :: q.map (·.2.1)) := by simp
      rw [h1, List.take_left' (by simp), show p.map (·.2.1) ++ (kl :: q.map (·.2.1)) = (p.map (·.2.1) ++ [kl]) ++ q.map (·.2.1) by simp, List.drop_left' (by simp)]
      simp
    have hlP : l = P ++ Q := by rw [hl, e1]
    -- the footprint
    have hFlt8 : ∀ y ∈ Fa ++ Fb, y < w2.heap.size := fun y hy => by
      rcases List.mem_append.1 hy with hy | hy
      · exact Rep.lt h _ _ _ hRa y hy
      · exact Rep.lt h _ _ _ hRb y hy
    have hGr : ∀ a, (a < w.heap.size → ([b] : List Nat).count a + ([k1] : List Nat).count a + ([k2] : List Nat).count a + (feet p).count a + (Fa ++ Fb).count a + (feet q).count a ≤ F.count a) ∧
        (w.heap.size ≤ a → ([b] : List Nat).count a + ([k1] : List Nat).count a + ([k2] : List Nat).count a + (feet p).count a + (Fa ++ Fb).count a + (feet q).count a ≤ 1) := fun a => by
      constructor
      · intro ha9
        rw [hct]
        have g1 := hG.1 a (by omega)
        have g2 := single_le (B := B) (N := w.heap.size) (hk1B.imp id (fun g => by omega)) a ha9
        have g3 := single_le (B := C) (N := w.heap.size) (hk2C.imp id (fun g => by omega)) a ha9
        omega
      · intro ha9
        have hz := hct a
        rw [count_out (fun hm => by have := hFlt a hm; omega)] at hz
        by_cases c1' : a < w2.heap.size
        · have g2 : ([k1] : List Nat).count a = 0 := single_zero (by
            rintro rfl
            rcases hk1B with g | g
            · have := hBlt _ g; omega
            · omega)
          have g3 : ([k2] : List Nat).count a = 0 := single_zero (by
            rintro rfl
            rcases hk2C with g | g
            · have := hClt _ g; omega
            · omega)
          by_cases h9 : a < w1.heap.size
          · have := hG.1 a h9; omega
          · have := hG.2 a (by omega); omega
        · have g4 : (Fa ++ Fb).count a = 0 := count_out (fun hm => by have := hFlt8 a hm; omega)
          by_cases g5 : k1 = a
          · have g3 : ([k2] : List Nat).count a = 0 := single_zero (by rw [← g5]; exact fun e => hk12 e.symm)
            have := single_one k1 a
            omega
          · have := single_zero g5
            have := single_one k2 a
            omega
    have hfeet8 : feet (p ++ (kb, la, Fa) :: (r, lb, Fb) :: q) = feet p ++ ((Fa ++ Fb) ++ feet q) := by simp [feet]
    have hfc : ∀ a, (feet (p ++ (kb, la, Fa) :: (r, lb, Fb) :: q)).count a = (feet p).count a + (Fa ++ Fb).count a + (feet q).count a := fun a => by
      rw [hfeet8]
      simp only [List.count_append]
      omega
    generalize hks : (p ++ (kb, la, Fa) :: (r, lb, Fb) :: q : List Kid) = ks at *
    have hks8 : ks.length = its.length + 2 := by rw [← hl7]; simp
    have hbks : ∀ z ∈ ks, b ∉ z.2.2 := fun z hz hm => by
      have h1 := (hfc b)
      have h2 := count_in (feet_mem hz hm)
      have h3 := (hGr b).1 hblt
      have h4 : ([b] : List Nat).count b = 1 := by simp
      have h5 := hF b
      omega
    clear hkids hfeet8
    go_at_call 201
    by_cases h5 : its.length + 1 ≤ 5
    · refine (split_small b _ _ _ _ w8 hB8 hA8 (by omega)).mono ?_
      rintro e w9 ⟨rfl, rfl⟩
      go_wp2
      refine bodyPost_ret (v := .tuple #[.pointer none, .pointer none]) (by simp [results, Tryz.results178, go_sem]) rfl ⟨hOw8, P, Q, hlP, .inl ⟨b :: ([k1] ++ ([k2] ++ feet ks)), rfl, ⟨_, _, _, [k1], [k2], ks, hB8, hA8, hK8, by omega, by omega, hR8, e3.symm, rfl⟩, ?_⟩⟩
      constructor
      · intro a ha9
        rw [node_count, hfc]
        have := (hGr a).1 ha9
        omega
      · intro a ha9
        rw [node_count, hfc]
        have := (hGr a).2 ha9
        omega
    · refine (split_inner b _ _ _ _ _ _ w8 hB8 hA8 hK8 (by omega) (by omega) (by simpa using hk1b.symm) (by simpa using hk2b.symm)).mono ?_
      rintro e w9 ⟨m', r', q', p', s1, s2, n1, n2, rfl, hm', hb9, ha9, hk9, hr9, ha9', hk9', hO9, hq9, hqr, hrp⟩
      go_wp2
      have hR9 : ∀ z ∈ ks, Rep w9 h z.1 z.2.1 z.2.2 := fun z hz => Rep.only hO9 h _ _ _ (hR8 z hz) (fun y hy e => hbks z hz (by rw [← show y = b from e]; exact hy))
      have e4 : P ++ x :: Q = inter ((its.take i ++ m :: its.drop i).take 3) ((ks.take 4).map (·.2.1)) ++ m' :: inter ((its.take i ++ m :: its.drop i).drop 4) ((ks.drop 4).map (·.2.1)) := by
        rw [← e3, inter_split _ _ 3 m' (by simp only [List.length_map]; omega) hm', List.map_take, List.map_drop]
      rw [← List.map_take] at hk9
      rw [← List.map_drop] at hk9'
      refine bodyPost_ret (v := .tuple #[Ptr m', Ptr r']) (by simp [results, Tryz.results178, go_sem]) rfl ⟨hOw8.trans hO9 (fun y _ hy => by rw [show y = b from hy]; exact hbF), P, Q, hlP, .inr ⟨m', r', _, _, b :: ([k1] ++ ([k2] ++ feet (ks.take 4))), r' :: ([q'] ++ ([p'] ++ feet (ks.drop 4))), rfl,
        ⟨s1, n1, _, [k1], [k2], ks.take 4, hb9, ha9, hk9, by simp; omega, by simp; omega, fun z hz => hR9 z (List.mem_of_mem_take hz), rfl, rfl⟩, ⟨s2, n2, _, [q'], [p'], ks.drop 4, hr9, ha9', hk9', by simp; omega, by simp; omega, fun z hz => hR9 z (List.mem_of_mem_drop hz), rfl, rfl⟩, e4, ?_⟩⟩
      have hb8 : b < w8.heap.size := hB8.lt
      constructor
      · intro a ha10
        rw [List.count_append, node_count, node_count]
        have g0 := feet_split ks 4 a
        have g1 := hfc a
        have g2 := (hGr a).1 ha10
        have g3 : ([r'] : List Nat).count a = 0 := single_zero (by omega)
        have g4 : ([q'] : List Nat).count a = 0 := single_zero (by omega)
        have g5 : ([p'] : List Nat).count a = 0 := single_zero (by omega)
        omega
      · intro a ha10
        rw [List.count_append, node_count, node_count]
        have g0 := feet_split ks 4 a
        have g1 := hfc a
        have g2 := (hGr a).2 ha10
        by_cases h9 : a < w8.heap.size
        · have g3 : ([r'] : List Nat).count a = 0 := single_zero (by omega)
          have g4 : ([q'] : List Nat).count a = 0 := single_zero (by omega)
          have g5 : ([p'] : List Nat).count a = 0 := single_zero (by omega)
          omega
        · have hz := hct a
          rw [count_out (fun hm => by have := hFlt a hm; omega)] at hz
          have g6 : (Fa ++ Fb).count a = 0 := count_out (fun hm => by have := hFlt8 a hm; omega)
          have g7 : ([b] : List Nat).count a = 0 := single_zero (by omega)
          have g8 : ([k1] : List Nat).count a = 0 := single_zero (by omega)
          have g9 : ([k2] : List Nat).count a = 0 := single_zero (by omega)
          have g3 := single_one r' a
          have g4 := single_one q' a
          have g5 := single_one p' a
          by_cases c3 : r' = a
          · have := single_zero (k := q') (a := a) (by omega)
            have := single_zero (k := p') (a := a) (by omega)
            omega
          · have := single_zero c3
            by_cases c4 : q' = a
            · have := single_zero (k := p') (a := a) (by omega)
              omega
            · have := single_zero c4
              omega

/-- An insertion, at any height. -/
theorem ins_all : ∀ h, InsAt h
  | 0 => fun b x l F kx vx w hR hF hI hx => ins_leaf b x l F kx vx w hR hF hI hx
  | h + 1 => ins_inner h (ins_all h)
end Go.Proofs.YtbheebpfbabffaaGreat.Wat

namespace Go.Proofs.YtbheebpfbabffaaGreat.Wat
open Go.RowKit Go Go.Lib Mach

/-- What an index points at: nil, or a tree. -/
def Rooted (w : World) (r : Value) (l F : List Nat) : Prop := (r = .pointer none ∧ l = [] ∧ F = []) ∨ ∃ h b, r = Ptr b ∧ Rep w h b l F
theorem Rooted.only {G : Nat → Prop} {w w' : World} {r : Value} {l F : List Nat} (h : Rooted w r l F) (k : Only G w w') (hG : ∀ x ∈ F, ¬ G x) : Rooted w' r l F := by
  rcases h with h | ⟨h, b, hr, hR⟩
  · exact .inl h
  · exact .inr ⟨h, b, hr, Rep.only k h b l F hR hG⟩

/-- A node as the walks read it: its block, its rows, its kids. -/
theorem Rep.open {w : World} {h b : Nat} {l F : List Nat} (hR : Rep w h b l F) : ∃ (s k : Value) (its B ks C : List Nat), Blk w b #[s, k] ∧ Arr w s its B ∧ Arr w k ks C ∧ its.length ≤ 5 ∧ (∀ i ∈ its, i ∈ l) ∧
    ((h = 0 ∧ ks = [] ∧ k = .slice none 0 0) ∨ ∃ g, h = g + 1 ∧ ks.length = its.length + 1 ∧ ∀ (i kb : Nat), ks[i]? = some kb → ∃ kl kF, Rep w g kb kl kF ∧ ∀ x ∈ kl, x ∈ l) := by
  cases h with
  | zero =>
    obtain ⟨s, B, hb, ha, hn, rfl⟩ := hR
    exact ⟨s, _, l, B, [], [], hb, ha, .inl ⟨rfl, rfl, rfl⟩, hn, fun _ h => h, .inl ⟨rfl, rfl, rfl⟩⟩
  | succ h =>
    obtain ⟨s, k, its, B, C, ks, hb, ha, hk, hn, hkl, hRk, rfl, rfl⟩ := hR
    refine ⟨s, k, its, B, ks.map (·.1), C, hb, ha, hk, hn, fun i hi => inter_mem_item its _ (by simpa using hkl) i hi, .inr ⟨h, rfl, by simpa using hkl, fun i kb hi => ?_⟩⟩
    rw [List.getElem?_map] at hi
    obtain ⟨z, hz, rfl⟩ := Option.map_eq_some_iff.1 hi
    have hm := List.mem_of_getElem? hz
    exact ⟨z.2.1, z.2.2, hRk z hm, fun x hx => inter_mem_kid its _ (by simpa using hkl) z.2.1 (List.mem_map.2 ⟨z, hm, rfl⟩) x hx⟩

set_option maxHeartbeats 4000000 in
set_option maxRecDepth 100000 in
theorem find_f (xi : Nat) (r n : Value) (l F : List Nat) (key : ByteArray) (w : World) (hx : Blk w xi #[r, n]) (hR : Rooted w r l F) (hI : Its w l) :
    Calls Tryz.prog 162 #[Ptr xi, .string key] w fun e w' => (e = .returned (.pointer none) ∨ ∃ it, e = .returned (Ptr it) ∧ it ∈ l) ∧ Below w.heap.size w w' := by
  have hc := hx.cell
  rcases hR with ⟨rfl, rfl, rfl⟩ | ⟨h, b, rfl, hR⟩
  · go_enter Tryz.func162, Tryz.ntmps162
    go_wp2
    refine wp_loop_rounds 1 ?_
    rw [rounds_succ]
    go_wp2
    go_ret
    exact ⟨.inl rfl, Below.refl _ _⟩
  · go_enter Tryz.func162, Tryz.ntmps162
    go_wp2
    clear hc
    have HI : Aside (Its w l) := hI
    clear hI
    go_loopg [5] h (fun kx s5 wr => ∃ (b : Nat) (l' F' : List Nat), s5 = Ptr b ∧ Rep wr kx b l' F' ∧ (∀ x ∈ l', x ∈ l) ∧ Below w.heap.size w wr)
    case atStart => exact ⟨b, l, F, rfl, hR, fun _ h => h, Below.refl _ _⟩
    case round =>
      obtain ⟨b, l', F', rfl, hR', hsub, hbel⟩ := hrel
      obtain ⟨s, k, its, B, ks, C, hb, ha, hk, hn, hil, hkids⟩ := hR'.open
      go_wp2_with fail
      go_at_call 163
      refine (place_f b s k its B key _ hb ha (by omega) (fun i hi => by
        obtain ⟨kk, v, hv⟩ := HI.out i (hsub i (hil i hi))
        exact ⟨kk, v, hv.keep hbel⟩)).mono ?_
      rintro e w1 ⟨⟨i, is, hi, his, rfl⟩, hb1⟩
      have hb2 := bthen hbel hb1
      have hc := (hb.keep hb1).cell
      have hA1 := ha.only (Only.of_below (F := fun _ => False) hb1) (fun _ _ h => h)
      cases is with
      | true =>
        have hlt := his rfl
        obtain ⟨ib, c, rfl, -, hibl, -, -, hics, -⟩ := hA1.some (by omega)
        have hic := hics i (Ptr its[i]) (by simp [hlt])
        go_wp2
        go_ret
        exact ⟨.inr ⟨its[i], rfl, hsub _ (hil _ (List.getElem_mem _))⟩, hb2⟩
      | false =>
        rcases hkids with ⟨rfl, rfl, rfl⟩ | ⟨g, rfl, hkl, hkid⟩
        · go_wp2
          go_ret
          exact ⟨.inl rfl, hb2⟩
        · have hK1 := hk.only (Only.of_below (F := fun _ => False) hb1) (fun _ _ h => h)
          obtain ⟨kb, c, rfl, -, hkbl, -, -, hkcs, -⟩ := hK1.some (by omega)
          have hkc := hkcs i (Ptr ks[i]) (by simp [show i < ks.length by omega])
          rw [hkl] at hc
          go_wp2
          obtain ⟨kl, kF, hRk, hks⟩ := hkid i ks[i] (List.getElem?_eq_getElem (by omega))
          go_roundg g
          case measure => omega
          case rel => exact ⟨ks[i], kl, kF, rfl, Rep.only (Only.of_below (F := fun _ => False) hb1) _ _ _ _ hRk (fun _ _ h => h), fun x hx => hsub x (hks x hx), hb2⟩
end Go.Proofs.YtbheebpfbabffaaGreat.Wat

