/- The index' Put. -/
import Derived.RegionTactic
import Derived.Deep.RegionWith
import Derived.Test.YtbheebpfbabffaaGreatVF
set_option linter.unusedSimpArgs false
set_option linter.unusedVariables false
namespace Go.Proofs.YtbheebpfbabffaaGreat.Wat
open Go.RowKit Go Go.Lib Mach

theorem add_f (xi x : Nat) (r : Value) (n : Int) (l F : List Nat) (kx : ByteArray) (vx : Value) (w : World) (hX : Blk w xi #[r, .int .i64 n]) (hR : Rooted w r l F) (hF : Nd F) (hxF : xi ∉ F) (hI : Its w l) (hxl : xi ∉ l) (hx : Blk w x #[.string kx, vx]) (hxx : x ≠ xi) :
    Calls Tryz.prog 161 #[Ptr xi, Ptr x] w (AddPost xi x l F w) := by
  rcases hR with ⟨rfl, hl, hFe⟩ | ⟨h, b, rfl, hR⟩
  · exact add_none xi x l F hl hFe n kx vx w hX hx hxx
  · exact add_some xi x h b n l F kx vx w hX hR hF hxF hI hxl hx hxx
theorem Rooted.lt {w : World} {r : Value} {l F : List Nat} (h : Rooted w r l F) : ∀ y ∈ F, y < w.heap.size := by
  rcases h with ⟨-, -, rfl⟩ | ⟨h, b, -, hR⟩
  · exact fun _ h => absurd h List.not_mem_nil
  · exact Rep.lt h b l F hR
theorem ItemM.lt {w : World} {K i mb : Nat} (h : ItemM w K i mb) : i < w.heap.size ∧ mb < w.heap.size := by
  obtain ⟨kk, n, c, xs, hb, hr, h1, h2, h3⟩ := h
  refine ⟨hb.lt, ?_⟩
  rcases hr.2 with ⟨h, -⟩ | ⟨g', cap, cur, hv, hb, hh, hn, hc, hs, ht⟩
  · cases h
  · cases hv
    exact (Array.getElem?_eq_some_iff.1 hh).1

theorem mark_info : (Tryz.prog.info? 257).map (fun i => (i.zero, i.size, i.bytes)) = some (some (.agg #[.int .i64 0, .bool false]), 2, 16) := by kernel_rfl
/-- What Put leaves. -/
def PutPost (xi K : Nat) (S : List Nat) (w : World) (e : Ending) (w' : World) : Prop := (∃ x : Int, e = .returned (.int .i64 x)) ∧ Only (fun y => y ∈ S) w w' ∧ ∃ S', Ix w' xi (K + 1) S' ∧ Grow w S S'

/-- A mark laid behind an item's: the index holds again. -/
theorem put_join (xi K : Nat) (S : List Nat) (w wc w' : World) (r : Value) (n : Int) (F : List Nat) (ms m1 m2 : List (Nat × Nat)) (it' mb g q c cap : Nat) (kk : ByteArray) (xs : List Value) (rev : Int) (d : Bool) (o : Obj) (x : Int)
    (HS : S = xi :: (F ++ (ms.map (·.1) ++ ms.map (·.2)))) (HM : ms = m1 ++ (it', mb) :: m2) (hN : Nd S) (hmK : ms.length ≤ K) (hSlt : ∀ y ∈ S, y < w.heap.size)
    (hO : Only (fun _ => False) w wc) (hX : Blk wc xi #[r, .int .i64 n]) (hR : Rooted wc r (ms.map (·.1)) F) (hI : ∀ p ∈ ms, ItemM wc K p.1 p.2)
    (hit : Blk w' it' #[.string kk, .slice (some ⟨mb, 0, none⟩) (q + 1) c])
    (hown : w'.ownsRow 0 MarkT 2 (.slice (some ⟨g, 0, none⟩) (q + 1 + 1) cap) (q + 1 + 1) (xs ++ [.int .i64 rev, .bool d]))
    (hgb : ((wc.alloc o).drew).grownBy w' (Value.ownBlock (.slice (some ⟨mb, 0, none⟩) (q + 1) c))) (hat : Value.ownBlock (.slice (some ⟨mb, 0, none⟩) (q + 1) c) = some g ∨ g = wc.heap.size + 1)
    (hq : q + 1 ≤ K) (hlen : xs.length = (q + 1) * 2) (hty : ∀ j, j < q + 1 → ∃ r d, xs[2 * j]? = some (.int .i64 r) ∧ xs[2 * j + 1]? = some (.bool d)) :
    PutPost xi K S w (.returned (.int .i64 x)) (w'.setCell ⟨it', 1, none⟩ (.slice (some ⟨g, 0, none⟩) (q + 1 + 1) cap)) := by
  have hat' : mb = g ∨ g = wc.heap.size + 1 := by
    rcases hat with h | h
    · exact .inl (by simpa [Value.ownBlock] using h)
    · exact .inr h
  have hsw := hO.size
  have hct : ∀ y, S.count y = ([xi] : List Nat).count y + F.count y + (ms.map (·.1)).count y + (ms.map (·.2)).count y := fun y => by rw [HS, ix_count]
  have hpm : (it', mb) ∈ ms := by rw [HM]; simp
  have hS1 : ∀ p ∈ ms, p.1 ∈ S := fun p hp => by
    rw [HS]
    simp only [List.mem_cons, List.mem_append]
    exact .inr (.inr (.inl (List.mem_map.2 ⟨p, hp, rfl⟩)))
  have hS2 : ∀ p ∈ ms, p.2 ∈ S := fun p hp => by
    rw [HS]
    simp only [List.mem_cons, List.mem_append]
    exact .inr (.inr (.inr (List.mem_map.2 ⟨p, hp, rfl⟩)))
  have hi1 : it' < w.heap.size := hSlt _ (hS1 _ hpm)
  have hm1 : mb < w.heap.size := hSlt _ (hS2 _ hpm)
  have hcm : ∀ y, S.count y = ([xi] : List Nat).count y + F.count y + ((m1.map (·.1)).count y + ([it'] : List Nat).count y + (m2.map (·.1)).count y) + ((m1.map (·.2)).count y + ([mb] : List Nat).count y + (m2.map (·.2)).count y) := fun y => by
    rw [hct, HM]
    simp only [List.map_append, List.map_cons, List.count_append, List.count_cons, List.count_nil]
    omega
  have one : ∀ a : Nat, ([a] : List Nat).count a = 1 := fun a => by simp
  have hne : it' ≠ mb := fun e => by
    have := hcm it'; have := hN it'; have := one it'
    rw [← e] at *
    omega
  have hOw : Only (fun y => y = mb ∨ y = it') wc (w'.setCell ⟨it', 1, none⟩ (.slice (some ⟨g, 0, none⟩) (q + 1 + 1) cap)) := by
    have h1 : Only (fun y => y = mb ∨ y = it') wc w' := by
      have h0 : Only (fun y => y = mb ∨ y = it') wc (wc.alloc o).drew := ((Only.refl _ _).alloc _).drew
      refine h0.trans (b := (wc.alloc o).drew) (G := fun y => y = mb) ⟨hgb.os, hgb.tape, hgb.output, hgb.size, fun y hy hyn => hgb.block y hy (fun h => hyn ?_)⟩ (fun y _ h => .inl h)
      simpa [Value.ownBlock] using h
    exact h1.set _ (fun _ => .inr rfl) _
  have hO2 : Only (fun y => y ∈ S) w (w'.setCell ⟨it', 1, none⟩ (.slice (some ⟨g, 0, none⟩) (q + 1 + 1) cap)) := by
    refine (⟨hO.os, hO.tape, hO.output, hO.size, fun y hy _ => hO.block y hy (fun h => h)⟩ : Only (fun y => y ∈ S) w wc).trans hOw (fun y _ h => ?_)
    rcases h with rfl | rfl
    · exact hS2 _ hpm
    · exact hS1 _ hpm
  have hgi : g ≠ it' := by
    rcases hat' with rfl | h
    · exact fun h => hne h.symm
    · omega
  have hnew : ItemM (w'.setCell ⟨it', 1, none⟩ (.slice (some ⟨g, 0, none⟩) (q + 1 + 1) cap)) (K + 1) it' g := by
    refine ⟨kk, q + 1 + 1, cap, xs ++ [.int .i64 rev, .bool d], ?_, row_only hown ((Only.refl (fun y => y = it') w').set ⟨it', 1, none⟩ (fun _ => rfl) _) hgi, by omega, by omega, fun j hj => ?_⟩
    · have := hit.setCell 1 (.slice (some ⟨g, 0, none⟩) (q + 1 + 1) cap)
      simpa using this
    · by_cases h : j < q + 1
      · obtain ⟨r, d, h1, h2⟩ := hty j h
        exact ⟨r, d, by rw [List.getElem?_append_left (by omega)]; exact h1, by rw [List.getElem?_append_left (by omega)]; exact h2⟩
      · obtain rfl : j = q + 1 := by omega
        exact ⟨rev, d, by rw [List.getElem?_append_right (by omega), show 2 * (q + 1) - xs.length = 0 by omega]; rfl, by rw [List.getElem?_append_right (by omega), show 2 * (q + 1) + 1 - xs.length = 1 by omega]; rfl⟩
  have hcn : ∀ y, (xi :: (F ++ ((m1 ++ (it', g) :: m2).map (·.1) ++ (m1 ++ (it', g) :: m2).map (·.2)))).count y = ([xi] : List Nat).count y + F.count y + ((m1.map (·.1)).count y + ([it'] : List Nat).count y + (m2.map (·.1)).count y) + ((m1.map (·.2)).count y + ([g] : List Nat).count y + (m2.map (·.2)).count y) := fun y => by
    rw [ix_count]
    simp only [List.map_append, List.map_cons, List.count_append, List.count_cons, List.count_nil]
    omega
  have hGr : Grow w S (xi :: (F ++ ((m1 ++ (it', g) :: m2).map (·.1) ++ (m1 ++ (it', g) :: m2).map (·.2)))) := by
    rcases hat' with rfl | hg
    · constructor
      · intro a _
        rw [hcn, hcm]
        exact Nat.le_refl _
      · intro a _
        rw [hcn, ← hcm]
        exact hN a
    · constructor
      · intro a ha
        rw [hcn, hcm]
        have := single_zero (k := g) (a := a) (by omega)
        omega
      · intro a ha
        rw [hcn]
        have hz := hcm a
        rw [count_out (fun hm => by have := hSlt a hm; omega)] at hz
        have := single_one g a
        omega
  have hout : ∀ y, y ∈ S → y ≠ xi → True := fun _ _ _ => trivial
  refine ⟨⟨_, rfl⟩, hO2, _, ⟨r, n, F, m1 ++ (it', g) :: m2, hX.only hOw ?_, ?_, ?_, ?_, rfl, hGr.nd hN⟩, hGr⟩
  · rintro (h | h)
    · have h1 := hcm mb; have := hN mb; have := one mb
      rw [← h] at *
      have := one xi
      omega
    · have h1 := hcm it'; have := hN it'; have := one it'
      rw [← h] at *
      have := one xi
      omega
  · have e : (m1 ++ (it', g) :: m2).map (·.1) = ms.map (·.1) := by rw [HM]; simp
    rw [e]
    refine hR.only hOw (fun y hy => ?_)
    have hc := count_in hy
    rintro (rfl | rfl)
    · have h1 := hcm y; have := hN y; have := one y
      omega
    · have h1 := hcm y; have := hN y; have := one y
      omega
  · intro p hp
    simp only [List.mem_append, List.mem_cons] at hp
    have hold : ∀ p, p ∈ ms → (p ∈ m1 ∨ p ∈ m2) → ItemM (w'.setCell ⟨it', 1, none⟩ (.slice (some ⟨g, 0, none⟩) (q + 1 + 1) cap)) (K + 1) p.1 p.2 := fun p hp hpp => by
      have c1 : ∀ y, y = p.1 ∨ y = p.2 → 1 ≤ (m1.map (·.1)).count y + (m2.map (·.1)).count y + (m1.map (·.2)).count y + (m2.map (·.2)).count y := fun y hy => by
        rcases hpp with h | h <;> rcases hy with rfl | rfl
        · have := count_in (List.mem_map.2 ⟨p, h, rfl⟩ : p.1 ∈ m1.map (·.1)); omega
        · have := count_in (List.mem_map.2 ⟨p, h, rfl⟩ : p.2 ∈ m1.map (·.2)); omega
        · have := count_in (List.mem_map.2 ⟨p, h, rfl⟩ : p.1 ∈ m2.map (·.1)); omega
        · have := count_in (List.mem_map.2 ⟨p, h, rfl⟩ : p.2 ∈ m2.map (·.2)); omega
      have hy : ∀ y, y = p.1 ∨ y = p.2 → ¬ (y = mb ∨ y = it') := fun y hy => by
        have := c1 y hy
        have := hcm y
        have := hN y
        have := one y
        rintro (h | h)
        · have : ([mb] : List Nat).count y = 1 := by rw [h]; exact one mb
          omega
        · have : ([it'] : List Nat).count y = 1 := by rw [h]; exact one it'
          omega
      exact ((hI p hp).only hOw (hy _ (.inl rfl)) (hy _ (.inr rfl))).mono (by omega)
    rcases hp with hp | rfl | hp
    · exact hold p (by rw [HM]; simp [hp]) (.inl hp)
    · exact hnew
    · exact hold p (by rw [HM]; simp [hp]) (.inr hp)
  · have : ms.length = m1.length + m2.length + 1 := by rw [HM]; simp; omega
    simp only [List.length_append, List.length_cons]
    omega

set_option maxHeartbeats 4000000 in
set_option maxRecDepth 100000 in
theorem put_f (xi K : Nat) (S : List Nat) (key : ByteArray) (rev : Int) (del : Bool) (w : World) (h : Ix w xi K S) (hk : (key.toList == ([] : List UInt8)) = false) (hk2 : key.size ≤ 100) (hrev : 1 ≤ rev) (hKb : K ≤ 1000000) :
    Calls Tryz.prog 135 #[Ptr xi, .string key, .agg #[.int .i64 rev, .bool del]] w (PutPost xi K S w) := by
  obtain ⟨r, n, F, ms, hx, hR, hI, hmK, hS, hN⟩ := h
  have HS : Aside _ := hS
  clear hS
  go_enter Tryz.func135, Tryz.ntmps135
  go_wp2_with fail
  go_at_call 162
  obtain ⟨wa, hwa⟩ : ∃ wa, wa = w.alloc (.cells #[.int .i64 rev, .bool del] 257) := ⟨_, rfl⟩
  have hP : Blk wa w.heap.size #[.int .i64 rev, .bool del] := by rw [hwa]; exact Blk.new _ _ _
  have hOa : Only (fun _ => False) w wa := by rw [hwa]; exact (Only.refl _ _).alloc _
  rw [← hwa] at *
  clear hwa
  have hXa := hx.only hOa (fun h => h)
  have hRa := hR.only hOa (fun _ _ h => h)
  have hIa : ∀ p ∈ ms, ItemM wa K p.1 p.2 := fun p hp => (hI p hp).only hOa (fun h => h) (fun h => h)
  refine (find_f xi r _ _ F key wa hXa hRa (Ix.its hIa)).mono ?_
  rintro e w1 ⟨he, hb1⟩
  have hO1 : Only (fun _ => False) w w1 := hOa.then hb1
  have hX1 := hXa.keep hb1
  have hR1 := hRa.only (Only.of_below (F := fun _ => False) hb1) (fun _ _ h => h)
  have hI1 : ∀ p ∈ ms, ItemM w1 K p.1 p.2 := fun p hp => (hIa p hp).only (Only.of_below (F := fun _ => False) hb1) (fun h => h) (fun h => h)
  have hP1 := hP.keep hb1
  have hpc := hP1.cell
  have hsz : w.heap.size < w1.heap.size := hP1.lt
  have hNul : PutPost xi K S w (.returned (.int .i64 2)) w1 := ⟨⟨_, rfl⟩, ⟨hO1.os, hO1.tape, hO1.output, hO1.size, fun y hy _ => hO1.block y hy (fun h => h)⟩, S, ⟨r, n, F, ms, hX1, hR1, fun p hp => (hI1 p hp).mono (by omega), by omega, HS.out, hN⟩, fun _ _ => Nat.le_refl _, fun a _ => hN a⟩
  rcases he with rfl | ⟨it, rfl, hit⟩
  · obtain ⟨wb, hwb⟩ : ∃ wb, wb = (w1.alloc (.cells #[.int .i64 0, .bool true] 257)) := ⟨_, rfl⟩
    have hPb : Blk wb w.heap.size #[.int .i64 rev, .bool del] := by rw [hwb]; exact hP1.alloc _
    have hLb : Blk wb w1.heap.size #[.int .i64 0, .bool true] := by rw [hwb]; exact Blk.new _ _ _
    have hlc := hLb.cell
    have hpb := hPb.cell
    rw [hwb] at hlc hpb
    have hSlt : ∀ y ∈ S, y < w.heap.size := fun y hy => by
      rw [HS.out] at hy
      simp only [List.mem_cons, List.mem_append, List.mem_map] at hy
      rcases hy with rfl | hy | ⟨p, hp, rfl⟩ | ⟨p, hp, rfl⟩
      · exact hx.lt
      · exact hR.lt y hy
      · exact (hI p hp).lt.1
      · exact (hI p hp).lt.2
    have hct : ∀ y, S.count y = ([xi] : List Nat).count y + F.count y + (ms.map (·.1)).count y + (ms.map (·.2)).count y := fun y => by rw [HS.out, ix_count]
    have hxi : xi < w.heap.size := hx.lt
    have hxiF : xi ∉ F := fun hm => by
      have := hct xi
      have := hN xi
      have := count_in hm
      have : ([xi] : List Nat).count xi = 1 := by simp
      omega
    have hxil : xi ∉ ms.map (·.1) := fun hm => by
      have := hct xi
      have := hN xi
      have := count_in hm
      have : ([xi] : List Nat).count xi = 1 := by simp
      omega
    have hNF : Nd F := fun a => by have := hct a; have := hN a; omega
    cases del with
    | true =>
      go_wp2
      go_ret
      have hO2 : Only (fun _ => False) w1 (w1.alloc (.cells #[.int .i64 0, .bool true] 257)) := (Only.refl _ _).alloc _
      have hO3 := hO1.trans hO2 (fun _ _ h => h)
      exact ⟨⟨_, rfl⟩, ⟨hO3.os, hO3.tape, hO3.output, hO3.size, fun y hy _ => hO3.block y hy (fun h => h)⟩, S, ⟨r, n, F, ms, hX1.alloc _, hR1.only hO2 (fun _ _ h => h), fun p hp => ((hI1 p hp).only hO2 (fun h => h) (fun h => h)).mono (by omega), by omega, HS.out, hN⟩, fun _ _ => Nat.le_refl _, fun a _ => hN a⟩
    | false =>
      go_wp2_with fail
      obtain ⟨w3, hw3⟩ : ∃ w3, w3 = ((w1.alloc (.cells #[.int .i64 0, .bool true] 257)).alloc (.cells #[.int .i64 rev, .bool false] 257)).alloc (.cells #[.string key, .slice (some ⟨w1.heap.size + 1, 0, none⟩) 1 1] 264) := ⟨_, rfl⟩
      have hO2 : Only (fun _ => False) w1 w3 := by rw [hw3]; exact (((Only.refl _ _).alloc _).alloc _).alloc _
      have hit3 : Blk w3 (w1.heap.size + 2) #[.string key, .slice (some ⟨w1.heap.size + 1, 0, none⟩) 1 1] := by rw [hw3]; exact Blk.newAt (by simp)
      have hmk3 : w3.heap[w1.heap.size + 1]? = some (.cells #[.int .i64 rev, .bool false] MarkT (0, 0)) := by
        rw [hw3]
        simp only [alloc_get, asz]
        rw [if_neg (by omega), if_pos trivial]
      have hs3 : w3.heap.size = w1.heap.size + 3 := by rw [hw3]; simp
      rw [← hw3]
      clear hw3 hpc hpb hlc
      go_at_call 161
      refine (add_f xi (w1.heap.size + 2) r n _ F key _ w3 (hX1.only hO2 (fun h => h)) (hR1.only hO2 (fun _ _ h => h)) hNF hxiF (Ix.its (fun p hp => (hI1 p hp).only hO2 (fun h => h) (fun h => h))) hxil hit3 (by omega)).mono ?_
      rintro e w4 ⟨rfl, hO4, r', n', l1, l2, F', hl12, hX4, hR4, hG⟩
      go_wp2
      go_ret
      obtain ⟨m1, m2, hms, e1, e2⟩ := List.map_eq_append_iff.1 hl12
      have hO13 := hO1.trans hO2 (fun _ _ h => h)
      have hO5 : Only (fun y => y ∈ S) w w4 := (⟨hO13.os, hO13.tape, hO13.output, hO13.size, fun y hy _ => hO13.block y hy (fun h => h)⟩ : Only (fun y => y ∈ S) w w3).trans hO4 (fun y _ hy => by
        rw [HS.out]
        simp only [List.mem_cons, List.mem_append]
        rcases hy with hy | hy
        · exact .inl hy
        · exact .inr (.inl hy))
      have hout : ∀ p ∈ ms, ¬ (p.1 = xi ∨ p.1 ∈ F) ∧ ¬ (p.2 = xi ∨ p.2 ∈ F) := fun p hp => by
        have c1 : 1 ≤ (ms.map (·.1)).count p.1 := count_in (List.mem_map.2 ⟨p, hp, rfl⟩)
        have c2 : 1 ≤ (ms.map (·.2)).count p.2 := count_in (List.mem_map.2 ⟨p, hp, rfl⟩)
        have h1 := hct p.1
        have h2 := hct p.2
        have h3 := hN p.1
        have h4 := hN p.2
        refine ⟨fun hm => ?_, fun hm => ?_⟩
        · rcases hm with hm | hm
          · rw [hm] at h1 h3 c1
            have : ([xi] : List Nat).count xi = 1 := by simp
            omega
          · have := count_in hm; omega
        · rcases hm with hm | hm
          · rw [hm] at h2 h4 c2
            have : ([xi] : List Nat).count xi = 1 := by simp
            omega
          · have := count_in hm; omega
      have hIn : ItemM w4 (K + 1) (w1.heap.size + 2) (w1.heap.size + 1) := by
        refine ItemM.only ⟨key, 1, 1, [.int .i64 rev, .bool false], hit3, ⟨rfl, .inr ⟨_, 1, _, rfl, Nat.zero_le _, hmk3, Nat.le_refl _, by decide, rfl, rfl⟩⟩, Nat.le_refl _, by omega, fun j hj => ?_⟩ hO4 ?_ ?_
        · obtain rfl : j = 0 := by omega
          exact ⟨rev, false, rfl, rfl⟩
        · rintro (h | h)
          · omega
          · have := hR.lt _ h; omega
        · rintro (h | h)
          · omega
          · have := hR.lt _ h; omega
      have hcn : ∀ y, (xi :: (F' ++ ((m1 ++ (w1.heap.size + 2, w1.heap.size + 1) :: m2).map (·.1) ++ (m1 ++ (w1.heap.size + 2, w1.heap.size + 1) :: m2).map (·.2)))).count y = ([xi] : List Nat).count y + F'.count y + (ms.map (·.1)).count y + (ms.map (·.2)).count y + ([w1.heap.size + 2] : List Nat).count y + ([w1.heap.size + 1] : List Nat).count y := fun y => by
        rw [ix_count, hms]
        simp only [List.map_append, List.map_cons, List.count_append, List.count_cons, List.count_nil]
        omega
      have hGr : Grow w S (xi :: (F' ++ ((m1 ++ (w1.heap.size + 2, w1.heap.size + 1) :: m2).map (·.1) ++ (m1 ++ (w1.heap.size + 2, w1.heap.size + 1) :: m2).map (·.2)))) := by
        constructor
        · intro a ha
          rw [hcn, hct]
          have := hG.1 a (by omega)
          have := single_zero (k := w1.heap.size + 2) (a := a) (by omega)
          have := single_zero (k := w1.heap.size + 1) (a := a) (by omega)
          omega
        · intro a ha
          rw [hcn]
          have hz := hct a
          rw [count_out (fun hm => by have := hSlt a hm; omega)] at hz
          by_cases h9 : a < w3.heap.size
          · have := hG.1 a h9
            have := single_one (w1.heap.size + 2) a
            by_cases c1 : w1.heap.size + 1 = a
            · have := single_zero (k := w1.heap.size + 2) (a := a) (by omega)
              have := single_one (w1.heap.size + 1) a
              omega
            · have := single_zero c1
              omega
          · have := hG.2 a (by omega)
            have := single_zero (k := w1.heap.size + 2) (a := a) (by omega)
            have := single_zero (k := w1.heap.size + 1) (a := a) (by omega)
            omega
      refine ⟨⟨_, rfl⟩, hO5, _, ⟨r', n', F', m1 ++ (w1.heap.size + 2, w1.heap.size + 1) :: m2, hX4, ?_, ?_, ?_, rfl, ?_⟩, ?_⟩
      · rw [List.map_append, List.map_cons, e1, e2]
        exact hR4
      · intro p hp
        simp only [List.mem_append, List.mem_cons] at hp
        have hold : ∀ q ∈ ms, ItemM w4 (K + 1) q.1 q.2 := fun q hq => ((((hI1 q hq).only hO2 (fun h => h) (fun h => h)).only hO4 (hout q hq).1 (hout q hq).2).mono (by omega))
        rcases hp with hp | rfl | hp
        · exact hold p (by rw [hms]; simp [hp])
        · exact hIn
        · exact hold p (by rw [hms]; simp [hp])
      · have : ms.length = m1.length + m2.length := by rw [hms]; simp
        simp only [List.length_append, List.length_cons]
        omega
      · exact hGr.nd hN
      · exact hGr
  · obtain ⟨⟨it', mb⟩, hpm, rfl⟩ := List.mem_map.1 hit
    simp only at *
    obtain ⟨m1, m2, hms⟩ := List.append_of_mem hpm
    have HM : Aside _ := hms
    clear hms
    have hct' : ∀ y, S.count y = ([xi] : List Nat).count y + F.count y + (ms.map (·.1)).count y + (ms.map (·.2)).count y := fun y => by rw [HS.out, ix_count]
    obtain ⟨kk, nn, c, xs, hib, hrow, hn1, hn2, hty⟩ := hI1 (it', mb) hpm
    obtain ⟨q, rfl⟩ : ∃ q, nn = q + 1 := ⟨nn - 1, by omega⟩
    obtain ⟨lr, ld, hx0, hx1⟩ := hty q (by omega)
    obtain ⟨cur, hcur, hqc, hcm, hcs, htk⟩ : ∃ cur, w1.heap[mb]? = some (.cells cur MarkT (0, 0)) ∧ q + 1 ≤ c ∧ c ≤ maxLen ∧ cur.size = c * 2 ∧ cur.toList.take ((q + 1) * 2) = xs := by
      rcases hrow.2 with ⟨h, -⟩ | ⟨g', cap, cur, hv, hb, hh, hn, hc, hs, ht⟩
      · cases h
      · cases hv
        exact ⟨cur, hh, hn, hc, hs, ht⟩
    have hcell : ∀ j v, xs[j]? = some v → w1.cell? ⟨mb, j, none⟩ = some v := fun j v hj => by
      rw [← htk, List.getElem?_take] at hj
      split at hj
      · simp [World.cell?, hcur]
        simpa using hj
      · cases hj
    have hl0 := hcell _ _ hx0
    have hl1 := hcell _ _ hx1
    rw [show 2 * q = q * 2 by omega] at hl0 hl1
    have hmbl : mb < w1.heap.size := (Array.getElem?_eq_some_iff.1 hcur).1
    obtain ⟨wb, hwb⟩ : ∃ wb, wb = (w1.alloc (.cells #[.int .i64 0, .bool true] 257)) := ⟨_, rfl⟩
    have hOb : Only (fun _ => False) w1 wb := by rw [hwb]; exact (Only.refl _ _).alloc _
    have hLb : Blk wb w1.heap.size #[.int .i64 0, .bool true] := by rw [hwb]; exact Blk.new _ _ _
    have d0 : wb.drew.cell? ⟨mb, q * 2, none⟩ = some (.int .i64 lr) := (World.cell?_of_block (w := w1) (hOb.block mb hmbl (fun h => h))).trans hl0
    have d1 : wb.drew.cell? ⟨mb, q * 2 + 1, none⟩ = some (.bool ld) := (World.cell?_of_block (w := w1) (hOb.block mb hmbl (fun h => h))).trans hl1
    have d2 : ∀ o, wb.drew.cell? ⟨it', o, none⟩ = _ := (hib.only hOb (fun h => h)).cell
    have d3 : ∀ o, wb.drew.cell? ⟨w1.heap.size, o, none⟩ = _ := hLb.cell
    have d4 : ∀ o, wb.drew.frozen? ⟨w1.heap.size, o, none⟩ = false := hLb.frz
    rw [hwb] at d0 d1 d2 d3 d4
    go_wp2_with fail
    go_region
    obtain ⟨wc, hwc⟩ : ∃ wc, wc = (w1.alloc (.cells #[.int .i64 lr, .bool ld] 257)).drew := ⟨_, rfl⟩
    have hOc : Only (fun _ => False) w1 wc := by rw [hwc]; exact ((Only.refl _ _).alloc _).drew
    have hLc : Blk wc w1.heap.size #[.int .i64 lr, .bool ld] := by rw [hwc]; exact Blk.new _ _ _
    have hcs : w1.heap.size < wc.heap.size := hLc.lt
    rw [← hwc]
    clear d0 d1 d2 d3 d4 hwb hLb hOb hwc hpc hl0 hl1
    clear wb
    have hPc := hP1.only hOc (fun h => h)
    have hXc := hX1.only hOc (fun h => h)
    have hRc := hR1.only hOc (fun _ _ h => h)
    have hIc : ∀ p ∈ ms, ItemM wc K p.1 p.2 := fun p hp => (hI1 p hp).only hOc (fun h => h) (fun h => h)
    have hOwc := hO1.trans hOc (fun _ _ h => h)
    have hNc : ∀ x : Int, PutPost xi K S w (.returned (.int .i64 x)) wc := fun x => ⟨⟨_, rfl⟩, ⟨hOwc.os, hOwc.tape, hOwc.output, hOwc.size, fun y hy _ => hOwc.block y hy (fun h => h)⟩, S, ⟨r, n, F, ms, hXc, hRc, fun p hp => (hIc p hp).mono (by omega), by omega, HS.out, hN⟩, fun _ _ => Nat.le_refl _, fun a _ => hN a⟩
    have hlc := hLc.cell
    have hpc := hPc.cell
    by_cases hlr : rev ≤ lr
    · go_wp2
      go_ret
      exact hNc _
    · by_cases hd : del = true ∧ ld = true
      · obtain ⟨rfl, rfl⟩ := hd
        go_wp2
        go_ret
        exact hNc _
      · have hic := (hib.only hOc (fun h => h)).cell
        have hne : it' ≠ mb := fun e => by
          have c1 : 1 ≤ (ms.map (·.1)).count it' := count_in (List.mem_map.2 ⟨(it', mb), hpm, rfl⟩)
          have c2 : 1 ≤ (ms.map (·.2)).count mb := count_in (List.mem_map.2 ⟨(it', mb), hpm, rfl⟩)
          have h1 := hct' it'
          have h3 := hN it'
          rw [← e] at c2
          omega
        have hkI : ∀ (o : Obj) (w' : World), ((wc.alloc o).drew).grownBy w' (Value.ownBlock (.slice (some ⟨mb, 0, none⟩) (q + 1) c)) → Blk w' it' #[.string kk, .slice (some ⟨mb, 0, none⟩) (q + 1) c] := fun o w' hg => by
          have hb2 := ((hib.only hOc (fun h => h)).alloc o).drew
          obtain ⟨t, hb3⟩ := hb2
          exact ⟨t, (hg.block it' (Array.getElem?_eq_some_iff.1 hb3).1 (by simp [Value.ownBlock, hne])).trans hb3⟩
        have hil : it' < wc.heap.size := (hib.only hOc (fun h => h)).lt
        have hai : ∀ (x : Obj) (o : Nat), ((wc.alloc x).drew).cell? ⟨it', o, none⟩ = (#[.string kk, .slice (some ⟨mb, 0, none⟩) (q + 1) c] : Array Value)[o]? := fun x o => (((hib.only hOc (fun h => h)).alloc x).drew).cell o
        have hSlt2 : ∀ y ∈ S, y < w.heap.size := fun y hy => by
          rw [HS.out] at hy
          simp only [List.mem_cons, List.mem_append, List.mem_map] at hy
          rcases hy with rfl | hy | ⟨p, hp, rfl⟩ | ⟨p, hp, rfl⟩
          · exact hx.lt
          · exact hR.lt y hy
          · exact (hI p hp).lt.1
          · exact (hI p hp).lt.2
        have hlen2 : xs.length = (q + 1) * 2 := hrow.1
        cases del <;> cases ld
        · have hrc : ∀ o : Obj, ((wc.alloc o).drew).ownsRow 0 MarkT 2 (.slice (some ⟨mb, 0, none⟩) (q + 1) c) (q + 1) xs := fun o => row_only hrow ((hOc.alloc o).drew) (fun h => h)
          have hH : ∀ o : Obj, ((wc.alloc o).drew).heap.size = wc.heap.size + 1 := fun o => by show (wc.alloc o).heap.size = _; simp
          have mixed : Tryz.prog.follows .mixedOrders = true := by kernel_rfl
          have hmx : q + 1 + 1 ≤ maxLen := by unfold maxLen; omega
          have hkk : (q + 1 + 1) * 16 ≤ 140737488355328 := by omega
          have dp : ∀ o, wc.drew.cell? ⟨w.heap.size, o, none⟩ = _ := hpc
          have di : ∀ o, wc.drew.cell? ⟨it', o, none⟩ = _ := hic
          obtain ⟨i0, hi0, hz0, hz1, hz2⟩ := info_parts mark_info
          go_wp2_with fail
          go_region_law_o (refine step_append_lies _ rfl _ _ 246 rfl 0 MarkT i0 (.agg #[.int .i64 0, .bool false]) 2 16 Tryz.underlying246 hi0 hz0 hz1 hz2 rfl (by decide) _ (q + 1) xs rfl (hrc _) ⟨wc.heap.size, 0, none⟩ 1 1 [.int .i64 rev, .bool false] rfl rfl (fun j u hj => by rw [Addr.add_lit, Nat.zero_add]; exact (alloc_new wc _ _ j).trans (by simpa using hj)) (by intro u hu; simp at hu; rcases hu with rfl | rfl <;> rfl) (by decide) hmx hkk (Nat.zero_le _) (wc.heap.size + 1) (hH _) (fun g cap w' hown' hgb hat hglt => ?_); have hit' := hkI _ _ hgb; have hi1 := hit'.cell; have hf1 := hit'.frz)
          all_goals (go_wp2; go_ret; exact put_join xi K S w wc _ r n F ms m1 m2 it' mb g q c cap kk xs rev false _ _ HS.out HM.out hN hmK hSlt2 hOwc hXc hRc hIc hit' hown' hgb hat hn2 hlen2 hty)
        · have hrc : ∀ o : Obj, ((wc.alloc o).drew).ownsRow 0 MarkT 2 (.slice (some ⟨mb, 0, none⟩) (q + 1) c) (q + 1) xs := fun o => row_only hrow ((hOc.alloc o).drew) (fun h => h)
          have hH : ∀ o : Obj, ((wc.alloc o).drew).heap.size = wc.heap.size + 1 := fun o => by show (wc.alloc o).heap.size = _; simp
          have mixed : Tryz.prog.follows .mixedOrders = true := by kernel_rfl
          have hmx : q + 1 + 1 ≤ maxLen := by unfold maxLen; omega
          have hkk : (q + 1 + 1) * 16 ≤ 140737488355328 := by omega
          have dp : ∀ o, wc.drew.cell? ⟨w.heap.size, o, none⟩ = _ := hpc
          have di : ∀ o, wc.drew.cell? ⟨it', o, none⟩ = _ := hic
          obtain ⟨i0, hi0, hz0, hz1, hz2⟩ := info_parts mark_info
          go_wp2_with fail
          go_region_law_o (refine step_append_lies _ rfl _ _ 246 rfl 0 MarkT i0 (.agg #[.int .i64 0, .bool false]) 2 16 Tryz.underlying246 hi0 hz0 hz1 hz2 rfl (by decide) _ (q + 1) xs rfl (hrc _) ⟨wc.heap.size, 0, none⟩ 1 1 [.int .i64 rev, .bool false] rfl rfl (fun j u hj => by rw [Addr.add_lit, Nat.zero_add]; exact (alloc_new wc _ _ j).trans (by simpa using hj)) (by intro u hu; simp at hu; rcases hu with rfl | rfl <;> rfl) (by decide) hmx hkk (Nat.zero_le _) (wc.heap.size + 1) (hH _) (fun g cap w' hown' hgb hat hglt => ?_); have hit' := hkI _ _ hgb; have hi1 := hit'.cell; have hf1 := hit'.frz)
          all_goals (go_wp2; go_ret; exact put_join xi K S w wc _ r n F ms m1 m2 it' mb g q c cap kk xs rev false _ _ HS.out HM.out hN hmK hSlt2 hOwc hXc hRc hIc hit' hown' hgb hat hn2 hlen2 hty)
        · have hrc : ∀ o : Obj, ((wc.alloc o).drew).ownsRow 0 MarkT 2 (.slice (some ⟨mb, 0, none⟩) (q + 1) c) (q + 1) xs := fun o => row_only hrow ((hOc.alloc o).drew) (fun h => h)
          have hH : ∀ o : Obj, ((wc.alloc o).drew).heap.size = wc.heap.size + 1 := fun o => by show (wc.alloc o).heap.size = _; simp
          have mixed : Tryz.prog.follows .mixedOrders = true := by kernel_rfl
          have hmx : q + 1 + 1 ≤ maxLen := by unfold maxLen; omega
          have hkk : (q + 1 + 1) * 16 ≤ 140737488355328 := by omega
          have dp : ∀ o, wc.drew.cell? ⟨w.heap.size, o, none⟩ = _ := hpc
          have di : ∀ o, wc.drew.cell? ⟨it', o, none⟩ = _ := hic
          obtain ⟨i0, hi0, hz0, hz1, hz2⟩ := info_parts mark_info
          go_wp2_with fail
          go_region_law_o (refine step_append_lies _ rfl _ _ 246 rfl 0 MarkT i0 (.agg #[.int .i64 0, .bool false]) 2 16 Tryz.underlying246 hi0 hz0 hz1 hz2 rfl (by decide) _ (q + 1) xs rfl (hrc _) ⟨wc.heap.size, 0, none⟩ 1 1 [.int .i64 rev, .bool true] rfl rfl (fun j u hj => by rw [Addr.add_lit, Nat.zero_add]; exact (alloc_new wc _ _ j).trans (by simpa using hj)) (by intro u hu; simp at hu; rcases hu with rfl | rfl <;> rfl) (by decide) hmx hkk (Nat.zero_le _) (wc.heap.size + 1) (hH _) (fun g cap w' hown' hgb hat hglt => ?_); have hit' := hkI _ _ hgb; have hi1 := hit'.cell; have hf1 := hit'.frz)
          all_goals (go_wp2; go_ret; exact put_join xi K S w wc _ r n F ms m1 m2 it' mb g q c cap kk xs rev true _ _ HS.out HM.out hN hmK hSlt2 hOwc hXc hRc hIc hit' hown' hgb hat hn2 hlen2 hty)
        · exact absurd ⟨rfl, rfl⟩ hd
end Go.Proofs.YtbheebpfbabffaaGreat.Wat

