/- Joined: a part of the proof of TopWatches. -/
import Derived.Deep.AppendLies
import Derived.Test.YtbheebpfbabffaaGreatVE
set_option linter.unusedSimpArgs false
set_option linter.unusedVariables false
namespace Go.Proofs.YtbheebpfbabffaaGreat.Wat
open Go.RowKit Go Go.Lib Mach

/-- What add leaves. -/
def AddPost (xi x : Nat) (l F : List Nat) (w : World) (e : Ending) (w' : World) : Prop := e = .returned (.tuple #[]) ∧ Only (fun y => y = xi ∨ y ∈ F) w w' ∧
  ∃ r' n' l1 l2 F', l = l1 ++ l2 ∧ Blk w' xi #[r', .int .i64 n'] ∧ Rooted w' r' (l1 ++ x :: l2) F' ∧ Grow w F F'

theorem grow_root {w w1 : World} {F Fa Fb : List Nat} (hG : Grow w F (Fa ++ Fb)) (hw : w.heap.size ≤ w1.heap.size) (hlt : ∀ y ∈ Fa ++ Fb, y < w1.heap.size) : Grow w F ((w1.heap.size + 2) :: ([w1.heap.size] ++ ([w1.heap.size + 1] ++ (Fa ++ Fb)))) := by
  constructor
  · intro a ha
    rw [node_count]
    have := hG.1 a ha
    have := single_zero (k := w1.heap.size + 2) (a := a) (by omega)
    have := single_zero (k := w1.heap.size + 1) (a := a) (by omega)
    have := single_zero (k := w1.heap.size) (a := a) (by omega)
    omega
  · intro a ha
    rw [node_count]
    have := hG.2 a ha
    by_cases h9 : a < w1.heap.size
    · have := single_zero (k := w1.heap.size + 2) (a := a) (by omega)
      have := single_zero (k := w1.heap.size + 1) (a := a) (by omega)
      have := single_zero (k := w1.heap.size) (a := a) (by omega)
      omega
    · have g6 : (Fa ++ Fb).count a = 0 := count_out (fun hm => by have := hlt a hm; omega)
      have := single_one (w1.heap.size + 2) a
      have := single_one (w1.heap.size + 1) a
      have := single_one (w1.heap.size) a
      by_cases c1 : w1.heap.size = a
      · have := single_zero (k := w1.heap.size + 2) (a := a) (by omega)
        have := single_zero (k := w1.heap.size + 1) (a := a) (by omega)
        omega
      · have := single_zero c1
        by_cases c2 : w1.heap.size + 1 = a
        · have := single_zero (k := w1.heap.size + 2) (a := a) (by omega)
          omega
        · have := single_zero c2
          omega
theorem Grow.trans {w w1 : World} {F F1 F2 : List Nat} (h : Grow w F F1) (hw : w.heap.size ≤ w1.heap.size) (k : Grow w1 F1 F2) : Grow w F F2 := by
  constructor
  · intro a ha
    exact Nat.le_trans (k.1 a (by omega)) (h.1 a ha)
  · intro a ha
    by_cases h9 : a < w1.heap.size
    · exact Nat.le_trans (k.1 a h9) (h.2 a ha)
    · exact k.2 a (by omega)

set_option maxHeartbeats 4000000 in
set_option maxRecDepth 100000 in
theorem add_some (xi x h b : Nat) (n : Int) (l F : List Nat) (kx : ByteArray) (vx : Value) (w : World) (hX : Blk w xi #[Ptr b, .int .i64 n]) (hR : Rep w h b l F) (hF : Nd F) (hxF : xi ∉ F) (hI : Its w l) (hxl : xi ∉ l) (hx : Blk w x #[.string kx, vx]) (hxx : x ≠ xi) :
    Calls Tryz.prog 161 #[Ptr xi, Ptr x] w (AddPost xi x l F w) := by
  have hc := hX.cell
  have hf := hX.frz
  have hl := hX.lt
  have hO0 : Only (fun y => y = xi) w (w.setCell ⟨xi, 1, none⟩ (.int .i64 (wrap64 (n + 1)))) := (Only.refl (fun y => y = xi) w).set ⟨xi, 1, none⟩ (fun _ => rfl) _
  have hX1 := hX.setCell 1 (.int .i64 (wrap64 (n + 1)))
  simp only [List.setIfInBounds_toArray, List.set_cons_succ, List.set_cons_zero] at hX1
  have hc1 := hX1.cell
  go_enter Tryz.func161, Tryz.ntmps161
  go_wp2_with fail
  generalize w.setCell ⟨xi, 1, none⟩ (.int .i64 (wrap64 (n + 1))) = w1 at *
  generalize wrap64 (n + 1) = n1 at *
  have hR1 : Rep w1 h b l F := Rep.only hO0 h b l F hR (fun y hy e => hxF (by rw [← show y = xi from e]; exact hy))
  have hI1 : Its w1 l := hI.only hO0 (fun y hy e => hxl (by rw [← show y = xi from e]; exact hy))
  have hx1 := hx.only hO0 hxx
  have hs1 : w.heap.size ≤ w1.heap.size := hO0.size
  have hG1 : Grow w F F := ⟨fun a _ => Nat.le_refl _, fun a _ => hF a⟩
  have hOw1 : Only (fun y => y = xi ∨ y ∈ F) w w1 := ⟨hO0.os, hO0.tape, hO0.output, hO0.size, fun y hy hm => hO0.block y hy (fun e => hm (.inl e))⟩
  obtain ⟨F1, hFe⟩ : ∃ F1, F1 = F := ⟨_, rfl⟩
  have hF1 : Nd F1 := hFe ▸ hF
  have hxF1 : xi ∉ F1 := hFe ▸ hxF
  rw [← hFe] at hR1
  replace hG1 : Grow w F F1 := by rw [hFe]; exact hG1
  clear hc hf hl hc1 hFe
  go_at_call 178
  refine (ins_all h b x l F1 kx vx w1 hR1 hF1 hI1 hx1).mono ?_
  rintro e w2 ⟨hO2, l1, l2, hl12, hpost⟩
  have hX2 := hX1.only hO2 hxF1
  have hc := hX2.cell
  have hf := hX2.frz
  have hxl := hX2.lt
  have hs2 : w1.heap.size ≤ w2.heap.size := hO2.size
  have hOw2 : Only (fun y => y = xi ∨ y ∈ F) w w2 := hOw1.trans hO2 (fun y hy hm => .inr (hG1.mem hy hm))
  rcases hpost with ⟨F', rfl, hR2, hG⟩ | ⟨m, r, la, lb, Fa, Fb, rfl, hRa, hRb, hlab, hG⟩
  · go_wp2
    go_end0
    exact ⟨rfl, hOw2, _, _, l1, l2, F', hl12, hX2, .inr ⟨h, b, rfl, hR2⟩, hG1.trans hs1 hG⟩
  · have hlt : ∀ y ∈ Fa ++ Fb, y < w2.heap.size := fun y hy => by
      rcases List.mem_append.1 hy with hy | hy
      · exact Rep.lt h _ _ _ hRa y hy
      · exact Rep.lt h _ _ _ hRb y hy
    have hxw1 : xi < w1.heap.size := hX1.lt
    have hxFab : ∀ y ∈ Fa ++ Fb, y ≠ xi := fun y hy e => hxF1 (by rw [← e]; exact hG.mem (by omega) hy)
    have hX5 := ((hX2.alloc (.cells #[Ptr m] 262)).alloc (.cells #[Ptr b, Ptr r] 228)).alloc (.cells #[.slice (some ⟨w2.heap.size, 0, none⟩) 1 1, .slice (some ⟨w2.heap.size + 1, 0, none⟩) 2 2] 297)
    have hc5 := hX5.cell
    have hf5 := hX5.frz
    go_wp2
    go_end0
    have hA : Only (fun y => y = xi) w2 ((((w2.alloc (.cells #[Ptr m] 262)).alloc (.cells #[Ptr b, Ptr r] 228)).alloc (.cells #[.slice (some ⟨w2.heap.size, 0, none⟩) 1 1, .slice (some ⟨w2.heap.size + 1, 0, none⟩) 2 2] 297)).setCell ⟨xi, 0, none⟩ (Ptr (w2.heap.size + 2))) :=
      ((((Only.refl (fun y => y = xi) w2).alloc _).alloc _).alloc _).set ⟨xi, 0, none⟩ (fun _ => rfl) _
    refine ⟨rfl, hOw2.trans hA (fun y _ hy => .inl hy), Ptr (w2.heap.size + 2), n1, l1, l2, (w2.heap.size + 2) :: ([w2.heap.size] ++ ([w2.heap.size + 1] ++ (Fa ++ Fb))), hl12, ?_, .inr ⟨h + 1, w2.heap.size + 2, rfl, ?_⟩, ?_⟩
    · have := (((hX2.alloc (.cells #[Ptr m] 262)).alloc (.cells #[Ptr b, Ptr r] 228)).alloc (.cells #[.slice (some ⟨w2.heap.size, 0, none⟩) 1 1, .slice (some ⟨w2.heap.size + 1, 0, none⟩) 2 2] 297)).setCell 0 (Ptr (w2.heap.size + 2))
      simpa using this
    · refine ⟨_, _, [m], [w2.heap.size], [w2.heap.size + 1], [(b, la, Fa), (r, lb, Fb)], (Blk.newAt (by simp)).setOther _ (by simp; omega) _, .inr ⟨w2.heap.size, [], rfl, ?_, by simp, by simp, rfl⟩, .inr ⟨w2.heap.size + 1, [], rfl, ?_, by simp, by simp, rfl⟩, by simp, by simp, ?_, by simp [inter, hlab], by simp⟩
      · exact (((Blk.new w2 #[Ptr m] _).alloc _).alloc _).setOther _ (by simp; omega) _
      · exact ((Blk.newAt (by simp)).alloc _).setOther _ (by simp; omega) _
      · intro z hz
        simp only [List.mem_cons, List.not_mem_nil, or_false] at hz
        rcases hz with rfl | rfl
        · exact Rep.only hA h _ _ _ hRa (fun y hy e => hxFab y (by simp [hy]) e)
        · exact Rep.only hA h _ _ _ hRb (fun y hy e => hxFab y (by simp [hy]) e)
    · exact grow_root (hG1.trans hs1 hG) (by omega) hlt

set_option maxHeartbeats 4000000 in
set_option maxRecDepth 100000 in
theorem add_none (xi x : Nat) (l F : List Nat) (hle : l = []) (hFe : F = []) (n : Int) (kx : ByteArray) (vx : Value) (w : World) (hX : Blk w xi #[.pointer none, .int .i64 n]) (hx : Blk w x #[.string kx, vx]) (hxx : x ≠ xi) :
    Calls Tryz.prog 161 #[Ptr xi, Ptr x] w (AddPost xi x l F w) := by
  have hc := hX.cell
  have hf := hX.frz
  have hl := hX.lt
  have hO0 : Only (fun y => y = xi) w (((w.setCell ⟨xi, 1, none⟩ (.int .i64 (wrap64 (n + 1)))).setCell ⟨xi, 0, none⟩ (Ptr w.heap.size)).alloc (.cells #[.slice none 0 0, .slice none 0 0] 297)) := (((Only.refl (fun y => y = xi) w).set ⟨xi, 1, none⟩ (fun _ => rfl) _).set ⟨xi, 0, none⟩ (fun _ => rfl) _).alloc _
  have hXa := hX.setCell 1 (.int .i64 (wrap64 (n + 1)))
  simp only [List.setIfInBounds_toArray, List.set_cons_succ, List.set_cons_zero] at hXa
  have hXb := hXa.setCell 0 (Ptr w.heap.size)
  simp only [List.setIfInBounds_toArray, List.set_cons_zero] at hXb
  have hX1 := hXb.alloc (.cells #[.slice none 0 0, .slice none 0 0] 297)
  have hca := hXa.cell
  have hcd := hX1.cell
  have hNb : Blk (((w.setCell ⟨xi, 1, none⟩ (.int .i64 (wrap64 (n + 1)))).setCell ⟨xi, 0, none⟩ (Ptr w.heap.size)).alloc (.cells #[.slice none 0 0, .slice none 0 0] 297)) w.heap.size #[.slice none 0 0, .slice none 0 0] := Blk.newAt (by simp [World.setCell])
  go_enter Tryz.func161, Tryz.ntmps161
  go_wp2_with fail
  generalize ((w.setCell ⟨xi, 1, none⟩ (.int .i64 (wrap64 (n + 1)))).setCell ⟨xi, 0, none⟩ (Ptr w.heap.size)).alloc (.cells #[.slice none 0 0, .slice none 0 0] 297) = w1 at *
  generalize wrap64 (n + 1) = n1 at *
  obtain ⟨h, hh⟩ : ∃ h, h = 0 := ⟨_, rfl⟩
  obtain ⟨b, hbe⟩ : ∃ b, b = w.heap.size := ⟨_, rfl⟩
  rw [← hbe] at hNb hX1 ⊢
  have hR1 : Rep w1 h b l [b] := by
    rw [hh, hle]
    exact ⟨_, [], hNb, .inl ⟨rfl, rfl, rfl⟩, by simp, rfl⟩
  have hI1 : Its w1 l := by
    rw [hle]
    exact fun _ h => absurd h List.not_mem_nil
  have hx1 := hx.only hO0 hxx
  have hs1 : w.heap.size ≤ w1.heap.size := hO0.size
  have hOw1 : Only (fun y => y = xi ∨ y ∈ F) w w1 := ⟨hO0.os, hO0.tape, hO0.output, hO0.size, fun y hy hm => hO0.block y hy (fun e => hm (.inl e))⟩
  obtain ⟨F1, hF1e⟩ : ∃ F1, F1 = [b] := ⟨_, rfl⟩
  rw [← hF1e] at hR1
  have hF1 : Nd F1 := by rw [hF1e]; exact fun a => single_one b a
  have hxF1 : xi ∉ F1 := by rw [hF1e]; simp; omega
  have hG1 : Grow w F F1 := by
    rw [hF1e, hFe]
    exact ⟨fun a ha => by rw [single_zero (by omega)]; exact Nat.zero_le _, fun a _ => single_one b a⟩
  clear hc hf hl hca hcd hXa hXb hF1e hh hNb hbe hle hFe
  go_at_call 178
  refine (ins_all h b x l F1 kx vx w1 hR1 hF1 hI1 hx1).mono ?_
  rintro e w2 ⟨hO2, l1, l2, hl12, hpost⟩
  have hX2 := hX1.only hO2 hxF1
  have hc := hX2.cell
  have hf := hX2.frz
  have hxl := hX2.lt
  have hs2 : w1.heap.size ≤ w2.heap.size := hO2.size
  have hOw2 : Only (fun y => y = xi ∨ y ∈ F) w w2 := hOw1.trans hO2 (fun y hy hm => .inr (hG1.mem hy hm))
  rcases hpost with ⟨F', rfl, hR2, hG⟩ | ⟨m, r, la, lb, Fa, Fb, rfl, hRa, hRb, hlab, hG⟩
  · go_wp2
    go_end0
    exact ⟨rfl, hOw2, _, _, l1, l2, F', hl12, hX2, .inr ⟨h, b, rfl, hR2⟩, hG1.trans hs1 hG⟩
  · have hlt : ∀ y ∈ Fa ++ Fb, y < w2.heap.size := fun y hy => by
      rcases List.mem_append.1 hy with hy | hy
      · exact Rep.lt h _ _ _ hRa y hy
      · exact Rep.lt h _ _ _ hRb y hy
    have hxw1 : xi < w1.heap.size := hX1.lt
    have hxFab : ∀ y ∈ Fa ++ Fb, y ≠ xi := fun y hy e => hxF1 (by rw [← e]; exact hG.mem (by omega) hy)
    have hX5 := ((hX2.alloc (.cells #[Ptr m] 262)).alloc (.cells #[Ptr b, Ptr r] 228)).alloc (.cells #[.slice (some ⟨w2.heap.size, 0, none⟩) 1 1, .slice (some ⟨w2.heap.size + 1, 0, none⟩) 2 2] 297)
    have hc5 := hX5.cell
    have hf5 := hX5.frz
    go_wp2
    go_end0
    have hA : Only (fun y => y = xi) w2 ((((w2.alloc (.cells #[Ptr m] 262)).alloc (.cells #[Ptr b, Ptr r] 228)).alloc (.cells #[.slice (some ⟨w2.heap.size, 0, none⟩) 1 1, .slice (some ⟨w2.heap.size + 1, 0, none⟩) 2 2] 297)).setCell ⟨xi, 0, none⟩ (Ptr (w2.heap.size + 2))) :=
      ((((Only.refl (fun y => y = xi) w2).alloc _).alloc _).alloc _).set ⟨xi, 0, none⟩ (fun _ => rfl) _
    refine ⟨rfl, hOw2.trans hA (fun y _ hy => .inl hy), Ptr (w2.heap.size + 2), n1, l1, l2, (w2.heap.size + 2) :: ([w2.heap.size] ++ ([w2.heap.size + 1] ++ (Fa ++ Fb))), hl12, ?_, .inr ⟨h + 1, w2.heap.size + 2, rfl, ?_⟩, ?_⟩
    · have := (((hX2.alloc (.cells #[Ptr m] 262)).alloc (.cells #[Ptr b, Ptr r] 228)).alloc (.cells #[.slice (some ⟨w2.heap.size, 0, none⟩) 1 1, .slice (some ⟨w2.heap.size + 1, 0, none⟩) 2 2] 297)).setCell 0 (Ptr (w2.heap.size + 2))
      simpa using this
    · refine ⟨_, _, [m], [w2.heap.size], [w2.heap.size + 1], [(b, la, Fa), (r, lb, Fb)], (Blk.newAt (by simp)).setOther _ (by simp; omega) _, .inr ⟨w2.heap.size, [], rfl, ?_, by simp, by simp, rfl⟩, .inr ⟨w2.heap.size + 1, [], rfl, ?_, by simp, by simp, rfl⟩, by simp, by simp, ?_, by simp [inter, hlab], by simp⟩
      · exact (((Blk.new w2 #[Ptr m] _).alloc _).alloc _).setOther _ (by simp; omega) _
      · exact ((Blk.newAt (by simp)).alloc _).setOther _ (by simp; omega) _
      · intro z hz
        simp only [List.mem_cons, List.not_mem_nil, or_false] at hz
        rcases hz with rfl | rfl
        · exact Rep.only hA h _ _ _ hRa (fun y hy e => hxFab y (by simp [hy]) e)
        · exact Rep.only hA h _ _ _ hRb (fun y hy e => hxFab y (by simp [hy]) e)
    · exact grow_root (hG1.trans hs1 hG) (by omega) hlt
end Go.Proofs.YtbheebpfbabffaaGreat.Wat

namespace Go.Proofs.YtbheebpfbabffaaGreat.Wat
open Go.RowKit Go Go.Lib Mach

abbrev MarkT : TypeId := 257
/-- An item and its marks: i its block, mb the marks' block. -/
def ItemM (w : World) (K i mb : Nat) : Prop := ∃ (k : ByteArray) (n c : Nat) (xs : List Value), Blk w i #[.string k, .slice (some ⟨mb, 0, none⟩) n c] ∧ w.ownsRow 0 MarkT 2 (.slice (some ⟨mb, 0, none⟩) n c) n xs ∧ 1 ≤ n ∧ n ≤ K ∧
  ∀ j, j < n → ∃ r d, xs[2 * j]? = some (.int .i64 r) ∧ xs[2 * j + 1]? = some (.bool d)
theorem row_only {G : Nat → Prop} {w w' : World} {e : TypeId} {size g n c : Nat} {xs : List Value} (h : w.ownsRow 0 e size (.slice (some ⟨g, 0, none⟩) n c) n xs) (k : Only G w w') (hG : ¬ G g) : w'.ownsRow 0 e size (.slice (some ⟨g, 0, none⟩) n c) n xs := by
  refine ⟨h.1, ?_⟩
  rcases h.2 with ⟨h, -⟩ | ⟨g', cap, cur, hv, hb, hh, hn, hc, hs, ht⟩
  · cases h
  · cases hv
    refine .inr ⟨g, c, cur, rfl, hb, ?_, hn, hc, hs, ht⟩
    have hl := (Array.getElem?_eq_some_iff.1 hh).1
    rw [k.block g hl hG]; exact hh
theorem ItemM.only {G : Nat → Prop} {w w' : World} {K i mb : Nat} (h : ItemM w K i mb) (k : Only G w w') (hi : ¬ G i) (hm : ¬ G mb) : ItemM w' K i mb := by
  obtain ⟨kk, n, c, xs, hb, hr, h1, h2, h3⟩ := h
  exact ⟨kk, n, c, xs, hb.only k hi, row_only hr k hm, h1, h2, h3⟩
theorem ItemM.mono {w : World} {K K' i mb : Nat} (h : ItemM w K i mb) (hK : K ≤ K') : ItemM w K' i mb := by
  obtain ⟨kk, n, c, xs, hb, hr, h1, h2, h3⟩ := h
  exact ⟨kk, n, c, xs, hb, hr, h1, Nat.le_trans h2 hK, h3⟩

/-- An index at xi with at most K marks behind each of its at most K items; S: all its blocks. -/
def Ix (w : World) (xi K : Nat) (S : List Nat) : Prop := ∃ (r : Value) (n : Int) (F : List Nat) (ms : List (Nat × Nat)), Blk w xi #[r, .int .i64 n] ∧ Rooted w r (ms.map (·.1)) F ∧ (∀ p ∈ ms, ItemM w K p.1 p.2) ∧ ms.length ≤ K ∧
  S = xi :: (F ++ (ms.map (·.1) ++ ms.map (·.2))) ∧ Nd S
theorem Ix.only {G : Nat → Prop} {w w' : World} {xi K : Nat} {S : List Nat} (h : Ix w xi K S) (k : Only G w w') (hG : ∀ x ∈ S, ¬ G x) : Ix w' xi K S := by
  obtain ⟨r, n, F, ms, hx, hR, hI, hK, rfl, hN⟩ := h
  refine ⟨r, n, F, ms, hx.only k (hG xi (by simp)), hR.only k (fun x hx => hG x (by simp [hx])), fun p hp => (hI p hp).only k (hG _ ?_) (hG _ ?_), hK, rfl, hN⟩
  · have : p.1 ∈ ms.map (·.1) := List.mem_map.2 ⟨p, hp, rfl⟩
    simp only [List.mem_cons, List.mem_append]
    exact .inr (.inr (.inl this))
  · have : p.2 ∈ ms.map (·.2) := List.mem_map.2 ⟨p, hp, rfl⟩
    simp only [List.mem_cons, List.mem_append]
    exact .inr (.inr (.inr this))
theorem Ix.its {w : World} {K : Nat} {ms : List (Nat × Nat)} (hI : ∀ p ∈ ms, ItemM w K p.1 p.2) : Its w (ms.map (·.1)) := fun i hi => by
  obtain ⟨p, hp, rfl⟩ := List.mem_map.1 hi
  obtain ⟨kk, n, c, xs, hb, -⟩ := hI p hp
  exact ⟨kk, _, hb⟩
theorem Ix.new (w : World) : Ix (w.alloc (.cells #[.pointer none, .int .i64 0] 230)) w.heap.size 0 [w.heap.size] :=
  ⟨.pointer none, 0, [], [], Blk.new _ _ _, .inl ⟨rfl, rfl, rfl⟩, fun _ h => absurd h List.not_mem_nil, Nat.le_refl _, rfl, fun a => single_one _ a⟩
theorem ix_count (xi : Nat) (F a b : List Nat) (y : Nat) : (xi :: (F ++ (a ++ b))).count y = ([xi] : List Nat).count y + F.count y + a.count y + b.count y := by
  rw [show xi :: (F ++ (a ++ b)) = [xi] ++ (F ++ (a ++ b)) from rfl]
  simp only [List.count_append]
  omega
end Go.Proofs.YtbheebpfbabffaaGreat.Wat

