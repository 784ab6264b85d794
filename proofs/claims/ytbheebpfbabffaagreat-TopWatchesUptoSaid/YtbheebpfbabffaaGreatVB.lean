/- Joined: a part of the proof of TopWatches. -/
import Derived.Test.YtbheebpfbabffaaGreatVA
set_option linter.unusedSimpArgs false
set_option linter.unusedVariables false
namespace Go.Proofs.YtbheebpfbabffaaGreat.Wat
open Go.RowKit Go Go.Lib Mach

theorem iE_info : (Tryz.prog.info? 262).map (fun i => (i.zero, i.size, i.bytes)) = some (some (.pointer none), 1, 8) := by kernel_rfl
theorem iE_size : (Tryz.prog.info? 262).map (·.size) = some 1 := by kernel_rfl

set_option maxHeartbeats 4000000 in
set_option maxRecDepth 100000 in
theorem insI_end_room (b n c vb : Nat) (x : Value) (w : World) (hroom : n + 1 ≤ c) (hc63 : c ≤ 9223372036854775807) (hx : w.cell? ⟨vb, 0, none⟩ = some x) (h1 : x.oneCell' = true)
    (hsp : (w.cell? ⟨b, n, none⟩).isSome = true) (hfz : w.frozen? ⟨b, n, none⟩ = false) :
    Calls Tryz.prog 200 #[.slice (some ⟨b, 0, none⟩) n c, .int .i64 n, .slice (some ⟨vb, 0, none⟩) 1 1] w fun e w' =>
      e = .returned (.slice (some ⟨b, 0, none⟩) (n + 1) c) ∧ w' = w.setCells b n [x] := by
  have hsrc : Src Tryz.prog 1 294 (.slice (some ⟨vb, 0, none⟩) 1 1) 1 [x] w := Src.ofSlice w Tryz.underlying294 ⟨vb, 0, none⟩ 1 1 [x] (by simp) (fun j u hj => by
    rcases j with _ | j
    · simp at hj; subst hj; exact hx
    · simp at hj) (fun v hv => by simp at hv; subst hv; exact h1)
  go_enter Tryz.func200, Tryz.ntmps200
  go_wp2_with (at_builtin; refine wpList_append_room1 _ rfl _ _ 294 294 rfl 262 _ _ Tryz.underlying294 iE_info b 0 n c rfl _ rfl 1 [x] hsrc hroom (by intro j hj; simp at hj; subst hj; simpa using hsp) (by intro j hj; simp at hj; subst hj; simpa using hfz) ?_)
  go_ret
  exact ⟨rfl, by simp⟩

set_option maxHeartbeats 4000000 in
set_option maxRecDepth 100000 in
theorem insI_end_grow (base : Option Addr) (n c vb : Nat) (cs : List Value) (x : Value) (w : World) (hnc : n ≤ c) (hroom : c < n + 1) (hbig : n ≤ 1000) (hcl : cs.length = n) (hnil : base = none → n = 0)
    (hcs : ∀ a, base = some a → ∀ j v, cs[j]? = some v → w.cell? (a.add j) = some v) (hx : w.cell? ⟨vb, 0, none⟩ = some x) (h1 : x.oneCell' = true) :
    Calls Tryz.prog 200 #[.slice base n c, .int .i64 n, .slice (some ⟨vb, 0, none⟩) 1 1] w fun e w' =>
      e = .returned (.slice (some ⟨w.heap.size, 0, none⟩) (n + 1) (grownCap w (n + 1) c 262)) ∧
      w' = w.drew.alloc (.cells ((cs ++ [x]).toArray ++ Builtin.zeroCells (Value.pointer none).cells (grownCap w (n + 1) c 262 - (n + 1))) 262) := by
  obtain ⟨i0, hi0, hz0, hzs, hzb⟩ := info_parts iE_info
  have hsrc : Src Tryz.prog i0.size 294 (.slice (some ⟨vb, 0, none⟩) 1 1) 1 [x] w := by
    rw [hzs]
    exact Src.ofSlice w Tryz.underlying294 ⟨vb, 0, none⟩ 1 1 [x] (by simp) (fun j u hj => by
      rcases j with _ | j
      · simp at hj; subst hj; exact hx
      · simp at hj) (fun v hv => by simp at hv; subst hv; exact h1)
  have hold : (Builtin.firstCells i0.size n (.slice base n c)).run Tryz.prog w.drew = .ok cs.toArray w.drew := by
    rw [hzs]
    cases base with
    | none =>
      have h0 := hnil rfl
      subst h0
      rw [List.length_eq_zero_iff.1 hcl]
      exact run_firstCells_none w.drew 1 0 0 c
    | some a => exact run_firstCells_some w.drew 1 n a n c cs (by omega) (fun j v hj => hcs a rfl j v hj)
  have hrun : ∀ ty, (Builtin.append_ #[294, 294] ty #[.slice base n c, .slice (some ⟨vb, 0, none⟩) 1 1]).run Tryz.prog w = _ := fun ty =>
    run_append_grow_src w 294 294 ty 262 i0 _ Tryz.underlying294 hi0 hz0 base n c cs hold _ 1 [x] hsrc hroom (by omega) (by rw [hzb]; exact growslice_fits hroom (by omega))
  clear hsrc hold hcs hx
  go_enter Tryz.func200, Tryz.ntmps200
  cases base with
  | none =>
    have h0 := hnil rfl
    subst h0
    go_wp2_with (at_builtin; refine Lib.wpList_append_run _ rfl _ _ _ _ rfl _ _ rfl rfl _ _ (hrun _) ?_)
    go_ret
    exact ⟨rfl, rfl⟩
  | some a =>
    obtain ⟨ab, ao, asp⟩ := a
    go_wp2_with (at_builtin; refine Lib.wpList_append_run _ rfl _ _ _ _ rfl _ _ rfl rfl _ _ (hrun _) ?_)
    all_goals (go_ret; exact ⟨rfl, rfl⟩)

set_option maxHeartbeats 4000000 in
set_option maxRecDepth 100000 in
theorem insI_shift (b n c i vb : Nat) (cs : List Value) (x : Value) (w : World) (hi : i < n) (hroom : n + 1 ≤ c) (hc63 : c ≤ 9223372036854775807) (hvb : vb ≠ b) (hcl : cs.length = n)
    (hcs : ∀ j v, cs[j]? = some v → w.cell? ⟨b, j, none⟩ = some v) (hsp : ∀ j, j < n + 1 → (w.cell? ⟨b, j, none⟩).isSome = true) (hfz : ∀ j, w.frozen? ⟨b, j, none⟩ = false)
    (hx : w.cell? ⟨vb, 0, none⟩ = some x) (h1 : x.oneCell' = true) (h1c : ∀ v ∈ cs, v.oneCell' = true)
    (tA tB : TypeId) (kA kB : Nat) (hsa : w.shape? vb = some (tA, kA)) (hsb : w.shape? b = some (tB, kB)) (hkB : kB ≠ 0) (hfa : ∀ o, w.frozen? ⟨vb, o, none⟩ = false) :
    Calls Tryz.prog 200 #[.slice (some ⟨b, 0, none⟩) n c, .int .i64 i, .slice (some ⟨vb, 0, none⟩) 1 1] w fun e w' =>
      e = .returned (.slice (some ⟨b, 0, none⟩) (n + 1) c) ∧ w' = (w.drew.setCells b (i + 1) (cs.drop i)).setCells b i [x] := by
  have hov : ∀ lb cb, (callFunc 220 #[.slice (some ⟨vb, 0, none⟩) 1 1, .slice (some ⟨b, i + 1, none⟩) lb cb]).run Tryz.prog w = .ok (.value (.bool false)) w := fun lb cb => by
    rw [run_callFunc_extern Tryz.func220 (by kernel_rfl) (by kernel_rfl) (by kernel_rfl) (e := Extern.SlicesOverlaps.overlaps #[294, 294] #[4]) (by kernel_rfl),
      Lib.run_overlaps_apart w 294 4 262 Tryz.underlying294 1 (fun _ => by kernel_rfl) ⟨vb, 0, none⟩ ⟨b, i + 1, none⟩ 1 1 lb cb hvb tA tB kA kB hsa hsb hkB (hfa 0) (hfa _)]
    rfl
  have mixed : Tryz.prog.follows .mixedOrders = true := by kernel_rfl
  have hdl : (cs.drop i).length = n - i := by rw [List.length_drop, hcl]
  have hw1 : IntKind.i64.wrap ((i : Int) + 1) = (i : Int) + 1 := by rw [IntKind.wrap_i64]; omega
  have hb1 : (0 : Int) ≤ (i : Int) + 1 := by omega
  have htn : ((i : Int) + 1).toNat = i + 1 := by omega
  have hz2 : ¬ ((i : Int) = (n : Int)) := by omega
  have hin : i ≤ n := by omega
  have hb2 : ¬ (c = i + 1) := by omega
  have hb3 : (i : Int) ≤ (n : Int) + 1 := by omega
  have hb4 : ¬ (c = i) := by omega
  have hcp1 : ∀ ty dc sc, (Builtin.copy_ #[294, 294] ty #[.slice (some ⟨b, i + 1, none⟩) (n - i) dc, .slice (some ⟨b, i, none⟩) (n + 1 - i) sc]).run Tryz.prog w.drew = .ok (goInt (cs.drop i).length) (w.drew.setCells b (i + 1) (cs.drop i)) := fun ty dc sc =>
    run_copy_cells w.drew _ _ ty 262 b (i + 1) (n - i) dc ⟨b, i, none⟩ (n + 1 - i) sc (cs.drop i) Tryz.underlying294 iE_size (by rw [hdl]; simp only [Nat.min_def]; split <;> omega)
      (fun j v hj => by rw [Addr.add_lit]; exact hcs (i + j) v (by rwa [List.getElem?_drop] at hj))
      (fun j hj => hsp _ (by omega)) (fun j _ => hfz _) (fun v hv => h1c v (List.mem_of_mem_drop hv))
  obtain ⟨W1, hW1⟩ : ∃ W1, W1 = w.drew.setCells b (i + 1) (cs.drop i) := ⟨_, rfl⟩
  have hsp1 : ∀ k, k < n + 1 → (W1.cell? ⟨b, k, none⟩).isSome = true := fun k hk => by
    rw [hW1]
    exact isSome_setCells b (cs.drop i) (i + 1) w.drew (fun j hj => hsp (i + 1 + j) (by rw [hdl] at hj; omega)) k (hsp k hk)
  have hcp2 : ∀ (W : World), (∀ x, W.cell? x = W1.cell? x) → (∀ x, W.frozen? x = W1.frozen? x) → ∀ ty dc, (Builtin.copy_ #[294, 294] ty #[.slice (some ⟨b, i, none⟩) (n + 1 - i) dc, .slice (some ⟨vb, 0, none⟩) 1 1]).run Tryz.prog W = .ok (goInt 1) (W.setCells b i [x]) := fun W hWc hWf ty dc =>
    run_copy_cells W _ _ ty 262 b i (n + 1 - i) dc ⟨vb, 0, none⟩ 1 1 [x] Tryz.underlying294 iE_size (by simp only [Nat.min_def, List.length_cons, List.length_nil]; split <;> omega)
      (fun j v hj => by
        rw [Addr.add_lit, hWc, hW1, World.cell?_setCells_out b _ _ _ _ (fun h _ => absurd h hvb)]
        rcases j with _ | j
        · simp at hj; subst hj; exact hx
        · simp at hj)
      (fun j hj => by rw [hWc]; exact hsp1 _ (by simp at hj; omega)) (fun j _ => by rw [hWf, hW1, World.frozen?_setCells]; exact hfz _) (fun v hv => by simp at hv; subst hv; exact h1)
  rw [← hW1] at hcp1
  clear hcs hsp hfz hsp1 hx hfa
  go_enter Tryz.func200, Tryz.ntmps200
  go_wp2_with (simp only [hov])
  go_region_law_o (refine step_copy_runI rfl _ _ 294 294 rfl _ _ (by simp [Act.eval, Act.put]) (by simp [Act.eval, Act.put]) (hcp1 _ _ _) ?_)
  go_wp2_with (at_builtin; refine wpList_copy_runI _ rfl _ _ 294 294 rfl _ _ rfl rfl (hcp2 _ (fun _ => rfl) (fun _ => rfl) _ _) ?_)
  go_ret
  first | exact ⟨rfl, rfl⟩ | exact ⟨rfl, by rw [hW1]⟩

set_option maxHeartbeats 4000000 in
set_option maxRecDepth 100000 in
theorem insI_grow (b n c i vb : Nat) (cs : List Value) (x : Value) (w : World) (hi : i < n) (hnc : n ≤ c) (hroom : c < n + 1) (hbig : n ≤ 1000) (hcl : cs.length = n)
    (hcs : ∀ j v, cs[j]? = some v → w.cell? ⟨b, j, none⟩ = some v) (hx : w.cell? ⟨vb, 0, none⟩ = some x) (h1 : x.oneCell' = true) (h1c : ∀ v ∈ cs, v.oneCell' = true) :
    Calls Tryz.prog 200 #[.slice (some ⟨b, 0, none⟩) n c, .int .i64 i, .slice (some ⟨vb, 0, none⟩) 1 1] w fun e w' =>
      e = .returned (.slice (some ⟨w.heap.size, 0, none⟩) (n + 1) (grownCap w (n + 1) c 262)) ∧
      w' = (((w.alloc (.cells (growRow cs i n (grownCap w (n + 1) c 262)) 262)).drew.setCells w.heap.size i [x]).drew).setCells w.heap.size (i + 1) (cs.drop i) := by
  have mixed : Tryz.prog.follows .mixedOrders = true := by kernel_rfl
  obtain ⟨i0, hi0, hz0, hzs, hzb⟩ := info_parts iE_info
  have hbw : b < w.heap.size := World.block_lt_of_cell? _ _ (hcs 0 _ (List.getElem?_eq_getElem (by omega)))
  have hvw : vb < w.heap.size := World.block_lt_of_cell? _ _ hx
  have hkk : (n : Int) + 1 - (i : Int) = ((n + 1 - i : Nat) : Int) := by omega
  have hik : i + (n + 1 - i) = n + 1 := by omega
  have hold : (Builtin.firstCells i0.size i (.slice (some ⟨b, 0, none⟩) i c)).run Tryz.prog w.drew = .ok (cs.take i).toArray w.drew := by
    rw [hzs]
    exact run_firstCells_some w.drew 1 i ⟨b, 0, none⟩ i c (cs.take i) (by rw [List.length_take]; omega) (fun j v hj => by
      rw [Addr.add_lit, Nat.zero_add]
      rw [List.getElem?_take] at hj
      split at hj
      · exact hcs j v hj
      · cases hj)
  have hrz : ∀ ty, (Builtin.append_ #[294, 3] ty #[.slice (some ⟨b, 0, none⟩) i c, .int .i64 ((n : Int) + 1 - (i : Int))]).run Tryz.prog w =
      .ok (.slice (some ⟨w.heap.size, 0, none⟩) (n + 1) (grownCap w (n + 1) c 262)) (w.drew.alloc (.cells (growRow cs i n (grownCap w (n + 1) c 262)) 262)) := fun ty => by
    have h := Lib.run_append_grow_zeros w 294 3 ty 262 i0 _ .i64 .i64 Tryz.underlying294 Tryz.underlying3 hi0 hz0 (some ⟨b, 0, none⟩) i c (cs.take i) hold (n + 1 - i) (by omega) (by omega) (by omega) (by omega) (by rw [hzb]; omega) (by rw [hzb, hik]; exact growslice_fits hroom (by omega))
    rw [hik] at h
    rw [hkk]
    exact h
  obtain ⟨G, hG⟩ : ∃ G, G = grownCap w (n + 1) c 262 := ⟨_, rfl⟩
  have hGn : n + 1 ≤ G := by rw [hG]; exact grownCap_ge w _ _ _
  have hG63 : G ≤ 9223372036854775807 := by
    have := grownCap_le_maxLen w (n + 1) c 262 (by unfold maxLen; omega)
    rw [← hG] at this
    unfold maxLen at this
    omega
  rw [← hG] at hrz ⊢
  have hRl := growRow_size cs i n G (by omega) hcl hGn
  generalize growRow cs i n G = ROW at *
  obtain ⟨W1, hW1⟩ : ∃ W1, W1 = w.drew.alloc (.cells ROW 262) := ⟨_, rfl⟩
  rw [← hW1] at hrz
  have hN : ∀ j, j < n + 1 → (W1.cell? ⟨w.heap.size, j, none⟩).isSome = true := fun j hj => by
    rw [hW1, World.cell?_alloc_at (w := w.drew) ROW _ w.heap.size j rfl, Array.getElem?_eq_getElem (by omega)]; rfl
  have hNf : ∀ j, W1.frozen? ⟨w.heap.size, j, none⟩ = false := fun j => by rw [hW1]; exact World.frozen?_alloc_at (w := w.drew) ROW _ w.heap.size j rfl
  have hOb : ∀ j v, w.cell? ⟨b, j, none⟩ = some v → W1.cell? ⟨b, j, none⟩ = some v := fun j v h => by rw [hW1, World.cell?_alloc_past (w := w.drew) _ b j hbw]; exact h
  have hOv : ∀ j v, w.cell? ⟨vb, j, none⟩ = some v → W1.cell? ⟨vb, j, none⟩ = some v := fun j v h => by rw [hW1, World.cell?_alloc_past (w := w.drew) _ vb j hvw]; exact h
  have hcpA : ∀ (W : World), (∀ x, W.cell? x = W1.cell? x) → (∀ x, W.frozen? x = W1.frozen? x) → ∀ ty dc, (Builtin.copy_ #[294, 294] ty #[.slice (some ⟨w.heap.size, i, none⟩) (n + 1 - i) dc, .slice (some ⟨vb, 0, none⟩) 1 1]).run Tryz.prog W = .ok (goInt 1) (W.setCells w.heap.size i [x]) := fun W hWc hWf ty dc =>
    run_copy_cells W _ _ ty 262 w.heap.size i (n + 1 - i) dc ⟨vb, 0, none⟩ 1 1 [x] Tryz.underlying294 iE_size (by simp only [Nat.min_def, List.length_cons, List.length_nil]; split <;> omega)
      (fun j v hj => by
        rw [Addr.add_lit, hWc]
        rcases j with _ | j
        · simp at hj; subst hj; exact hOv _ _ hx
        · simp at hj)
      (fun j hj => by rw [hWc]; exact hN _ (by simp at hj; omega)) (fun j _ => by rw [hWf]; exact hNf _) (fun v hv => by simp at hv; subst hv; exact h1)
  have hGi : ¬ (G = i) := by omega
  have hGim : ¬ (G = i + 1) := by omega
  have hci : ¬ (c = i) := by omega
  have hbN : b ≠ w.heap.size := by omega
  have hdl : (cs.drop i).length = n - i := by rw [List.length_drop, hcl]
  have hcpB : ∀ (W : World), (∀ y, W.cell? y = (W1.setCells w.heap.size i [x]).cell? y) → (∀ y, W.frozen? y = (W1.setCells w.heap.size i [x]).frozen? y) → ∀ ty dc sc, (Builtin.copy_ #[294, 294] ty #[.slice (some ⟨w.heap.size, i + 1, none⟩) (n - i) dc, .slice (some ⟨b, i, none⟩) (n - i) sc]).run Tryz.prog W = .ok (goInt (cs.drop i).length) (W.setCells w.heap.size (i + 1) (cs.drop i)) := fun W hWc hWf ty dc sc =>
    run_copy_cells W _ _ ty 262 w.heap.size (i + 1) (n - i) dc ⟨b, i, none⟩ (n - i) sc (cs.drop i) Tryz.underlying294 iE_size (by rw [hdl]; simp only [Nat.min_def]; split <;> omega)
      (fun j v hj => by
        rw [Addr.add_lit, hWc, World.cell?_setCells_out _ _ _ _ _ (fun h _ => absurd h hbN)]
        exact hOb _ v (hcs (i + j) v (by rwa [List.getElem?_drop] at hj)))
      (fun j hj => by rw [hWc]; exact isSome_setCells _ [x] i W1 (fun t ht => hN _ (by simp at ht; omega)) _ (hN _ (by omega)))
      (fun j _ => by rw [hWf, World.frozen?_setCells]; exact hNf _) (fun v hv => h1c v (List.mem_of_mem_drop hv))
  subst hW1
  have hE1 : ∀ y, ((w.alloc (.cells ROW 262)).drew).cell? y = (w.drew.alloc (.cells ROW 262)).cell? y := fun y => rfl
  have hE2 : ∀ y, ((w.alloc (.cells ROW 262)).drew).frozen? y = (w.drew.alloc (.cells ROW 262)).frozen? y := fun y => rfl
  have hF1 : ∀ y, (((w.alloc (.cells ROW 262)).drew.setCells w.heap.size i [x]).drew).cell? y = ((w.drew.alloc (.cells ROW 262)).setCells w.heap.size i [x]).cell? y := fun y => rfl
  have hF2 : ∀ y, (((w.alloc (.cells ROW 262)).drew.setCells w.heap.size i [x]).drew).frozen? y = ((w.drew.alloc (.cells ROW 262)).setCells w.heap.size i [x]).frozen? y := fun y => rfl
  have hw1 : IntKind.i64.wrap ((i : Int) + 1) = (i : Int) + 1 := by rw [IntKind.wrap_i64]; omega
  have hb1 : (0 : Int) ≤ (i : Int) + 1 := by omega
  have htn : ((i : Int) + 1).toNat = i + 1 := by omega
  have hin : i ≤ n := by omega
  have hb3 : (i : Int) ≤ (n : Int) := by omega
  have hb4 : (i : Int) < (n : Int) := by omega
  have hb5 : (n : Int) ≤ 1000 := by omega
  have hz2 : ¬ ((i : Int) = (n : Int)) := by omega
  have hz3 : (c : Int) < (n : Int) + 1 := by omega
  clear hkk hik hold hG hRl hcs hx hN hNf hOb hOv
  go_enter Tryz.func200, Tryz.ntmps200
  go_wp2_with (first | (at_builtin; refine Lib.wpList_append_run _ rfl _ _ _ _ rfl _ _ rfl rfl _ _ (hrz _) ?_) | (at_builtin; refine wpList_copy_runI _ rfl _ _ 294 294 rfl _ _ rfl rfl (hcpA _ hE1 hE2 _ _) ?_) | (at_builtin; refine wpList_copy_runI _ rfl _ _ 294 294 rfl _ _ rfl rfl (hcpB _ (fun _ => rfl) (fun _ => rfl) _ _ _) ?_))
  go_region_law_o (refine step_copy_runI rfl _ _ 294 294 rfl (.slice (some ⟨w.heap.size, i + 1, none⟩) (n - i) (G - (i + 1))) (.slice (some ⟨b, i, none⟩) (n - i) (c - i)) (by simp [Act.eval, Act.put]) (by simp [Act.eval, Act.put]) (hcpB _ hF1 hF2 3 (G - (i + 1)) (c - i)) ?_)
  go_wp2
  go_ret
  exact ⟨rfl, rfl⟩

set_option maxHeartbeats 4000000 in
/-- The contract: x laid at i. -/
theorem insI (v : Value) (ps B : List Nat) (x vb i : Nat) (w : World) (h : Arr w v ps B) (hi : i ≤ ps.length) (hn : ps.length ≤ 1000) (hx : Blk w vb #[Ptr x]) (hvB : vb ∉ B) :
    Calls Tryz.prog 200 #[v, .int .i64 i, .slice (some ⟨vb, 0, none⟩) 1 1] w fun e w' =>
      ∃ v' B', e = .returned v' ∧ Arr w' v' (ps.take i ++ x :: ps.drop i) B' ∧ Only (fun k => k ∈ B) w w' ∧ ∀ k ∈ B', k ∈ B ∨ w.heap.size ≤ k := by
  have hxc : w.cell? ⟨vb, 0, none⟩ = some (Ptr x) := by rw [hx.cell]; rfl
  have grown : ∀ (G : Nat) (t : TypeId) (w1 : World) (l1 : List Value) (m : Nat), w1 = w.drew.alloc (.cells (l1.toArray ++ Builtin.zeroCells (Value.pointer none).cells (G - m)) t) → l1.length = m → m ≤ G → Blk w1 w.heap.size (l1 ++ List.replicate (G - m) (Value.pointer none)).toArray ∧ Only (fun k => k ∈ B) w w1 := by
    rintro G t w1 l1 m rfl hl hm
    constructor
    · refine Blk.eq (Blk.new w.drew _ t) ?_
      apply Array.toList_inj.1
      rw [Array.toList_append, zeros_list _ rfl]
    · exact Only.alloc (Only.drew (Only.refl _ _)) _
  obtain ⟨rfl, rfl, rfl⟩ | ⟨b, rest, rfl, hb, hm, hp, rfl⟩ := h
  · obtain rfl : i = 0 := by simpa using hi
    refine (insI_end_grow none 0 0 vb [] (Ptr x) w (by omega) (by omega) (by omega) rfl (fun _ => rfl) (fun _ h => by cases h) hxc rfl).mono ?_
    rintro e w' ⟨rfl, hw⟩
    have hG := grownCap_ge w (0 + 1) 0 262
    have hG2 := grownCap_le_maxLen w (0 + 1) 0 262 (by decide)
    generalize grownCap w (0 + 1) 0 262 = G at *
    obtain ⟨h1, h2⟩ := grown G _ w' [Ptr x] 1 hw rfl (by omega)
    refine ⟨_, [w.heap.size], rfl, .inr ⟨w.heap.size, List.replicate (G - 1) (Value.pointer none), ?_, h1, ?_, ?_, rfl⟩, h2, fun k hk => .inr (by rw [List.mem_singleton.1 hk]; exact Nat.le_refl _)⟩
    · simp <;> omega
    · unfold maxLen at hG2; simp <;> omega
    · simp <;> omega
  · have hne : vb ≠ b := fun e => hvB (by simp [e])
    have hc := hb.cell
    have hf := hb.frz
    have hbl := hb.lt
    have hcs : ∀ j v, (ps.map Ptr)[j]? = some v → w.cell? ⟨b, j, none⟩ = some v := by
      intro j v hj
      have hlt : j < (ps.map Ptr).length := (List.getElem?_eq_some_iff.1 hj).1
      rw [hc, List.getElem?_toArray, List.getElem?_append_left hlt, hj]
    have hin : ∀ j, j < ps.length + rest.length → (w.cell? ⟨b, j, none⟩).isSome = true := by
      intro j hj
      rw [hc]
      simp
      omega
    have hone := ptrs_one ps
    obtain ⟨bt, hbt⟩ := hb
    obtain ⟨xt, hxt⟩ := hx
    have hsb : w.shape? b = some (bt, ps.length + rest.length) := by simp [World.shape?, hbt]
    have hsa : w.shape? vb = some (xt, 1) := by simp [World.shape?, hxt]
    have hfx : ∀ o, w.frozen? ⟨vb, o, none⟩ = false := fun o => by simp [World.frozen?, hxt]
    by_cases hroom : ps.length + 1 ≤ ps.length + rest.length
    · obtain ⟨u, rest', rfl⟩ : ∃ u r, rest = u :: r := by
        cases rest with
        | nil => simp only [List.length_nil] at hroom; omega
        | cons u r => exact ⟨u, r, rfl⟩
      by_cases he : i = ps.length
      · subst he
        refine (insI_end_room b ps.length _ vb (Ptr x) w hroom hm hxc rfl (hin _ (by omega)) (hf _)).mono ?_
        rintro e w' ⟨rfl, rfl⟩
        have h2 := Blk.setCells b [Ptr x] (ps.map Ptr) [u] rest' w ⟨bt, by simpa using hbt⟩ rfl
        rw [List.length_map] at h2
        refine ⟨_, [b], rfl, .inr ⟨b, rest', ?_, ?_, ?_, ?_, rfl⟩, Only.setCells b (by simp) _ _ _ _ (Only.refl _ _), fun k hk => .inl hk⟩
        · simp <;> omega
        · exact h2.eq (by simp)
        · simp at hm ⊢ <;> omega
        · simp <;> omega
      · refine (insI_shift b ps.length _ i vb (ps.map Ptr) (Ptr x) w (by omega) hroom hm hne (by simp) hcs (fun j hj => hin j (by omega)) hf hxc rfl hone xt bt 1 _ hsa hsb (by omega) hfx).mono ?_
        rintro e w' ⟨rfl, rfl⟩
        have hO : Only (fun k => k ∈ [b]) w ((w.drew.setCells b (i + 1) ((ps.map Ptr).drop i)).setCells b i [Ptr x]) := Only.setCells b (by simp) _ _ _ _ (Only.setCells b (by simp) _ _ _ _ (Only.drew (Only.refl _ _)))
        obtain ⟨p0, hp0⟩ : ∃ p0, ps.drop i = p0 :: ps.drop (i + 1) := ⟨ps[i], by rw [List.drop_eq_getElem_cons (by omega)]⟩
        have hlen : i + 1 + (ps.drop (i + 1)).length = ps.length := by simp <;> omega
        have hsplit : ps.map Ptr ++ u :: rest' = ((ps.take i).map Ptr ++ [Ptr p0]) ++ (((ps.drop (i + 1)).map Ptr ++ [u]) ++ rest') := by
          have : ps = ps.take i ++ p0 :: ps.drop (i + 1) := by rw [← hp0]; simp
          conv => lhs; rw [this]
          simp
        have hB1 : Blk w.drew b (((ps.take i).map Ptr ++ [Ptr p0]) ++ (((ps.drop (i + 1)).map Ptr ++ [u]) ++ rest')).toArray := ⟨bt, by rw [← hsplit]; exact hbt⟩
        have hB2 := Blk.setCells b ((ps.map Ptr).drop i) _ _ _ _ hB1 (by simp <;> omega)
        have el : ((ps.take i).map Ptr ++ [Ptr p0]).length = i + 1 := by simp <;> omega
        rw [el] at hB2
        have hB3 := Blk.setCells b [Ptr x] ((ps.take i).map Ptr) [Ptr p0] ((ps.map Ptr).drop i ++ rest') _ (hB2.eq (by simp)) rfl
        have el2 : ((ps.take i).map Ptr).length = i := by simp <;> omega
        rw [el2] at hB3
        refine ⟨_, [b], rfl, .inr ⟨b, rest', ?_, ?_, ?_, ?_, rfl⟩, hO, fun k hk => .inl hk⟩
        · simp <;> omega
        · exact hB3.eq (by simp)
        · simp at hm ⊢ <;> omega
        · simp <;> omega
    · obtain rfl : rest = [] := List.length_eq_zero_iff.1 (by omega)
      simp only [List.length_nil, Nat.add_zero] at *
      by_cases he : i = ps.length
      · subst he
        refine (insI_end_grow (some ⟨b, 0, none⟩) ps.length ps.length vb (ps.map Ptr) (Ptr x) w (by omega) (by omega) hn (by simp) (fun h => by cases h) (fun a ha j v hj => by cases ha; rw [Addr.add_lit, Nat.zero_add]; exact hcs j v hj) hxc rfl).mono ?_
        rintro e w' ⟨rfl, hw⟩
        have hG := grownCap_ge w (ps.length + 1) ps.length 262
        have hG2 := grownCap_le_maxLen w (ps.length + 1) ps.length 262 (by unfold maxLen; omega)
        generalize grownCap w (ps.length + 1) ps.length 262 = G at *
        obtain ⟨h1, h2⟩ := grown G _ w' (ps.map Ptr ++ [Ptr x]) (ps.length + 1) hw (by simp) (by omega)
        refine ⟨_, [w.heap.size], rfl, .inr ⟨w.heap.size, List.replicate (G - (ps.length + 1)) (Value.pointer none), ?_, ?_, ?_, ?_, rfl⟩, h2, fun k hk => .inr (by rw [List.mem_singleton.1 hk]; exact Nat.le_refl _)⟩
        · simp <;> omega
        · exact h1.eq (by simp)
        · unfold maxLen at hG2; simp <;> omega
        · simp <;> omega
      · refine (insI_grow b ps.length ps.length i vb (ps.map Ptr) (Ptr x) w (by omega) (by omega) (by omega) hn (by simp) hcs hxc rfl hone).mono ?_
        rintro e w' ⟨rfl, rfl⟩
        have hG := grownCap_ge w (ps.length + 1) ps.length 262
        have hG2 := grownCap_le_maxLen w (ps.length + 1) ps.length 262 (by unfold maxLen; omega)
        generalize grownCap w (ps.length + 1) ps.length 262 = G at *
        have hO0 : Only (fun k => w.heap.size ≤ k) w (((w.alloc (.cells (growRow (ps.map Ptr) i ps.length G) 262)).drew.setCells w.heap.size i [Ptr x]).drew.setCells w.heap.size (i + 1) ((ps.map Ptr).drop i)) :=
          Only.setCells _ (Nat.le_refl _) _ _ _ _ (Only.drew (Only.setCells _ (Nat.le_refl _) _ _ _ _ (Only.drew (Only.alloc (Only.refl _ _) _))))
        have hO : Only (fun k => k ∈ [b]) w (((w.alloc (.cells (growRow (ps.map Ptr) i ps.length G) 262)).drew.setCells w.heap.size i [Ptr x]).drew.setCells w.heap.size (i + 1) ((ps.map Ptr).drop i)) :=
          ⟨hO0.os, hO0.tape, hO0.output, hO0.size, fun k hk _ => hO0.block k hk (by omega)⟩
        have hrow : growRow (ps.map Ptr) i ps.length G = ((ps.take i).map Ptr ++ ([Value.pointer none] ++ (List.replicate (ps.length - i) (Value.pointer none) ++ List.replicate (G - (ps.length + 1)) (Value.pointer none)))).toArray := by
          unfold growRow
          apply Array.toList_inj.1
          rw [Array.toList_append, Array.toList_append, zeros_list _ rfl, zeros_list _ rfl, show ps.length + 1 - i = (ps.length - i) + 1 by omega, List.replicate_succ]
          simp
        rw [hrow] at hO ⊢
        have hB0 : Blk (w.alloc (.cells ((ps.take i).map Ptr ++ ([Value.pointer none] ++ (List.replicate (ps.length - i) (Value.pointer none) ++ List.replicate (G - (ps.length + 1)) (Value.pointer none)))).toArray 262)).drew w.heap.size _ := Blk.new w _ _
        have hB1 := Blk.setCells w.heap.size [Ptr x] ((ps.take i).map Ptr) [.pointer none] _ _ hB0 rfl
        have el : ((ps.take i).map Ptr).length = i := by simp <;> omega
        rw [el] at hB1
        have hB2 := Blk.setCells w.heap.size ((ps.map Ptr).drop i) ((ps.take i).map Ptr ++ [Ptr x]) (List.replicate (ps.length - i) (Value.pointer none)) (List.replicate (G - (ps.length + 1)) (Value.pointer none)) _ (hB1.drew.eq (by simp)) (by simp)
        have el2 : ((ps.take i).map Ptr ++ [Ptr x]).length = i + 1 := by simp <;> omega
        rw [el2] at hB2
        refine ⟨_, [w.heap.size], rfl, .inr ⟨w.heap.size, List.replicate (G - (ps.length + 1)) (Value.pointer none), ?_, ?_, ?_, ?_, rfl⟩, hO, fun k hk => .inr (by rw [List.mem_singleton.1 hk]; exact Nat.le_refl _)⟩
        · simp <;> omega
        · exact hB2.eq (by simp)
        · unfold maxLen at hG2; simp <;> omega
        · simp <;> omega

end Go.Proofs.YtbheebpfbabffaaGreat.Wat

namespace Go.Proofs.YtbheebpfbabffaaGreat.Wat
open Go.RowKit Go Go.Lib Mach

set_option maxHeartbeats 4000000 in
set_option maxRecDepth 100000 in
theorem cloI (b off c : Nat) (ps : List Nat) (w : World) (hp : 0 < ps.length) (hn : ps.length ≤ 1000) (hc : ∀ j u, (ps.map Ptr)[j]? = some u → w.cell? ⟨b, off + j, none⟩ = some u) :
    Calls Tryz.prog 222 #[.slice (some ⟨b, off, none⟩) ps.length c] w fun e w' =>
      ∃ v' k, e = .returned v' ∧ Arr w' v' ps [k] ∧ Below w.heap.size w w' ∧ w.heap.size ≤ k := by
  obtain ⟨i0, hi0, hz0, hzs, hzb⟩ := info_parts iE_info
  have hbw : b < w.heap.size := World.block_lt_of_cell? _ _ (hc 0 _ (List.getElem?_eq_getElem (by simpa using hp)))
  obtain ⟨W, hW⟩ : ∃ W, W = w.alloc (.cells #[] 262) := ⟨_, rfl⟩
  have hWs : W.heap.size = w.heap.size + 1 := by rw [hW]; simp
  have hsrc : Src Tryz.prog i0.size 294 (.slice (some ⟨b, off, none⟩) ps.length c) ps.length (ps.map Ptr) W := by
    rw [hzs, hW]
    exact Src.ofSlice _ Tryz.underlying294 ⟨b, off, none⟩ ps.length c (ps.map Ptr) (by simp) (fun j u hj => by rw [Addr.add_lit, alloc_old _ _ hbw]; exact hc j u hj) (ptrs_one ps)
  have hold : (Builtin.firstCells i0.size 0 (.slice (some ⟨w.heap.size, 0, none⟩) 0 0)).run Tryz.prog W.drew = .ok ([] : List Value).toArray W.drew := by
    rw [hzs]
    exact run_firstCells_some W.drew 1 0 _ 0 0 [] rfl (fun j v hj => by simp at hj)
  have hrun : ∀ ty, (Builtin.append_ #[294, 294] ty #[.slice (some ⟨w.heap.size, 0, none⟩) 0 0, .slice (some ⟨b, off, none⟩) ps.length c]).run Tryz.prog W = _ := fun ty =>
    run_append_grow_src W 294 294 ty 262 i0 _ Tryz.underlying294 hi0 hz0 (some ⟨w.heap.size, 0, none⟩) 0 0 [] hold _ ps.length (ps.map Ptr) hsrc (by omega) (by omega) (by rw [hzb]; exact growslice_fits (by omega) (by omega))
  have heq : ∀ (w : World) (n c n' c' : Nat) (a : Addr), (binOp .eql 294 (.slice (some a) n c) (.slice none n' c')).run Tryz.prog w = .ok (.bool false) w := fun w n c n' c' a => by
    have := Lib.run_eql_slice_nil (P := Tryz.prog) w 294 _ (some a) n c n' c' Tryz.underlying294
    simpa using this
  clear hsrc hold hc
  rw [hW] at hrun
  go_enter Tryz.func222, Tryz.ntmps222
  go_wp2_with (at_builtin; refine Lib.wpList_append_run _ rfl _ _ _ _ rfl _ _ rfl rfl _ _ (hrun _) ?_)
  go_ret
  simp only [Nat.zero_add]
  rw [← hW]
  have hG := grownCap_ge W ps.length 0 262
  have hG2 := grownCap_le_maxLen W ps.length 0 262 (by unfold maxLen; omega)
  generalize grownCap W ps.length 0 262 = G at *
  have hb0 := bmore (Below.refl w.heap.size w) (.cells #[] 262)
  rw [← hW] at hb0
  refine ⟨_, W.heap.size, rfl, .inr ⟨W.heap.size, List.replicate (G - ps.length) (Value.pointer none), ?_, ?_, ?_, ?_, rfl⟩, bmore hb0.drew _, by omega⟩
  · simp <;> omega
  · refine Blk.eq (Blk.new W.drew _ _) ?_
    apply Array.toList_inj.1
    have hz := zeros_list (Value.pointer none) rfl (G - ps.length)
    change (Builtin.zeroCells #[Value.pointer none] _).toList = _ at hz
    rw [Array.toList_append, hz]
  · unfold maxLen at hG2; simp <;> omega
  · simp <;> omega
end Go.Proofs.YtbheebpfbabffaaGreat.Wat

