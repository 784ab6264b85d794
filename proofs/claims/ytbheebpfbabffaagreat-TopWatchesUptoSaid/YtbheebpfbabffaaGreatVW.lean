/- Joined: a part of the proof of TopWatches. -/
import Derived.Laws.BytesArg
import Derived.Laws.IdiomCopy
import Derived.Deep.OwnRows
import Derived.Test.YtbheebpfbabffaaGreatVA
import Derived.Test.YtbheebpfbabffaaGreatWMc
set_option linter.unusedSimpArgs false
set_option linter.unusedVariables false
namespace Go.Proofs.YtbheebpfbabffaaGreat.Wat
open Go.RowKit Go Go.Lib Mach Go.MapKept

theorem u8_info : (Tryz.prog.info? 5).map (fun i => (i.zero, i.size, i.bytes)) = some (some (.int .u8 0), 1, 1) := by kernel_rfl
theorem u8_size : (Tryz.prog.info? 5).map (·.size) = some 1 := by kernel_rfl
/-- A row of bytes. -/
def U8s (w : World) (g n : Nat) : Prop := (∀ i, i < n → ∃ x : Int, w.cell? ⟨g, i, none⟩ = some (.int .u8 x)) ∧ ∀ i, w.frozen? ⟨g, i, none⟩ = false
theorem U8s.list {w : World} {g n : Nat} (h : U8s w g n) (m : Nat) (hm : m ≤ n) : ∃ xs : List Int, xs.length = m ∧ ∀ j v, (xs.map (Value.int .u8))[j]? = some v → w.cell? ⟨g, j, none⟩ = some v := by
  induction m with
  | zero => exact ⟨[], rfl, fun j v h => by simp at h⟩
  | succ m ih =>
    obtain ⟨xs, hl, hx⟩ := ih (by omega)
    obtain ⟨x, hc⟩ := h.1 m (by omega)
    refine ⟨xs ++ [x], by simp [hl], fun j v hj => ?_⟩
    rw [List.map_append] at hj
    by_cases hjl : j < m
    · rw [List.getElem?_append_left (by simp; omega)] at hj
      exact hx j v hj
    · rw [List.getElem?_append_right (by simp; omega)] at hj
      have hj0 : j - (xs.map (Value.int .u8)).length = 0 := by
        have := (List.getElem?_eq_some_iff.1 hj).1
        simp at this ⊢
        omega
      rw [hj0] at hj
      simp at hj
      obtain rfl : j = m := by simp [hl] at hj0; omega
      rw [← hj]; exact hc
theorem U8s.set {w : World} {g n o : Nat} (h : U8s w g n) (xs : List Int) (ho : o + xs.length ≤ n) : U8s (w.setCells g o (xs.map (Value.int .u8))) g n := by
  refine ⟨fun i hi => ?_, fun i => by rw [World.frozen?_setCells]; exact h.2 i⟩
  by_cases h1 : o ≤ i ∧ i < o + xs.length
  · have := World.cell?_setCells_in g (xs.map (Value.int .u8)) o w (fun j hj => by
      obtain ⟨x, hx⟩ := h.1 (o + j) (by simp at hj; omega)
      rw [hx]; rfl) (i - o) (by simp; omega)
    rw [show o + (i - o) = i by omega] at this
    exact ⟨_, this.trans (by simp; rfl)⟩
  · rw [World.cell?_setCells_out g _ o w ⟨g, i, none⟩ (fun _ _ => by simp; omega)]
    exact h.1 i hi
theorem belowS {N : Nat} {w w' : World} (h : Below N w w') (a : Addr) (ha : N ≤ a.block) (v : Value) : Below N w (w'.setCell a v) :=
  ⟨h.os, h.tape, h.output, by simpa [World.setCell] using h.size, fun k hk => (Below.heap_setCell w' a v k (by omega)).trans (h.block k hk)⟩
theorem below_setCells {N : Nat} {w : World} (g : Nat) (hg : N ≤ g) : ∀ (vs : List Value) (o : Nat) (w' : World), Below N w w' → Below N w (w'.setCells g o vs)
  | [], _, _, h => h
  | v :: vs, o, w', h => by
    rw [World.setCells]
    exact below_setCells g hg vs (o + 1) _ (belowS h ⟨g, o, none⟩ hg v)
theorem setCells_size (g : Nat) : ∀ (vs : List Value) (o : Nat) (w : World), (w.setCells g o vs).heap.size = w.heap.size
  | [], _, _ => rfl
  | v :: vs, o, w => by rw [World.setCells, setCells_size g vs]; simp [World.setCell]

set_option maxHeartbeats 4000000 in
set_option maxRecDepth 100000 in
theorem rep_f (b : Nat) (w : World) (hb : b < w.heap.size) (hc : w.cell? ⟨b, 0, none⟩ = some (.int .u8 255)) : Calls Tryz.prog 123 #[.slice (some ⟨b, 0, none⟩) 1 1, .int .i64 101] w fun e w' =>
    e = .returned (.slice (some ⟨w.heap.size, 0, none⟩) 101 101) ∧ U8s w' w.heap.size 101 ∧ Below w.heap.size w w' := by
  have hmul := fun w => Tryz.bits_Mul 1 101 (by omega) (by omega) w
  obtain ⟨i0, hi0, hz0, hz1, hz2⟩ := info_parts u8_info
  have hmk : ∀ w, (Instr.makeSlice 58 (.int .i64 101) (.int .i64 101)).run Tryz.prog w = .ok (.slice (some ⟨w.heap.size, 0, none⟩) 101 101) (w.alloc (.cells (madeCells #[.int .u8 0] 101) 5)) := fun w => run_make_row (P := Tryz.prog) 58 5 i0 (.int .u8 0) Tryz.underlying58 hi0 hz0 hz1 rfl .i64 .i64 101 (by rw [hz2]; decide) (by decide) w
  have hcp : ∀ W ty, W.cell? ⟨b, 0, none⟩ = some (.int .u8 255) → (W.cell? ⟨w.heap.size, 0, none⟩).isSome = true → W.frozen? ⟨w.heap.size, 0, none⟩ = false → (Builtin.copy_ #[58, 58] ty #[.slice (some ⟨w.heap.size, 0, none⟩) 101 101, .slice (some ⟨b, 0, none⟩) 1 1]).run Tryz.prog W = .ok (goInt 1) (W.setCells w.heap.size 0 [.int .u8 255]) := fun W ty h1 h2 h3 =>
    run_copy_cells W _ _ ty 5 w.heap.size 0 101 101 ⟨b, 0, none⟩ 1 1 [.int .u8 255] Tryz.underlying58 u8_size (by decide) (fun j v hj => by
      rw [Addr.add_lit]
      rcases j with _ | j
      · simp at hj; subst hj; exact h1
      · simp at hj) (fun j hj => by obtain rfl : j = 0 := by simp at hj; omega
                                    exact h2) (fun j hj => by obtain rfl : j = 0 := by simp at hj; omega
                                                              exact h3) (fun v hv => by simp at hv; subst hv; rfl)
  clear hi0 hz0 hz1 hz2
  obtain ⟨wA, hwA⟩ : ∃ wA, wA = w.alloc (.cells (madeCells #[.int .u8 0] 101) 5) := ⟨_, rfl⟩
  have hbA : Below w.heap.size w wA := by rw [hwA]; exact bmore (Below.refl _ _) _
  have hA : U8s wA w.heap.size 101 := by
    rw [hwA]
    refine ⟨fun i hi => ⟨0, ?_⟩, fun i => (Blk.new w _ _).frz i⟩
    rw [alloc_new]
    simp [madeCells, hi]
    rw [Nat.mod_one]; rfl
  have hcA := hcp wA 3 ((World.cell?_of_block (w := w) (hbA.block b hb)).trans hc) (by obtain ⟨x, hx⟩ := hA.1 0 (by omega); rw [hx]; rfl) (hA.2 0)
  obtain ⟨wB, hwB⟩ : ∃ wB, wB = wA.setCells w.heap.size 0 [.int .u8 255] := ⟨_, rfl⟩
  have hbB : Below w.heap.size w wB := by rw [hwB]; exact below_setCells _ (Nat.le_refl _) _ _ _ hbA
  have hB : U8s wB w.heap.size 101 := by rw [hwB]; exact hA.set [255] (by simp)
  have hgl : w.heap.size < wB.heap.size := by rw [hwB, setCells_size, hwA]; simp
  rw [← hwB] at hcA
  rw [hwA] at hcA
  clear hwA hwB hA hbA hcp
  go_enter Tryz.func123, Tryz.ntmps123
  go_wp2_with (first | (go_at_call 156; refine (hmul _).mono ?_; rintro e w1 ⟨rfl, rfl⟩) | (simp only [hmk, Result.andThen_ok]))
  clear hcA hmk hmul hc
  go_loopg [8] 100 (fun kx s8 wq => ∃ n : Nat, s8 = .int .i64 n ∧ 1 ≤ n ∧ n ≤ 101 ∧ kx = 101 - n ∧ U8s wq w1.heap.size 101 ∧ Below w1.heap.size w1 wq)
  case atStart => exact ⟨1, rfl, Nat.le_refl _, by omega, rfl, hB, hbB⟩
  case round =>
    obtain ⟨n, rfl, hn1, hn2, hkx, hU, hbr⟩ := hrel
    by_cases hlt : n < 101
    · obtain ⟨xs, hxl, hxc⟩ := hU.list (min n (101 - n)) (by omega)
      have hcp : (Builtin.copy_ #[58, 58] 3 #[.slice (some ⟨w1.heap.size, n, none⟩) (101 - n) (101 - n), .slice (some ⟨w1.heap.size, 0, none⟩) n 101]).run Tryz.prog wr.drew = .ok (goInt (xs.map (Value.int .u8)).length) (wr.drew.setCells w1.heap.size n (xs.map (Value.int .u8))) :=
        run_copy_cells wr.drew _ _ 3 5 w1.heap.size n (101 - n) (101 - n) ⟨w1.heap.size, 0, none⟩ n 101 (xs.map (Value.int .u8)) Tryz.underlying58 u8_size (by simp [hxl]) (fun j v hj => by
          rw [Addr.add_lit, Nat.zero_add]
          exact hxc j v hj) (fun j hj => by
            obtain ⟨x, hx⟩ := hU.1 (n + j) (by simp at hj; omega)
            have hx' : wr.drew.cell? ⟨w1.heap.size, n + j, none⟩ = _ := hx
            rw [hx']; rfl) (fun j hj => hU.2 _) (fun v hv => by obtain ⟨x, -, rfl⟩ := List.mem_map.1 hv; rfl)
      rw [List.length_map, hxl] at hcp
      have hU2 : U8s (wr.drew.setCells w1.heap.size n (xs.map (Value.int .u8))) w1.heap.size 101 := U8s.set (w := wr.drew) hU xs (by omega)
      have hb2 := below_setCells w1.heap.size (Nat.le_refl _) (xs.map (Value.int .u8)) n _ hbr.drew
      obtain ⟨m, hm⟩ : ∃ m, m = min n (101 - n) := ⟨_, rfl⟩
      rw [← hm] at hcp
      have hm1 : 1 ≤ m := by omega
      have hm2 : n + m ≤ 101 := by omega
      generalize wr.drew.setCells w1.heap.size n (xs.map (Value.int .u8)) = wq at *
      clear hm hxl hxc hU hbr xs hB hbB hgl
      go_wp2_with fail
      go_region
      go_wp2
      go_roundg (101 - (n + m))
      case measure => omega
      case rel => exact ⟨n + m, by simp, by omega, by omega, rfl, hU2, hb2⟩
    · obtain rfl : n = 101 := by omega
      go_wp2
      go_ret
      exact ⟨rfl, hU, hbr⟩
end Go.Proofs.YtbheebpfbabffaaGreat.Wat

namespace Go.Proofs.YtbheebpfbabffaaGreat.Wat
open Go.RowKit Go Go.Lib Mach Go.MapKept

/-- Contains over a row of numbers. -/
theorem contains_f {w : World} {base n : Nat} {v : Value} (h : Ints w base v n) (hn : n ≤ 1000000) (x : Int) : Calls Tryz.prog 124 #[v, .int .i64 x] w fun e w' => AnyBool e ∧ w = w' := by
  obtain ⟨xs, hown, hl⟩ := h
  rcases own_open hown with ⟨rfl, hn0, hx0⟩ | ⟨gb, cap, rfl, -, hgl, hcap, hcell⟩
  · exact (Tryz.slices_Contains_int_empty none 0 x w).mono fun e w' ⟨h1, h2⟩ => ⟨⟨_, h1⟩, h2.symm⟩
  · refine (Tryz.slices_Contains_int gb 0 n cap xs x w (by omega) (by omega) (fun j hj => ?_)).mono fun e w' ⟨h1, h2⟩ => ⟨⟨_, h1⟩, h2.symm⟩
    rw [Nat.zero_add]
    refine hcell j _ ?_
    rw [List.getElem?_map, List.getElem?_eq_getElem hj]
    simp [List.getD_eq_getElem?_getD, hj]
theorem Ints.keep {w w' : World} {base n : Nat} {v : Value} (h : Ints w base v n) (k : Below w.heap.size w w') : Ints w' base v n := by
  obtain ⟨xs, h, hl⟩ := h
  exact ⟨xs, own_below h k, hl⟩
theorem Ints.only {G : Nat → Prop} {w w' : World} {base n : Nat} {v : Value} (h : Ints w base v n) (k : Only G w w') (hG : ∀ y ∈ blk v, ¬ G y) : Ints w' base v n := by
  obtain ⟨xs, h, hl⟩ := h
  exact ⟨xs, own_keep h k hG, hl⟩
theorem Ints.lt {w : World} {base n : Nat} {v : Value} (h : Ints w base v n) : ∀ y ∈ blk v, base ≤ y ∧ y < w.heap.size := by
  obtain ⟨xs, h, -⟩ := h
  exact own_lt h
theorem Ints.at {w : World} {base n : Nat} {v : Value} (h : Ints w base v n) (j : Nat) (hj : j < n) : ∃ g cap x, v = .slice (some ⟨g, 0, none⟩) n cap ∧ w.cell? ⟨g, j, none⟩ = some (.int .i64 x) := by
  obtain ⟨xs, h, hl⟩ := h
  obtain ⟨g, cap, rfl, -, -, -, hc⟩ := own_some h (by omega)
  exact ⟨g, cap, xs[j]'(by omega), rfl, hc j _ (by rw [List.getElem?_map, List.getElem?_eq_getElem (by omega)]; rfl)⟩
theorem ints_one (w : World) (a : Int) : Ints (w.alloc (.cells #[.int .i64 a] 3)) w.heap.size (.slice (some ⟨w.heap.size, 0, none⟩) 1 1) 1 :=
  ⟨[a], ⟨rfl, .inr ⟨w.heap.size, 1, #[.int .i64 a], rfl, Nat.le_refl _, heap_alloc_new w _, Nat.le_refl _, by decide, rfl, rfl⟩⟩, rfl⟩
theorem Kvs.only {G : Nat → Prop} {w w' : World} {base : Nat} {v : Value} {n : Nat} (h : Kvs w base v n) (k : Only G w w') (hG : ∀ y ∈ blk v, ¬ G y) : Kvs w' base v n := by
  obtain ⟨l, hl, h⟩ := h
  exact ⟨l, hl, own_keep h k hG⟩
theorem Kvs.lt {w : World} {base : Nat} {v : Value} {n : Nat} (h : Kvs w base v n) : ∀ y ∈ blk v, base ≤ y ∧ y < w.heap.size := by
  obtain ⟨l, hl, h⟩ := h
  exact own_lt h

/-- Behind the leases: the store's part. -/
def RevMid (w : World) (m : Ids) (cl : Int) (rev C : Nat) (chs : List Ver) (Ks : List Value) (S : List Nat) (w' : World) : Prop := Mc w' m cl rev C chs Ks S ∧ Only (fun y => y = m.bm) w w'

set_option maxHeartbeats 16000000 in
set_option maxRecDepth 100000 in
theorem mrevoke_f {w : World} {m : Ids} {cl : Int} {rev C : Nat} {chs : List Ver} {Ks : List Value} {S : List Nat} (h : Mc w m cl rev C chs Ks S) (hC : C + Ks.length + 32 ≤ 1000000) (hrev : rev ≤ 1000000) {base n : Nat} {v : Value} (hI : Ints w base v n) (hn : n ≤ 2000) (hvF : ∀ y ∈ blk v, y ∉ m.foot S) :
    Calls Tryz.prog 77 #[Ptr m.mb, v] w fun e w' => e = .returned (.tuple #[]) ∧ McPost w m rev C chs Ks S w' := by
  obtain ⟨a, c, rfl⟩ := hI.shape
  have hft := fun y => m.foot_iff S y
  go_enter Tryz.func77, Tryz.ntmps77
  go_wp2
  go_loopg [5, 13] n (fun kx _ s13 wq => ∃ j : Nat, s13 = .int .i64 j ∧ j ≤ n ∧ kx = n - j ∧ RevMid w m cl rev C chs Ks S wq)
  case atStart => exact ⟨0, rfl, Nat.zero_le _, rfl, h, Only.refl _ _⟩
  case round =>
    obtain ⟨j, rfl, hj, hkx, hM, hO⟩ := hrel
    have hIr : Ints wr base (.slice a n c) n := hI.only hO (fun y hy e => hvF y hy ((hft y).2 (by simp [e])))
    have hcm := hM.blk.cell
    by_cases hjl : j < n
    · obtain ⟨g, cap, x, e, hcx⟩ := hIr.at j hjl
      cases e
      obtain ⟨ls, hb⟩ := hM.bk
      go_wp2_with fail
      go_at_call 62
      refine (g_book hM.blk).mono ?_
      rintro e w1 ⟨rfl, rfl⟩
      go_wp2_with fail
      go_at_call 121
      refine (revoke_f hb x).mono ?_
      rintro e w2 ⟨⟨x2, rfl⟩, hbp⟩
      go_wp2
      go_roundg (n - (j + 1))
      case measure => omega
      case rel => exact ⟨j + 1, by simp, by omega, rfl, hM.book hbp, hO.trans hbp.1 (fun _ _ h => h)⟩
    · obtain ⟨op, hst⟩ := hM.st
      go_wp2_with fail
      go_at_call 29
      refine (g_store hM.blk).mono ?_
      rintro e w1 ⟨rfl, rfl⟩
      go_wp2_with fail
      go_at_call 117
      refine (write_f hst).mono ?_
      rintro e w3 ⟨rfl, hTx, hOw, hsw⟩
      have hwk0 : ∃ (wk : Nat) (W : List Nat), wk = wr.heap.size + 1 ∧ W = [wr.heap.size + 1, wr.heap.size] := ⟨_, _, rfl, rfl⟩
      obtain ⟨wk, W, hwk, hWd⟩ := hwk0
      have hWlow : ∀ y ∈ W, wr.heap.size ≤ y := fun y hy => by
        rw [hWd] at hy
        simp at hy
        omega
      rw [← hWd, ← hwk] at hTx
      rw [← hwk]
      clear hwk hWd
      have hsbS : m.sb ∈ S := by
        obtain ⟨_, _, _, _, _, _, _, _, _, _, _, _, _, _, hSe, _⟩ := hst
        rw [hSe]; simp
      have hO3 : Only (fun y => y ∈ S) wr w3 := only_weak hOw (fun y e => e ▸ hsbS)
      have hWN : Nd W := nd_right hTx.2.2
      have hI3 : Ints w3 base (.slice a n c) n := hIr.only hO3 (fun y hy e => hvF y hy ((hft y).2 (by simp [e])))
      go_wp2_with fail
      go_at_call 123
      refine (rep_f w3.heap.size (w3.alloc _) (by simp) (alloc_new w3 _ _ 0)).mono ?_
      rintro e w4 ⟨rfl, hU, hb4⟩
      have hbw4 := bthen (bmore (Below.refl w3.heap.size w3) _) hb4
      obtain ⟨xs, hxl, hxc⟩ := hU.list 101 (Nat.le_refl _)
      have hcv := run_convert_bytes_arg (P := Tryz.prog) w4 58 5 Tryz.underlying58 Tryz.underlying5 (w3.heap.size + 1) 0 101 101 xs hxl (fun i hi => by
        rw [Nat.zero_add, show w3.heap.size + 1 = (w3.alloc (.cells #[.int .u8 255] 5)).heap.size by simp]
        refine hxc i _ ?_
        rw [List.getElem?_map, List.getElem?_eq_getElem (by omega)]
        simp [List.getD_eq_getElem?_getD, show i < xs.length by omega]) 9 Tryz.underlying9
      generalize strOfNums xs = hi at hcv
      clear hxc hxl hU xs
      go_wp2_with fail
      go_at_call 122
      refine (wrange_t (hTx.keep hbw4) (by omega) (by omega) _ hi 0).mono ?_
      rintro e w5 ⟨⟨v5, nk, x5, rfl, hnk, hK⟩, hb5⟩
      have hbw5 := bthen hbw4 hb5
      obtain ⟨a5, c5, rfl⟩ := hK.shape
      have hKlt := hK.lt
      have hT5 := hTx.keep hbw5
      have hWlt : ∀ y ∈ W, y < w3.heap.size := by
        obtain ⟨-, ⟨_, _, _, _, hw⟩, -⟩ := hTx
        exact hw.lt
      have hz4 := hbw4.size
      have hSlt := hst.lt
      have hz0 := hO.size
      have hSw : ∀ y ∈ S, y < w.heap.size := fun y hy => h.lt y ((hft y).2 (by simp [hy]))
      have hvlt := hI.lt
      clear hTx hcv hb4 hb5
      obtain ⟨wo, hwo⟩ : ∃ wo, wo = wr := ⟨_, rfl⟩
      subst hwo
      go_wp2
      go_loopg [10, 39] nk (fun kx _ s39 wq => ∃ (j : Nat) (L2 : List Chg) (W2 : List Nat), s39 = .int .i64 j ∧ j ≤ nk ∧ kx = nk - j ∧ Tx wq m.sb wk rev C 0 chs Ks L2 S W2 ∧ Grow w3 W W2 ∧ Only (fun y => y ∈ W) w3 wq ∧ Kvs wq w4.heap.size (.slice a5 nk c5) nk ∧ ∀ y ∈ blk (.slice a5 nk c5), y ∉ W2)
      case atStart => exact ⟨0, [], W, rfl, Nat.zero_le _, rfl, hT5, ⟨fun _ _ => Nat.le_refl _, fun a _ => hWN a⟩, Only.of_below hbw5, hK, fun y hy hm => by have := (hKlt y hy).1; have := hWlt y hm; omega⟩
      case round =>
        obtain ⟨j2, L2, W2, rfl, hj2, hkx2, hT2, hG2, hO2, hK2, hd2⟩ := hrel
        have hIq : Ints wr base (.slice a n c) n := hI3.only hO2 (fun y hy e => by have := hWlow y e; have := (hvlt y hy).2; omega)
        by_cases hjk : j2 < nk
        · obtain ⟨g5, cap5, x, e, hcx⟩ := hK2.at j2 hjk
          cases e
          obtain ⟨xk, xv, xa, xb, xc, xd⟩ := x
          have e0 : wr.cell? ⟨g5, j2 * 6, none⟩ = _ := hcx 0 _ rfl
          have e1 := hcx 1 _ rfl
          have e2 := hcx 2 _ rfl
          have e3 := hcx 3 _ rfl
          have e4 := hcx 4 _ rfl
          have e5 := hcx 5 _ rfl
          clear hcx
          have hbA := fun o => bmore (Below.refl wr.heap.size wr) o
          go_wp2_with fail
          go_at_call 124
          refine (contains_f (hIq.keep (hbA _)) (by omega) xd).mono ?_
          rintro e w6 ⟨⟨is, rfl⟩, rfl⟩
          have hzr := hO2.size
          have hKb := hK2.lt
          have hW2lt : ∀ y ∈ W2, y < wr.heap.size := by
            obtain ⟨-, ⟨_, _, _, _, hw⟩, -⟩ := hT2
            exact hw.lt
          cases is with
          | false =>
            go_wp2
            go_roundg (nk - (j2 + 1))
            case measure => omega
            case rel => exact ⟨j2 + 1, L2, W2, by simp, by omega, rfl, hT2.keep (hbA _), hG2, hO2.alloc _, hK2.keep (hbA _), hd2⟩
          | true =>
            go_wp2_with fail
            go_at_call 125
            refine (del_t (hT2.keep (hbA _)) (by omega) (by omega) xk ⟨#[]⟩).mono ?_
            rintro e w7 ⟨⟨x7, rfl⟩, hO7, L7, W7, hT7, hG7⟩
            have hO8 : Only (fun y => y ∈ W2) wr w7 := (Only.of_below (hbA _)).trans hO7 (fun _ _ h => h)
            have hG8 : Grow wr W2 W7 := grow_from (by simp) hW2lt hG7
            have hK7 : Kvs w7 w4.heap.size (.slice (some ⟨g5, 0, none⟩) nk c5) nk := hK2.only hO8 hd2
            go_wp2
            go_roundg (nk - (j2 + 1))
            case measure => omega
            case rel => exact ⟨j2 + 1, L7, W7, by simp, by omega, rfl, hT7, hG2.trans hzr hG8, hO2.trans hO8 (fun y hy hm => hG2.mem hy hm), hK7, fun y hy hm => hd2 y hy (hG8.mem (hKb y hy).2 hm)⟩
        · have hLs : L2.length ≤ 0 + Ks.length := by
            obtain ⟨-, ⟨_, _, _, _, hw⟩, -⟩ := hT2
            exact hw.size
          have hOr : Only (fun y => y ∈ S) wo wr := hO3.trans hO2 (fun y hy hm => absurd (hWlow y hm) (by omega))
          go_wp2_with fail
          go_at_call 119
          refine (done_t hT2 (by omega) hrev).mono ?_
          rintro e w6 ⟨⟨rx, rfl⟩, hO6, rev', new, Ks', S', hSt6, hG6, hK6, hnew, hnl⟩
          go_wp2
          go_end0
          have hO8 := hOr.trans hO6 (fun _ _ h => h)
          have hG8 := grow_from hOr.size hSlt hG6
          refine ⟨rfl, (only_weak hO (fun y e => .inr (.inr (.inl e)))).trans (only_weak hO8 (fun y hm => .inr (.inr (.inr hm)))) (fun _ _ h => h), cl, rev', C + L2.length, new, Ks', S', hM.store hO8 hSt6 hG8, grow_from hz0 hSw hG8, by omega, by omega, hnew⟩
end Go.Proofs.YtbheebpfbabffaaGreat.Wat

namespace Go.Proofs.YtbheebpfbabffaaGreat.Wat
open Go.RowKit Go Go.Lib Mach Go.MapKept

/-- What do leaves. -/
def MdPost (w : World) (m : Ids) (rev C : Nat) (chs : List Ver) (Ks : List Value) (S : List Nat) (e : Ending) (w' : World) : Prop :=
  ∃ (er : Int) (b : Bool) (v : Value) (rs : Rs) (b0 : Nat), e = .returned (.agg #[.int .i64 er, .int .i64 0, .bool b, v, .int .i64 0]) ∧ Ress w' b0 v rs ∧ rs.length ≤ 32 ∧ McPost w m rev C chs Ks S w'
abbrev rep0 : Array Value := #[.int .i64 0, .int .i64 0, .bool false, .slice none 0 0, .int .i64 0]
theorem td_trade_trade (vi vt ve : Value) (w : World) : Sem.run Tryz.prog (Instr.typeAssert (.iface 171 (.agg #[vi, vt, ve])) 102 171 true) w = .ok (.tuple #[.agg #[vi, vt, ve], .bool true]) w := by kernel_rfl
theorem td_grant_trade (a b : Int) (w : World) : Sem.run Tryz.prog (Instr.typeAssert (.iface 175 (.agg #[.int .i64 a, .int .i64 b])) 102 171 true) w = .ok (.tuple #[.agg #[.slice none 0 0, .slice none 0 0, .slice none 0 0], .bool false]) w := by kernel_rfl
theorem td_grant_grant (a b : Int) (w : World) : Sem.run Tryz.prog (Instr.typeAssert (.iface 175 (.agg #[.int .i64 a, .int .i64 b])) 102 175 true) w = .ok (.tuple #[.agg #[.int .i64 a, .int .i64 b], .bool true]) w := by kernel_rfl
theorem td_renewal_trade (a : Int) (w : World) : Sem.run Tryz.prog (Instr.typeAssert (.iface 178 (.agg #[.int .i64 a])) 102 171 true) w = .ok (.tuple #[.agg #[.slice none 0 0, .slice none 0 0, .slice none 0 0], .bool false]) w := by kernel_rfl
theorem td_renewal_grant (a : Int) (w : World) : Sem.run Tryz.prog (Instr.typeAssert (.iface 178 (.agg #[.int .i64 a])) 102 175 true) w = .ok (.tuple #[.agg #[.int .i64 0, .int .i64 0], .bool false]) w := by kernel_rfl
theorem td_renewal_renewal (a : Int) (w : World) : Sem.run Tryz.prog (Instr.typeAssert (.iface 178 (.agg #[.int .i64 a])) 102 178 true) w = .ok (.tuple #[.agg #[.int .i64 a], .bool true]) w := by kernel_rfl
theorem td_revocation_trade (a : Int) (w : World) : Sem.run Tryz.prog (Instr.typeAssert (.iface 180 (.agg #[.int .i64 a])) 102 171 true) w = .ok (.tuple #[.agg #[.slice none 0 0, .slice none 0 0, .slice none 0 0], .bool false]) w := by kernel_rfl
theorem td_revocation_grant (a : Int) (w : World) : Sem.run Tryz.prog (Instr.typeAssert (.iface 180 (.agg #[.int .i64 a])) 102 175 true) w = .ok (.tuple #[.agg #[.int .i64 0, .int .i64 0], .bool false]) w := by kernel_rfl
theorem td_revocation_renewal (a : Int) (w : World) : Sem.run Tryz.prog (Instr.typeAssert (.iface 180 (.agg #[.int .i64 a])) 102 178 true) w = .ok (.tuple #[.agg #[.int .i64 0], .bool false]) w := by kernel_rfl
theorem td_revocation_revocation (a : Int) (w : World) : Sem.run Tryz.prog (Instr.typeAssert (.iface 180 (.agg #[.int .i64 a])) 102 180 true) w = .ok (.tuple #[.agg #[.int .i64 a], .bool true]) w := by kernel_rfl
theorem td_clock_trade (a : Int) (w : World) : Sem.run Tryz.prog (Instr.typeAssert (.iface 183 (.agg #[.int .i64 a])) 102 171 true) w = .ok (.tuple #[.agg #[.slice none 0 0, .slice none 0 0, .slice none 0 0], .bool false]) w := by kernel_rfl
theorem td_clock_grant (a : Int) (w : World) : Sem.run Tryz.prog (Instr.typeAssert (.iface 183 (.agg #[.int .i64 a])) 102 175 true) w = .ok (.tuple #[.agg #[.int .i64 0, .int .i64 0], .bool false]) w := by kernel_rfl
theorem td_clock_renewal (a : Int) (w : World) : Sem.run Tryz.prog (Instr.typeAssert (.iface 183 (.agg #[.int .i64 a])) 102 178 true) w = .ok (.tuple #[.agg #[.int .i64 0], .bool false]) w := by kernel_rfl
theorem td_clock_revocation (a : Int) (w : World) : Sem.run Tryz.prog (Instr.typeAssert (.iface 183 (.agg #[.int .i64 a])) 102 180 true) w = .ok (.tuple #[.agg #[.int .i64 0], .bool false]) w := by kernel_rfl
theorem td_clock_clock (a : Int) (w : World) : Sem.run Tryz.prog (Instr.typeAssert (.iface 183 (.agg #[.int .i64 a])) 102 183 true) w = .ok (.tuple #[.agg #[.int .i64 a], .bool true]) w := by kernel_rfl
theorem td_expiry_trade  (w : World) : Sem.run Tryz.prog (Instr.typeAssert (.iface 184 (.agg #[])) 102 171 true) w = .ok (.tuple #[.agg #[.slice none 0 0, .slice none 0 0, .slice none 0 0], .bool false]) w := by kernel_rfl
theorem td_expiry_grant  (w : World) : Sem.run Tryz.prog (Instr.typeAssert (.iface 184 (.agg #[])) 102 175 true) w = .ok (.tuple #[.agg #[.int .i64 0, .int .i64 0], .bool false]) w := by kernel_rfl
theorem td_expiry_renewal  (w : World) : Sem.run Tryz.prog (Instr.typeAssert (.iface 184 (.agg #[])) 102 178 true) w = .ok (.tuple #[.agg #[.int .i64 0], .bool false]) w := by kernel_rfl
theorem td_expiry_revocation  (w : World) : Sem.run Tryz.prog (Instr.typeAssert (.iface 184 (.agg #[])) 102 180 true) w = .ok (.tuple #[.agg #[.int .i64 0], .bool false]) w := by kernel_rfl
theorem td_expiry_clock  (w : World) : Sem.run Tryz.prog (Instr.typeAssert (.iface 184 (.agg #[])) 102 183 true) w = .ok (.tuple #[.agg #[.int .i64 0], .bool false]) w := by kernel_rfl
theorem td_expiry_expiry  (w : World) : Sem.run Tryz.prog (Instr.typeAssert (.iface 184 (.agg #[])) 102 184 true) w = .ok (.tuple #[.agg #[], .bool true]) w := by kernel_rfl
theorem td_nil_trade  (w : World) : Sem.run Tryz.prog (Instr.typeAssert (.nilIface) 102 171 true) w = .ok (.tuple #[.agg #[.slice none 0 0, .slice none 0 0, .slice none 0 0], .bool false]) w := by kernel_rfl
theorem td_nil_grant  (w : World) : Sem.run Tryz.prog (Instr.typeAssert (.nilIface) 102 175 true) w = .ok (.tuple #[.agg #[.int .i64 0, .int .i64 0], .bool false]) w := by kernel_rfl
theorem td_nil_renewal  (w : World) : Sem.run Tryz.prog (Instr.typeAssert (.nilIface) 102 178 true) w = .ok (.tuple #[.agg #[.int .i64 0], .bool false]) w := by kernel_rfl
theorem td_nil_revocation  (w : World) : Sem.run Tryz.prog (Instr.typeAssert (.nilIface) 102 180 true) w = .ok (.tuple #[.agg #[.int .i64 0], .bool false]) w := by kernel_rfl
theorem td_nil_clock  (w : World) : Sem.run Tryz.prog (Instr.typeAssert (.nilIface) 102 183 true) w = .ok (.tuple #[.agg #[.int .i64 0], .bool false]) w := by kernel_rfl
theorem td_nil_expiry  (w : World) : Sem.run Tryz.prog (Instr.typeAssert (.nilIface) 102 184 true) w = .ok (.tuple #[.agg #[], .bool false]) w := by kernel_rfl
theorem td_nil_compaction  (w : World) : Sem.run Tryz.prog (Instr.typeAssert (.nilIface) 102 187 true) w = .ok (.tuple #[.agg #[.int .i64 0], .bool false]) w := by kernel_rfl
end Go.Proofs.YtbheebpfbabffaaGreat.Wat

