/- What the law of lists keeps in memory while it writes its text. -/
import Derived.Test.YtdpaiaeaamokeaaDoorCronListP
import Derived.Test.YtdpaiaeaamokeaaDoorCronF
import Derived.Test.YtdpaiaeaamokeaaDoorRefNextP
import Derived.BigQuiet
import Derived.Laws.IdiomStrings
namespace Go.Proofs.YtdpaiaeaamokeaaDoor.Cron
open Go.RowKit Go Go.Proofs.YtdpaiaeaamokeaaDoor.Cal

theorem zero48 : Tryd.zeroCells48 = Array.replicate 180 (.bool false) := by kernel_rfl
structure FI (B : Nat) (w wr : World) (R : Array Value) (A0 A1 A2 : List Nat) (P0 P1 P2 : ByteArray) : Prop where
  bel : Below w.heap.size w wr
  base : w.heap.size ≤ B
  top : B + 3 < wr.heap.size
  row : ∀ o, wr.cell? ⟨B, o, none⟩ = R[o]?
  most : ∀ o, wr.cell? ⟨B + 1, o, none⟩ = (#[.int .i64 60, .int .i64 24, .int .i64 12] : Array Value)[o]?
  part : ∀ o, wr.cell? ⟨B + 1 + 1 + 1, o, none⟩ = (#[.string P0, .string P1, .string P2] : Array Value)[o]?
  hfz : ∀ o, wr.frozen? ⟨B + 1 + 1, o, none⟩ = false
  pfz : ∀ o, wr.frozen? ⟨B + 1 + 1 + 1, o, none⟩ = false
  has0 : ∀ n, n < 60 → wr.cell? ⟨B + 1 + 1, n, none⟩ = some (.bool (decide (n ∈ A0)))
  has1 : ∀ n, n < 60 → wr.cell? ⟨B + 1 + 1, 60 + n, none⟩ = some (.bool (decide (n ∈ A1)))
  has2 : ∀ n, n < 60 → wr.cell? ⟨B + 1 + 1, 120 + n, none⟩ = some (.bool (decide (n ∈ A2)))

section
variable {B : Nat} {w wr : World} {R : Array Value} {A0 A1 A2 : List Nat} {P0 P1 P2 : ByteArray}
theorem FI.keep (h : FI B w wr R A0 A1 A2 P0 P1 P2) {w' : World} (hb : Below wr.heap.size wr w') : FI B w w' R A0 A1 A2 P0 P1 P2 := by
  obtain ⟨a, b, c, d, e, f, g, i, j, k, l⟩ := h
  refine ⟨bthen a hb, b, Nat.lt_of_lt_of_le c hb.size, fun o => (keep0 hb (by omega) o).trans (d o), fun o => (keep0 hb (by omega) o).trans (e o), fun o => (keep0 hb (by omega) o).trans (f o), fun o => (keepF0 hb (by omega) o).trans (g o), fun o => (keepF0 hb (by omega) o).trans (i o), fun o ho => (keep0 hb (by omega) _).trans (j o ho), fun o ho => (keep0 hb (by omega) _).trans (k o ho), fun o ho => (keep0 hb (by omega) _).trans (l o ho)⟩
theorem FI.alloc (h : FI B w wr R A0 A1 A2 P0 P1 P2) (x : Obj) : FI B w (wr.alloc x) R A0 A1 A2 P0 P1 P2 := h.keep (bmore (Below.refl _ _) x)
theorem FI.drewN (h : FI B w wr R A0 A1 A2 P0 P1 P2) (n : Nat) : FI B w (wr.drewN n) R A0 A1 A2 P0 P1 P2 := h.keep (below_drewN (Below.refl _ _) n)
theorem FI.drew (h : FI B w wr R A0 A1 A2 P0 P1 P2) : FI B w wr.drew R A0 A1 A2 P0 P1 P2 := h.keep ((Below.refl _ _).drew)
theorem dec_add (n m : Nat) (A : List Nat) (h : n ≠ m) : decide (n ∈ A ++ [m]) = decide (n ∈ A) := by simp [h]
theorem has_same {A : List Nat} {q : Nat} (off m : Nat) (hm : m < 60) (hc : ∀ n, n < 60 → wr.cell? ⟨q, off + n, none⟩ = some (.bool (decide (n ∈ A)))) :
    ∀ n, n < 60 → (wr.setCell ⟨q, off + m, none⟩ (.bool true)).cell? ⟨q, off + n, none⟩ = some (.bool (decide (n ∈ A ++ [m]))) := by
  intro n hn
  by_cases e : n = m
  · subst e
    rw [cell_same _ _ _ _ (by rw [hc n hn]; rfl)]
    simp
  · rw [World.cell?_setCell_other _ _ _ _ (by first | (simp; done) | (simp; omega)), hc n hn, dec_add n m A e]
theorem has_other {A : List Nat} {q : Nat} (off k : Nat) (v : Value) (hk : k < off ∨ off + 60 ≤ k) (hc : ∀ n, n < 60 → wr.cell? ⟨q, off + n, none⟩ = some (.bool (decide (n ∈ A)))) :
    ∀ n, n < 60 → (wr.setCell ⟨q, k, none⟩ v).cell? ⟨q, off + n, none⟩ = some (.bool (decide (n ∈ A))) := by
  intro n hn
  rw [World.cell?_setCell_other _ _ _ _ (by first | (simp; done) | (simp; omega)), hc n hn]
theorem has_z {A : List Nat} {q : Nat} (hc : ∀ n, n < 60 → wr.cell? ⟨q, n, none⟩ = some (.bool (decide (n ∈ A)))) : ∀ n, n < 60 → wr.cell? ⟨q, 0 + n, none⟩ = some (.bool (decide (n ∈ A))) := by
  intro n hn; rw [Nat.zero_add]; exact hc n hn
theorem has_y {A : List Nat} {q : Nat} (hc : ∀ n, n < 60 → wr.cell? ⟨q, 0 + n, none⟩ = some (.bool (decide (n ∈ A)))) : ∀ n, n < 60 → wr.cell? ⟨q, n, none⟩ = some (.bool (decide (n ∈ A))) := by
  intro n hn; have := hc n hn; rw [Nat.zero_add] at this; exact this
theorem FI.set0 (h : FI B w wr R A0 A1 A2 P0 P1 P2) (m : Nat) (hm : m < 60) : FI B w (wr.setCell ⟨B + 1 + 1, m, none⟩ (.bool true)) R (A0 ++ [m]) A1 A2 P0 P1 P2 := by
  obtain ⟨a, b, c, d, e, f, g, i, j, k, l⟩ := h
  have j1 := has_same 0 m hm (has_z j)
  rw [Nat.zero_add] at j1
  exact ⟨bset a (by show w.heap.size ≤ B + 1 + 1; omega) _, b, by simpa [World.setCell] using c, fun o => (set_away _ (by omega) _ _ _).trans (d o), fun o => (set_away _ (by omega) _ _ _).trans (e o), fun o => (set_away _ (by omega) _ _ _).trans (f o), fun o => (World.frozen?_setCell _ _ _ _).trans (g o), fun o => (World.frozen?_setCell _ _ _ _).trans (i o), has_y j1, has_other 60 m _ (by omega) k, has_other 120 m _ (by omega) l⟩
theorem FI.set1 (h : FI B w wr R A0 A1 A2 P0 P1 P2) (m : Nat) (hm : m < 60) : FI B w (wr.setCell ⟨B + 1 + 1, 60 + m, none⟩ (.bool true)) R A0 (A1 ++ [m]) A2 P0 P1 P2 := by
  obtain ⟨a, b, c, d, e, f, g, i, j, k, l⟩ := h
  exact ⟨bset a (by show w.heap.size ≤ B + 1 + 1; omega) _, b, by simpa [World.setCell] using c, fun o => (set_away _ (by omega) _ _ _).trans (d o), fun o => (set_away _ (by omega) _ _ _).trans (e o), fun o => (set_away _ (by omega) _ _ _).trans (f o), fun o => (World.frozen?_setCell _ _ _ _).trans (g o), fun o => (World.frozen?_setCell _ _ _ _).trans (i o), has_y (has_other 0 _ _ (by omega) (has_z j)), has_same 60 m hm k, has_other 120 _ _ (by omega) l⟩
theorem FI.set2 (h : FI B w wr R A0 A1 A2 P0 P1 P2) (m : Nat) (hm : m < 60) : FI B w (wr.setCell ⟨B + 1 + 1, 120 + m, none⟩ (.bool true)) R A0 A1 (A2 ++ [m]) P0 P1 P2 := by
  obtain ⟨a, b, c, d, e, f, g, i, j, k, l⟩ := h
  exact ⟨bset a (by show w.heap.size ≤ B + 1 + 1; omega) _, b, by simpa [World.setCell] using c, fun o => (set_away _ (by omega) _ _ _).trans (d o), fun o => (set_away _ (by omega) _ _ _).trans (e o), fun o => (set_away _ (by omega) _ _ _).trans (f o), fun o => (World.frozen?_setCell _ _ _ _).trans (g o), fun o => (World.frozen?_setCell _ _ _ _).trans (i o), has_y (has_other 0 _ _ (by omega) (has_z j)), has_other 60 _ _ (by omega) k, has_same 120 m hm l⟩
theorem cells_setL {W : World} {q : Nat} {A : Array Value} (h : ∀ o, W.cell? ⟨q, o, none⟩ = A[o]?) (i : Nat) (v : Value) (hi : i < A.size) : ∀ o, (W.setCell ⟨q, i, none⟩ v).cell? ⟨q, o, none⟩ = (A.setIfInBounds i v)[o]? := by
  intro o
  by_cases e : i = o
  · subst e
    rw [cell_same _ _ _ _ (by rw [h]; simp [hi]), Array.getElem?_setIfInBounds]
    simp [hi]
  · rw [World.cell?_setCell_other _ _ _ _ (by simp [e]), h, Array.getElem?_setIfInBounds]
    simp [e]
theorem FI.part0 (h : FI B w wr R A0 A1 A2 P0 P1 P2) (T : ByteArray) : FI B w (wr.setCell ⟨B + 1 + 1 + 1, 0, none⟩ (.string T)) R A0 A1 A2 T P1 P2 := by
  obtain ⟨a, b, c, d, e, f, g, i, j, k, l⟩ := h
  exact ⟨bset a (by show w.heap.size ≤ B + 1 + 1 + 1; omega) _, b, by simpa [World.setCell] using c, fun o => (set_away _ (by omega) _ _ _).trans (d o), fun o => (set_away _ (by omega) _ _ _).trans (e o), cells_setL f 0 _ (by simp), fun o => (World.frozen?_setCell _ _ _ _).trans (g o), fun o => (World.frozen?_setCell _ _ _ _).trans (i o), fun n hn => (set_away _ (by omega) _ _ _).trans (j n hn), fun n hn => (set_away _ (by omega) _ _ _).trans (k n hn), fun n hn => (set_away _ (by omega) _ _ _).trans (l n hn)⟩
theorem FI.part1 (h : FI B w wr R A0 A1 A2 P0 P1 P2) (T : ByteArray) : FI B w (wr.setCell ⟨B + 1 + 1 + 1, 1, none⟩ (.string T)) R A0 A1 A2 P0 T P2 := by
  obtain ⟨a, b, c, d, e, f, g, i, j, k, l⟩ := h
  exact ⟨bset a (by show w.heap.size ≤ B + 1 + 1 + 1; omega) _, b, by simpa [World.setCell] using c, fun o => (set_away _ (by omega) _ _ _).trans (d o), fun o => (set_away _ (by omega) _ _ _).trans (e o), cells_setL f 1 _ (by simp), fun o => (World.frozen?_setCell _ _ _ _).trans (g o), fun o => (World.frozen?_setCell _ _ _ _).trans (i o), fun n hn => (set_away _ (by omega) _ _ _).trans (j n hn), fun n hn => (set_away _ (by omega) _ _ _).trans (k n hn), fun n hn => (set_away _ (by omega) _ _ _).trans (l n hn)⟩
theorem FI.part2 (h : FI B w wr R A0 A1 A2 P0 P1 P2) (T : ByteArray) : FI B w (wr.setCell ⟨B + 1 + 1 + 1, 2, none⟩ (.string T)) R A0 A1 A2 P0 P1 T := by
  obtain ⟨a, b, c, d, e, f, g, i, j, k, l⟩ := h
  exact ⟨bset a (by show w.heap.size ≤ B + 1 + 1 + 1; omega) _, b, by simpa [World.setCell] using c, fun o => (set_away _ (by omega) _ _ _).trans (d o), fun o => (set_away _ (by omega) _ _ _).trans (e o), cells_setL f 2 _ (by simp), fun o => (World.frozen?_setCell _ _ _ _).trans (g o), fun o => (World.frozen?_setCell _ _ _ _).trans (i o), fun n hn => (set_away _ (by omega) _ _ _).trans (j n hn), fun n hn => (set_away _ (by omega) _ _ _).trans (k n hn), fun n hn => (set_away _ (by omega) _ _ _).trans (l n hn)⟩
end
theorem fi_start (w wk : World) (R : Array Value) (hb : Below w.heap.size w wk) :
    FI wk.heap.size w ((((wk.alloc (.cells R 22)).alloc (.cells #[.int .i64 60, .int .i64 24, .int .i64 12] 3)).alloc (.cells Tryd.zeroCells48 48)).alloc (.cells #[.string ⟨#[]⟩, .string ⟨#[]⟩, .string ⟨#[]⟩] 49)) R [] [] [] ⟨#[]⟩ ⟨#[]⟩ ⟨#[]⟩ := by
  have e1 : (wk.alloc (.cells R 22)).heap.size = wk.heap.size + 1 := by simp
  have e2 : ((wk.alloc (.cells R 22)).alloc (.cells #[.int .i64 60, .int .i64 24, .int .i64 12] 3)).heap.size = wk.heap.size + 1 + 1 := by simp
  have e3 : (((wk.alloc (.cells R 22)).alloc (.cells #[.int .i64 60, .int .i64 24, .int .i64 12] 3)).alloc (.cells Tryd.zeroCells48 48)).heap.size = wk.heap.size + 1 + 1 + 1 := by simp
  have hz : ∀ n, n < 180 → ((((wk.alloc (.cells R 22)).alloc (.cells #[.int .i64 60, .int .i64 24, .int .i64 12] 3)).alloc (.cells Tryd.zeroCells48 48)).alloc (.cells #[.string ⟨#[]⟩, .string ⟨#[]⟩, .string ⟨#[]⟩] 49)).cell? ⟨wk.heap.size + 1 + 1, n, none⟩ = some (.bool false) := by
    intro n hn
    rw [alloc_old _ _ (by rw [e3]; omega), ← e2, alloc_new, zero48]
    simp [hn]
  refine ⟨bmore (bmore (bmore (bmore hb _) _) _) _, hb.size, by simp, fun o => ?_, fun o => ?_, fun o => ?_, fun o => ?_, fun o => ?_, fun n hn => ?_, fun n hn => ?_, fun n hn => ?_⟩
  · rw [alloc_old _ _ (by rw [e3]; omega), alloc_old _ _ (by rw [e2]; omega), alloc_old _ _ (by rw [e1]; omega), alloc_new]
  · rw [alloc_old _ _ (by rw [e3]; omega), alloc_old _ _ (by rw [e2]; omega), ← e1, alloc_new]
  · rw [← e3, alloc_new]
  · rw [← e2]
    exact (keepF0 (bmore (Below.refl _ _) _) (by rw [e3, e2]; omega) o).trans (World.frozen?_alloc_at _ _ _ o rfl)
  · rw [← e3]
    exact World.frozen?_alloc_at _ _ _ o rfl
  · rw [hz n (by omega)]; simp
  · rw [hz _ (by omega)]; simp
  · rw [hz _ (by omega)]; simp
end Go.Proofs.YtdpaiaeaamokeaaDoor.Cron
namespace Go.Proofs.YtdpaiaeaamokeaaDoor.Cron
open Go.RowKit Go Go.Proofs.YtdpaiaeaamokeaaDoor.Cal
/-- string([]byte{x, y}). -/
theorem conv2L (w : World) (x y : Int) (b cap : Nat) (h0 : w.cell? ⟨b, 0, none⟩ = some (.int .u8 x)) (h1 : w.cell? ⟨b, 1, none⟩ = some (.int .u8 y)) :
    (convert 50 9 (.slice (some ⟨b, 0, none⟩) 2 cap)).run Tryd.prog w = .ok (.string ⟨#[UInt8.ofNat x.toNat, UInt8.ofNat y.toNat]⟩) w := by
  rw [run_convert_bytes_string w _ _ _ _ _ _ Tryd.underlying50 Tryd.underlying5 Tryd.underlying9]
  rw [run_bytesToString w ⟨b, 0, none⟩ 2 cap [x, y] (run_loadCells_list w _ [.int .u8 x, .int .u8 y] (fun j v hj => by
    match j, hj with
    | 0, hj => cases hj; exact h0
    | 1, hj => cases hj; exact h1
    | _ + 2, hj => simp at hj))]
  rfl
theorem dig_u8L (n : Nat) (h : n ≤ 9) : IntKind.u8.wrap (IntKind.i64.wrap (48 + (n : Int))) = ((48 + n : Nat) : Int) := by
  rw [show IntKind.i64.wrap (48 + (n : Int)) = 48 + n by rw [IntKind.wrap_i64]; omega, IntKind.wrap_u8]; omega
theorem map_take (f : Int → Nat) (xs : List Int) (N : List Nat) (h : xs.map f = N) (i : Nat) (hi : i < xs.length) (q : Nat) (hq : f (xs.getD i 0) = q) : N.take (i + 1) = N.take i ++ [q] := by
  subst h
  rw [List.take_succ_eq_append_getElem (by rw [List.length_map]; exact hi), List.getElem_map, ← hq, List.getD_eq_getElem?_getD, List.getElem?_eq_getElem hi]; rfl
theorem part_size (P : ByteArray) (N : List Nat) (i : Nat) (h : P.data.toList = txtN (N.take i)) (hl : N.length ≤ 20) : P.size ≤ 60 := by
  have h1 := txtN_len (N.take i)
  have h2 : (N.take i).length ≤ 20 := by rw [List.length_take]; omega
  have h3 : P.data.toList.length = P.size := by rw [Array.length_toList]; rfl
  rw [h] at h3
  omega
theorem txt_next (P : ByteArray) (N : List Nat) (i q : Nat) (h : P.data.toList = txtN (N.take i)) (hN : N.take (i + 1) = N.take i ++ [q]) (hi : i < N.length) :
    (0 < i → ((P ++ ⟨#[44]⟩) ++ ⟨#[UInt8.ofNat (48 + q / 10), UInt8.ofNat (48 + q % 10)]⟩).data.toList = txtN (N.take (i + 1))) ∧ (¬ 0 < i → (P ++ ⟨#[UInt8.ofNat (48 + q / 10), UInt8.ofNat (48 + q % 10)]⟩).data.toList = txtN (N.take (i + 1))) := by
  have hq : N[i] = q := by
    rw [List.take_succ_eq_append_getElem hi] at hN
    exact (List.cons.inj (List.append_cancel_left hN)).1
  have hs := txtN_take N i hi
  rw [hq] at hs
  refine ⟨fun h0 => ?_, fun h0 => ?_⟩
  · rw [hs, if_neg (by omega)]
    simp [h, dd2]
  · rw [hs, if_pos (by omega)]
    have e : i = 0 := by omega
    subst e
    simp [h, dd2, txtN, Lib.join]
end Go.Proofs.YtdpaiaeaamokeaaDoor.Cron
namespace Go.Proofs.YtdpaiaeaamokeaaDoor.Cron
open Go.RowKit Go Go.Proofs.YtdpaiaeaamokeaaDoor.Cal
theorem cells_arr (W : World) (b : Nat) : ∃ H : Array Value, ∀ o, W.cell? ⟨b, o, none⟩ = H[o]? := by
  cases h : W.heap[b]? with
  | none => exact ⟨#[], fun o => by simp [World.cell?, h]⟩
  | some x =>
    cases x with
    | cells c t f => exact ⟨c, fun o => by simp [World.cell?, h]⟩
    | _ => exact ⟨#[], fun o => by simp [World.cell?, h]⟩
theorem threeL_keep {b b2 b3 : Nat} {C D E : Array Value} {w W : World} (hc : ∀ o, w.cell? ⟨b, o, none⟩ = C[o]?) (hd : ∀ o, w.cell? ⟨b2, o, none⟩ = D[o]?) (he : ∀ o, w.cell? ⟨b3, o, none⟩ = E[o]?) (hl : b < w.heap.size) (hl2 : b2 < w.heap.size) (hl3 : b3 < w.heap.size) (hb : Below w.heap.size w W) :
    (∀ o, W.cell? ⟨b, o, none⟩ = C[o]?) ∧ (∀ o, W.cell? ⟨b2, o, none⟩ = D[o]?) ∧ (∀ o, W.cell? ⟨b3, o, none⟩ = E[o]?) ∧ Below w.heap.size w W :=
  ⟨fun o => (keep0 hb hl o).trans (hc o), fun o => (keep0 hb hl2 o).trans (hd o), fun o => (keep0 hb hl3 o).trans (he o), hb⟩
theorem of_natL (n : Int) (w : World) (h1 : -1035593280 ≤ n) (h2 : n ≤ 4223371679) :
    Calls Tryd.prog 23 #[.int .i64 n] w fun e w' => (∃ (y d wd : Int) (mo Hn Mn : Nat), e = .returned (.tuple #[.agg #[.int .i64 y, .int .i64 mo, .int .i64 d, .int .i64 Hn, .int .i64 Mn, .int .i64 wd], .int .i64 0]) ∧ Hid (IsDay ((n + 1035593280) / 1440) y mo d) ∧ Hn < 24 ∧ Mn < 60 ∧ mo ≤ 12 ∧ Hid (((n + 1035593280) % 1440 / 60).toNat = Hn) ∧ Hid (((n + 1035593280) % 60).toNat = Mn)) ∧ Below w.heap.size w w' := by
  refine (of_in n _ _ _ w h1 h2 rfl rfl rfl).mono ?_
  rintro e w' ⟨⟨y, m, d, rfl, hd⟩, hb⟩
  have a1 := hd.m1
  have a2 := hd.m12
  refine ⟨⟨y, d, ((n + 1035593280) / 1440 + 1) % 7, m.toNat, ((n + 1035593280) % 1440 / 60).toNat, ((n + 1035593280) % 60).toNat, ?_, ?_, by omega, by omega, by omega, rfl, rfl⟩, hb⟩
  · rw [Int.toNat_of_nonneg (by omega), Int.toNat_of_nonneg (by omega), Int.toNat_of_nonneg (by omega)]
  · show IsDay _ _ _ _
    rw [Int.toNat_of_nonneg (by omega)]; exact hd
theorem map_bd (xs : List Int) (N : List Nat) (f : Int → Nat) (h : xs.map f = N) (lo hi : Nat) (hf : ∀ x, lo ≤ f x ∧ f x ≤ hi) (h0 : xs.length ≠ 0) : N ≠ [] ∧ ∀ n ∈ N, lo ≤ n ∧ n ≤ hi := by
  subst h
  refine ⟨fun e => h0 (by have := congrArg List.length e; simpa using this), fun n hn => ?_⟩
  obtain ⟨x, -, rfl⟩ := List.mem_map.1 hn
  exact hf x
end Go.Proofs.YtdpaiaeaamokeaaDoor.Cron
