/- Joined: a part of the proof of TopWatches. -/
import Derived.Sort.OwnSorted
import Derived.Test.YtbheebpfbabffaaGreatVI
set_option linter.unusedSimpArgs false
set_option linter.unusedVariables false
namespace Go.Proofs.YtbheebpfbabffaaGreat.Wat
open Go.RowKit Go Go.Lib Mach Go.MapKept Go.Sort

theorem Txts.strs {w : World} {base : Nat} {v : Value} {n : Nat} (h : Txts w base v n) : ∃ ss : List (List UInt8), ss.length = n ∧ w.ownsRow base StrT 1 v n (ss.map encStr) := by
  obtain ⟨xs, h, hx⟩ := h
  have : ∃ ss : List (List UInt8), xs = ss.map encStr := by
    clear h
    induction xs with
    | nil => exact ⟨[], rfl⟩
    | cons x xs ih =>
      obtain ⟨ss, hs⟩ := ih (fun y hy => hx y (by simp [hy]))
      obtain ⟨s, rfl⟩ := hx x (by simp)
      exact ⟨s.data.toList :: ss, by rw [hs]; simp [encStr]⟩
  obtain ⟨ss, rfl⟩ := this
  exact ⟨ss, by have := h.1; simpa using this, h⟩
theorem Txts.of {w : World} {base : Nat} {v : Value} {n : Nat} {ss : List (List UInt8)} (h : w.ownsRow base StrT 1 v n (ss.map encStr)) : Txts w base v n :=
  ⟨_, h, fun x hx => by
    obtain ⟨s, -, rfl⟩ := List.mem_map.1 hx
    exact ⟨_, rfl⟩⟩
theorem below_grown {w w' : World} {base g : Nat} (h : w.grownBy w' (some g)) (hg : base ≤ g) (hb : base ≤ w.heap.size) : Below base w w' := ⟨h.os, h.tape, h.output, h.size, fun k hk => h.block k (by omega) (fun e => by cases e; omega)⟩

theorem sort_t {w : World} {base : Nat} {v : Value} {n : Nat} (h : Txts w base v n) (hn : n ≤ 1000000000) (hb : base ≤ w.heap.size) :
    Calls Tryz.prog 172 #[v] w fun e w' => e = .returned (.tuple #[]) ∧ Txts w' base v n ∧ Below base w w' := by
  obtain ⟨ss, rfl, h⟩ := h.strs
  rcases h.2 with ⟨rfl, h0⟩ | ⟨g, cap, cur, rfl, hbase, hbb, h1, h2, h3, h4⟩
  · refine (Tryz.slices_Sort_string_none none 0 w).mono ?_
    rintro e w' ⟨rfl, rfl⟩
    exact ⟨rfl, Txts.of h, Below.refl _ _⟩
  · refine (Tryz.slices_Sort_string g 0 cap ss w (holds_of_block hbb (by simpa using h4)) (Array.getElem?_eq_some_iff.1 hbb).1 (by omega)).mono ?_
    rintro e w' ⟨rfl, q, os, rfl⟩
    exact ⟨rfl, Txts.of (ownsRow_sorted (by simp) hbase hbb h1 h2 h3), below_grown (grownBy_sorted _) hbase hb⟩

theorem owns_less {w : World} {base : Nat} {e : TypeId} {g n cap m : Nat} {xs : List Value} (h : w.ownsRow base e 1 (.slice (some ⟨g, 0, none⟩) n cap) n xs) (hm : m ≤ n) : w.ownsRow base e 1 (.slice (some ⟨g, 0, none⟩) m cap) m (xs.take m) := by
  have hl := h.1
  refine ⟨by rw [List.length_take]; omega, ?_⟩
  rcases h.2 with ⟨h, -⟩ | ⟨g', cap', cur, hv, hb', hh, hn, hc, hs, ht⟩
  · cases h
  · cases hv
    refine .inr ⟨g, cap, cur, rfl, hb', hh, by omega, hc, hs, ?_⟩
    rw [← ht, List.take_take]
    congr 1
    omega
theorem compact_t {w : World} {base : Nat} {v : Value} {n : Nat} (h : Txts w base v n) (hn : n ≤ 1000000000) (hb : base ≤ w.heap.size) :
    Calls Tryz.prog 173 #[v] w fun e w' => (∃ v' n', e = .returned v' ∧ n' ≤ n ∧ Txts w' base v' n') ∧ Below base w w' := by
  obtain ⟨ss, rfl, h⟩ := h.strs
  rcases h.2 with ⟨rfl, h0⟩ | ⟨g, cap, cur, rfl, hbase, hbb, h1, h2, h3, h4⟩
  · refine (Tryz.slices_Compact_string_empty none 0 w).mono ?_
    rintro e w' ⟨rfl, rfl⟩
    exact ⟨⟨_, 0, rfl, Nat.zero_le _, Txts.of (ss := []) (World.ownsRow_nil _ _ _ _)⟩, Below.refl _ _⟩
  · refine (Tryz.slices_Compact_string g 0 cap ss w (holds_of_block hbb (by simpa using h4)) (by omega) h1).mono ?_
    rintro e w' ⟨rfl, q, rfl⟩
    have hle : (Lib.compact ss).length ≤ ss.length := Lib.compact_length_le ss
    have := ownsRow_sorted (n := q) (os := #[]) (ss := ss) (ts := Lib.compact ss ++ List.replicate (ss.length - (Lib.compact ss).length) []) (by simp; omega) hbase hbb h1 h2 h3
    rw [grow_empty] at this
    have h5 := grownBy_sorted (w := w) (g := g) (n := q) (os := #[]) (Lib.compact ss ++ List.replicate (ss.length - (Lib.compact ss).length) []).toArray
    rw [grow_empty] at h5
    have h6 := owns_less this hle
    rw [← List.map_take] at h6
    exact ⟨⟨_, _, rfl, hle, Txts.of h6⟩, below_grown h5 hbase hb⟩

theorem Iter.ne_row {w : World} {d : TypeDesc} {b r : Nat} {l left : List MapEntry} {base : Nat} {e : TypeId} {size n : Nat} {v : Value} {xs : List Value} (h : Iter w d b r l left) (ho : w.ownsRow base e size v n xs) : ∀ y, v.ownBlock = some y → y ≠ r ∧ y ≠ b := by
  obtain ⟨c, s, sn, c0, hb', hs, hk, hr', -⟩ := h
  intro y hy
  rcases ho.2 with ⟨rfl, _⟩ | ⟨g, cap, cur, rfl, _, hb, _⟩
  · cases hy
  · cases hy
    constructor
    · rintro rfl
      rw [hr'] at hb
      cases hb
    · rintro rfl
      rw [hb'] at hb
      cases hb
theorem Txts.app {w' : World} {base : Nat} {v' : Value} {n : Nat} {xs : List Value} {s : ByteArray} (h : ∀ x ∈ xs, ∃ s, x = .string s) (ho : w'.ownsRow base StrT 1 v' (n + 1) (xs ++ [.string s])) : Txts w' base v' (n + 1) := ⟨_, ho, fun x hx => by
  rcases List.mem_append.1 hx with hx | hx
  · exact h x hx
  · exact ⟨s, List.mem_singleton.1 hx⟩⟩

set_option maxHeartbeats 4000000 in
set_option maxRecDepth 100000 in
theorem wkeys_t {w : World} {sb wr rev C P : Nat} {chs : List Ver} {Ks : List Value} {L : List Chg} {S W : List Nat} (h : Tx w sb wr rev C P chs Ks L S W) (hC : C ≤ 1000000) (hL : P + Ks.length ≤ 1000000) (lo hi : ByteArray) :
    Calls Tryz.prog 154 #[Ptr wr, .string lo, .string hi] w fun e w' => (∃ v n, e = .returned v ∧ n ≤ 3000000 ∧ Txts w' w.heap.size v n) ∧ Below w.heap.size w w' := by
  obtain ⟨hst, ⟨live, lv, bm, bs, hW⟩, hN⟩ := h
  have hLs := hW.size
  have hbl := hW.len
  obtain ⟨slive, xi, vb, cv, SX, es, hs, hix, -⟩ := id hst
  have hbc := hW.blk.cell
  go_enter Tryz.func154, Tryz.ntmps154
  go_wp2_with fail
  go_at_call 69
  refine (skeys_f sb xi C SX _ _ _ _ _ _ lo hi w hs hix hC).mono ?_
  rintro e w1 ⟨⟨v, n, rfl, hn, hT⟩, hb1⟩
  have hbc1 := (hW.blk.keep hb1).cell
  have hm1 := hW.map.keep hb1
  clear hbc
  have hend : ∀ (v : Value) (n : Nat) (w2 : World), n ≤ 3000000 → Txts w2 w.heap.size v n → Below w.heap.size w w2 → True := fun _ _ _ _ _ _ => trivial
  cases hhe : (hi.toList == ([] : List UInt8)) with
  | true =>
    go_wp2_with fail
    go_at_call 172
    refine (sort_t hT (by omega) hb1.size).mono ?_
    rintro e w2 ⟨rfl, hT2, hb2⟩
    go_wp2_with fail
    go_at_call 173
    refine (compact_t hT2 (by omega) (Nat.le_trans hb1.size hb2.size)).mono ?_
    rintro e w3 ⟨⟨v', n', rfl, hn', hT3⟩, hb3⟩
    go_wp2
    go_ret
    exact ⟨⟨v', n', rfl, by omega, hT3⟩, belowNN (belowNN hb1 hb2) hb3⟩
  | false =>
    obtain ⟨i0, hi0, hz0, hz1, hz2⟩ := info_parts str_info
    have hgeq := binOp_string_geq_w
    go_wp2_with (at_range; refine wpList_range_map rfl _ _ rfl _ _ Tryz.underlying278 bm bs rfl hm1 ?_; intro w2 hI2 hb2 hs2)
    go_frame
    have hT2 := hT.keep (w := w1) hb2
    have hB2 := belowN hb1 hb2 (Nat.le_refl _)
    have HK : Aside _ := hm1.key
    clear hs hst hix hW hbc1 hm1 hT
    obtain ⟨r, hr⟩ : ∃ r, r = w1.heap.size := ⟨_, rfl⟩
    have hrb : w.heap.size ≤ r := by rw [hr]; exact hb1.size
    rw [← hr] at hI2 ⊢
    clear hr hs2
    go_loopg [7, 8] bs.length (fun kx s7 _ wq => ∃ (m : Nat) (left : List MapEntry), Txts wq w.heap.size s7 m ∧ Iter wq .string bm r bs left ∧ kx = left.length ∧ m + left.length ≤ n + bs.length ∧ Below w.heap.size w wq)
    case atStart => exact ⟨n, bs, hT2, hI2, rfl, Nat.le_refl _, hB2⟩
    case round =>
      obtain ⟨m, left, hTr, hIr, hkx, hmn, hBr⟩ := hrel
      go_wp2_with (at_next; refine wpList_next_map rfl _ rfl bm r bs left rfl hIr ?_ ?_)
      · intro h0
        go_wp2_with fail
        go_at_call 172
        refine (sort_t hTr (by omega) hBr.size).mono ?_
        rintro e w2 ⟨rfl, hT2, hb2⟩
        go_wp2_with fail
        go_at_call 173
        refine (compact_t hT2 (by omega) (Nat.le_trans hBr.size hb2.size)).mono ?_
        rintro e w3 ⟨⟨v', n', rfl, hn', hT3⟩, hb3⟩
        go_wp2
        go_ret
        exact ⟨⟨v', n', rfl, by omega, hT3⟩, belowNN (belowNN hBr hb2) hb3⟩
      · intro x left' w3 hx hxl hlt hsub hI3 hO3 hs3 hen
        clear hs3
        obtain ⟨ks, hks⟩ := isKey_str rfl (HK.out x hx)
        rw [hks] at hen ⊢
        have hB3 : Below w.heap.size w w3 := ⟨hO3.os.trans hBr.os, hO3.tape.trans hBr.tape, hO3.output.trans hBr.output, Nat.le_trans hBr.size hO3.size, fun i hi => (hO3.block i (by have := hBr.size; omega) (by omega)).trans (hBr.block i hi)⟩
        obtain ⟨xs, hTx, hxs⟩ := hTr
        have hT3 := own_keep hTx hO3 (fun y hy => (hIr.ne_row hTx y (by simpa [blk] using hy)).1)
        have hgo : ∀ (v' : Value) (m' : Nat) (w4 : World), Txts w4 w.heap.size v' m' → m' ≤ m + 1 → Iter w4 .string bm r bs left' → Below w.heap.size w w4 → ∃ (m : Nat) (left : List MapEntry), Txts w4 w.heap.size v' m ∧ Iter w4 .string bm r bs left ∧ left'.length = left.length ∧ m + left.length ≤ n + bs.length ∧ Below w.heap.size w w4 :=
          fun v' m' w4 h1 h2 h3 h4 => ⟨m', left', h1, h3, rfl, by omega, h4⟩
        cases hq1 : Op.bytesLess ks.toList lo.toList with
        | true =>
          go_wp2
          go_roundg left'.length
          case measure => omega
          case rel => exact hgo _ _ _ ⟨xs, hT3, hxs⟩ (Nat.le_succ _) hI3 hB3
        | false =>
          cases hq2 : Op.bytesLess ks.toList hi.toList with
          | false =>
            go_wp2
            go_roundg left'.length
            case measure => omega
            case rel => exact hgo _ _ _ ⟨xs, hT3, hxs⟩ (Nat.le_succ _) hI3 hB3
          | true =>
            have hrc : ∀ o : Obj, (w3.alloc o).ownsRow w.heap.size StrT 1 u7 m xs := fun o => own_below hT3 ((Below.refl _ _).alloc (Nat.le_refl _) _)
            have hH : ∀ o : Obj, (w3.alloc o).heap.size = w3.heap.size + 1 := fun o => by simp
            have hmx : m + 1 ≤ maxLen := by unfold maxLen; omega
            have hkk : (m + 1) * 16 ≤ 140737488355328 := by omega
            go_wp2_with (at_builtin; refine wpList_append_lies _ rfl _ _ 154 rfl w.heap.size StrT i0 (.string ⟨#[]⟩) 1 16 Tryz.underlying154 hi0 hz0 hz1 hz2 rfl (by decide) _ m xs rfl (hrc _) ⟨w3.heap.size, 0, none⟩ 1 1 [.string ks] rfl rfl (fun j u hj => by rw [Addr.add_lit, Nat.zero_add]; exact (alloc_new w3 _ _ j).trans (by simpa using hj)) (by intro u hu; simp at hu; rcases hu with rfl; rfl) (by decide) hmx hkk (by rw [hH]; have := hB3.size; omega) (w3.heap.size + 1) (hH _) (fun g cap w4 hown hgb hat hgl => ?_))
            go_roundg left'.length
            case measure => omega
            case rel =>
              have hO4 : Only (fun y => u7.ownBlock = some y) w3 w4 := only_grown ((Only.refl _ w3).alloc _) hgb (fun y hy _ => hy)
              refine hgo _ _ w4 (Txts.app hxs hown) (Nat.le_refl _) (hI3.only hO4 (fun e => (hI3.ne_row hT3 _ e).2 rfl) (fun e => (hI3.ne_row hT3 _ e).1 rfl)) ?_
              exact belowNN hB3 (hO4.below _ hB3.size (fun k hk e => by have := (own_lt hT3 k (by simpa [blk] using e)).1; omega))
end Go.Proofs.YtbheebpfbabffaaGreat.Wat

namespace Go.Proofs.YtbheebpfbabffaaGreat.Wat
open Go.RowKit Go Go.Lib Mach Go.MapKept

theorem Tx.closed {w : World} {sb wk rev C P : Nat} {chs : List Ver} {Ks : List Value} {L : List Chg} {S W : List Nat} (h : Tx w sb wk rev C P chs Ks L S W) :
    Calls Tryz.prog 153 #[Ptr wk] w fun e w' => e = .returned (.bool false) ∧ w = w' := by
  obtain ⟨⟨_, _, _, _, _, _, hs, _⟩, ⟨_, _, _, _, hw⟩, _⟩ := h
  exact closed_f sb wk _ _ _ _ _ _ _ _ _ w hs hw.blk
theorem tx_step {w wa w5 : World} {sb wk rev C P : Nat} {chs : List Ver} {Ks : List Value} {L3 : List Chg} {S W W2 W3 : List Nat} (hW : Nd W) (hO : Only (fun y => y ∈ W) w wa) (hG : Grow w W W2) (hO2 : Only (fun y => y ∈ W2) wa w5) (hG2 : Grow wa W2 W3) (hlt : ∀ y ∈ W2, y < wa.heap.size) :
    Only (fun y => y ∈ W) w w5 ∧ Grow w W W3 := ⟨hO.trans hO2 (fun y hy hm => hG.mem hy hm), hG.trans hO.size hG2⟩

set_option maxHeartbeats 4000000 in
set_option maxRecDepth 100000 in
theorem del_t {w : World} {sb wk rev C P : Nat} {chs : List Ver} {Ks : List Value} {L : List Chg} {S W : List Nat} (h : Tx w sb wk rev C P chs Ks L S W) (hC : C ≤ 1000000) (hL : P + Ks.length ≤ 1000000) (lo hi : ByteArray) :
    Calls Tryz.prog 125 #[Ptr wk, .string lo, .string hi] w fun e w' => (∃ x : Int, e = .returned (.int .i64 x)) ∧ TxPost w sb wk rev C P chs Ks S W w' := by
  have hT := h
  obtain ⟨hst, ⟨live, lv, bm, bs, hW⟩, hN⟩ := h
  have hSlt := hst.lt
  have hWlt := hW.lt
  have hKo := hst.keys_ok
  have hcl := hT.closed
  go_enter Tryz.func125, Tryz.ntmps125
  go_wp2_with fail
  go_at_call 153
  refine hcl.mono ?_
  rintro e w0 ⟨rfl, rfl⟩
  go_wp2_with fail
  go_at_call 154
  refine (wkeys_t hT hC hL lo hi).mono ?_
  rintro e w1 ⟨⟨v, n, rfl, hn, hTx⟩, hb1⟩
  have hT1 := hT.keep hb1
  have hvW : ∀ y ∈ blk v, y ∉ W := fun y hy hm => by
    obtain ⟨xs, ho, -⟩ := hTx
    have := (own_lt ho y hy).1
    have := hWlt y hm
    omega
  have hNW := nd_right hN
  clear hW hst hcl
  obtain ⟨a, c, rfl⟩ := hTx.shape
  clear hT
  go_wp2
  have hO1 : Only (fun y => y ∈ W) w w1 := Only.of_below hb1
  have hG1 : Grow w W W := ⟨fun _ _ => Nat.le_refl _, fun a _ => hNW a⟩
  go_loopg [7, 9, 10, 11, 12, 13, 21] n (fun kx s7 _ _ _ _ _ s21 wq => ∃ (j : Nat) (m : Int) (L2 : List Chg) (W2 : List Nat), s21 = .int .i64 j ∧ s7 = .int .i64 m ∧ j ≤ n ∧ kx = n - j ∧ Tx wq sb wk rev C P chs Ks L2 S W2 ∧ Grow w W W2 ∧ Only (fun y => y ∈ W) w wq ∧ Txts wq w.heap.size (.slice a n c) n ∧ ∀ y ∈ blk (.slice a n c), y ∉ W2)
  case atStart => exact ⟨0, 0, L, W, rfl, rfl, Nat.zero_le _, rfl, hT1, hG1, hO1, hTx, hvW⟩
  case round =>
    obtain ⟨j, m, L2, W2, rfl, rfl, hj, hkx, hTr, hGr, hOr, hTxr, hvr⟩ := hrel
    by_cases hjn : j = n
    · subst hjn
      go_wp2
      go_ret
      exact ⟨⟨_, rfl⟩, hOr, L2, W2, hTr, hGr⟩
    · obtain ⟨g, cap, k, e, hcell⟩ := hTxr.at j (by omega)
      cases e
      have hjl : j < n := by omega
      obtain ⟨hst2, ⟨live2, lv2, bm2, bs2, hW2⟩, hN2⟩ := id hTr
      have hbc := hW2.blk.cell
      have hLs := hW2.size
      have hWl2 := hW2.lt
      have hnext : ∀ (m2 : Int) (w5 : World) (L3 : List Chg) (W3 : List Nat), Tx w5 sb wk rev C P chs Ks L3 S W3 → Only (fun y => y ∈ W2) wr w5 → Grow wr W2 W3 → ∃ (j2 : Nat) (m : Int) (L2 : List Chg) (W2 : List Nat), Value.int .i64 ((j : Int) + 1) = .int .i64 j2 ∧ Value.int .i64 m2 = .int .i64 m ∧ j2 ≤ n ∧ n - (j + 1) = n - j2 ∧ Tx w5 sb wk rev C P chs Ks L2 S W2 ∧ Grow w W W2 ∧ Only (fun y => y ∈ W) w w5 ∧ Txts w5 w.heap.size (.slice (some ⟨g, 0, none⟩) n c) n ∧ ∀ y ∈ blk (.slice (some ⟨g, 0, none⟩) n c), y ∉ W2 := fun m2 w5 L3 W3 h1 h2 h3 => by
        obtain ⟨h4, h5⟩ := tx_step (sb := sb) (wk := wk) (rev := rev) (C := C) (P := P) (chs := chs) (Ks := Ks) (L3 := L3) (S := S) hNW hOr hGr h2 h3 hWl2
        refine ⟨j + 1, m2, L3, W3, by simp, rfl, by omega, rfl, h1, h5, h4, ?_, fun y hy hm => ?_⟩
        · obtain ⟨xs, ho, hxs⟩ := hTxr
          exact ⟨xs, own_keep ho h2 hvr, hxs⟩
        · obtain ⟨xs, ho, hxs⟩ := hTxr
          exact hvr y hy (h3.mem (own_lt ho y hy).2 hm)
      have hG2 : Grow wr W2 W2 := ⟨fun _ _ => Nat.le_refl _, fun a _ => nd_right hN2 a⟩
      rcases look_map Tryz.underlying278 Tryz.underlying9 (zero_ch) (key := .string k) (l := bs2) (b := bm2) trivial hW2.map.key with ⟨hno, hl⟩ | ⟨e, he, hk, hl⟩
      · go_wp2_with (at_lookup; refine wpList_look_run rfl _ _ _ _ rfl (hl _ true hW2.map) ?_)
        go_at_call 155
        refine (now_f hst2 hC hW2.blk hW2.map hW2.val k).mono ?_
        rintro e w3 ⟨⟨⟨xk, xv, xa, xb, xc, xd⟩, is, rfl, hx⟩, hb3⟩
        unfold KVr.agg
        have HX : Aside _ := hx
        clear hx
        have hbA := fun o => bmore hb3 o
        have hTA := fun o => hTr.keep (hbA o)
        have hWA := fun o => hW2.only (Only.of_below (F := fun _ => False) (hbA o)) (fun _ _ h => h)
        have hcA := fun o => (hWA o).blk.cell
        clear hbc
        cases is with
        | false =>
          go_wp2
          go_roundg (n - (j + 1))
          case measure => omega
          case rel => exact hnext _ _ _ _ (hTA _) (Only.of_below (hbA _)) hG2
        | true =>
          have hkey : Value.string k ∈ Ks := by
            rcases (HX.out (by first | rfl | trivial)).1 with h | ⟨e, he, hk⟩
            · exact h
            · exact absurd hk (hno e he)
          go_wp2_with fail
          go_at_call 158
          refine (lay_f (c := .del k) (P' := P) (hWA _) (nd_right hN2) (hKo k hkey) (fun x e => by cases e) (Nat.le_refl _) (fun k' e => by cases e; exact ⟨hkey, hno⟩) (by omega)).mono ?_
          rintro e w5 ⟨rfl, hO5, W3, lv3, bs3, hW3, hG3, -⟩
          have hc5 := hW3.blk.cell
          have hf5 := hW3.blk.frz
          clear hcA
          go_wp2
          go_roundg (n - (j + 1))
          case measure => omega
          case rel =>
            have hOA : Only (fun y => y ∈ W2) wr w5 := (Only.of_below (hbA _)).trans hO5 (fun _ _ h => h)
            have hGA : Grow wr W2 W3 := ⟨fun a ha => hG3.1 a (by have := (hbA (.cells #[] 0)).size; have := hb3.size; simp; omega), fun a ha => by
              by_cases h2 : a < w3.heap.size + 1
              · exact Nat.le_trans (hG3.1 a (by simp; omega)) (nd_right hN2 a)
              · exact hG3.2 a (by simp; omega)⟩
            have hN3 := nd_grow hN2 hst2.lt hGA
            have hOB := hOA.set ⟨wk, 3, none⟩ (fun _ => by rw [hW2.foot]; simp) (.int .i64 (wrap64 (live2 - 1)))
            exact hnext _ _ _ _ ⟨hst2.only hOB (nd_apart hN2), ⟨_, _, _, _, hW3.setLive (nd_right hN3) _⟩, hN3⟩ hOB hGA
      · obtain ⟨cv, hcv, -⟩ := hW2.val e he
        go_wp2_with (at_lookup; refine wpList_look_run rfl _ _ _ _ rfl (hl _ true hW2.map) ?_)
        go_at_call 155
        refine (now_f hst2 hC hW2.blk hW2.map hW2.val k).mono ?_
        rintro e w3 ⟨⟨⟨xk, xv, xa, xb, xc, xd⟩, is, rfl, hx⟩, hb3⟩
        unfold KVr.agg
        clear hx
        have hbA := fun o => bmore hb3 o
        have hTA := fun o => hTr.keep (hbA o)
        cases is with
        | false =>
          go_wp2
          go_roundg (n - (j + 1))
          case measure => omega
          case rel => exact hnext _ _ _ _ (hTA _) (Only.of_below (hbA _)) hG2
        | true =>
          go_wp2
          go_roundg (n - (j + 1))
          case measure => omega
          case rel => exact hnext _ _ _ _ (hTA _) (Only.of_below (hbA _)) hG2
end Go.Proofs.YtbheebpfbabffaaGreat.Wat

