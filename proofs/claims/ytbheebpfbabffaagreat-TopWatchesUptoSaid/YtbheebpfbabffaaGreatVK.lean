/- Joined: a part of the proof of TopWatches. -/
import Derived.Test.YtbheebpfbabffaaGreatVJ
set_option linter.unusedSimpArgs false
set_option linter.unusedVariables false
namespace Go.Proofs.YtbheebpfbabffaaGreat.Wat
open Go.RowKit Go Go.Lib Mach Go.MapKept

/-- A row of n keys with their values. -/
def Kvs (w : World) (base : Nat) (v : Value) (n : Nat) : Prop := ∃ l : List KVr, l.length = n ∧ w.ownsRow base KvT 6 v n (kvs l)
theorem Kvs.keep {w w' : World} {base : Nat} {v : Value} {n : Nat} (h : Kvs w base v n) (k : Below w.heap.size w w') : Kvs w' base v n := by
  obtain ⟨l, hl, h⟩ := h
  exact ⟨l, hl, own_below h k⟩
theorem Kvs.shape {w : World} {base : Nat} {v : Value} {n : Nat} (h : Kvs w base v n) : ∃ a c, v = .slice a n c := by
  obtain ⟨xs, -, h⟩ := h
  rcases h.2 with ⟨rfl, rfl⟩ | ⟨g, cap, cur, rfl, -⟩
  · exact ⟨_, _, rfl⟩
  · exact ⟨_, _, rfl⟩
theorem Kvs.app {w' : World} {base : Nat} {v' : Value} {n : Nat} {l : List KVr} {x : KVr} (h : l.length = n) (ho : w'.ownsRow base KvT 6 v' (n + 1) (kvs l ++ x.cells)) : Kvs w' base v' (n + 1) :=
  ⟨l ++ [x], by simp [h], by rw [kvs_append]; simpa [kvs] using ho⟩
theorem Kvs.at {w : World} {base : Nat} {v : Value} {n : Nat} (h : Kvs w base v n) (j : Nat) (hj : j < n) : ∃ g cap x, v = .slice (some ⟨g, 0, none⟩) n cap ∧ ∀ i u, (KVr.cells x)[i]? = some u → w.cell? ⟨g, j * 6 + i, none⟩ = some u := by
  obtain ⟨l, hl, h⟩ := h
  obtain ⟨g, cap, rfl, -, -, -, hc⟩ := own_some h (by omega)
  have hj' : l[j]? = some l[j] := List.getElem?_eq_getElem (by omega)
  refine ⟨g, cap, l[j], rfl, fun i u hi => ?_⟩
  have hi6 : i < 6 := by
    have := (List.getElem?_eq_some_iff.1 hi).1
    simpa [KVr.cells] using this
  rw [Nat.mul_comm]
  exact hc _ _ ((kvs_get hj' i hi6).trans hi)

set_option maxHeartbeats 4000000 in
set_option maxRecDepth 100000 in
theorem wrange_t {w : World} {sb wk rev C P : Nat} {chs : List Ver} {Ks : List Value} {L : List Chg} {S W : List Nat} (h : Tx w sb wk rev C P chs Ks L S W) (hC : C ≤ 1000000) (hL : P + Ks.length ≤ 1000000) (lo hi : ByteArray) (limit : Int) :
    Calls Tryz.prog 122 #[Ptr wk, .string lo, .string hi, .int .i64 limit] w fun e w' => (∃ v n x, e = .returned (.tuple #[v, .int .i64 x]) ∧ n ≤ 3000000 ∧ Kvs w' w.heap.size v n) ∧ Below w.heap.size w w' := by
  go_enter Tryz.func122, Tryz.ntmps122
  go_wp2_with fail
  go_at_call 154
  refine (wkeys_t h hC hL lo hi).mono ?_
  rintro e w1 ⟨⟨v, n, rfl, hn, hTx⟩, hb1⟩
  obtain ⟨a, c, rfl⟩ := hTx.shape
  obtain ⟨i0, hi0, hz0, hz1, hz2⟩ := info_parts kv_info
  go_wp2
  have hK0 : Kvs w1 w.heap.size (.slice none 0 0) 0 := ⟨[], rfl, World.ownsRow_nil _ _ _ _⟩
  go_loopg [10, 11, 13, 14, 15, 21] n (fun kx s10 s11 _ _ _ s21 wq => ∃ (j m : Nat) (x : Int), s21 = .int .i64 j ∧ s11 = .int .i64 x ∧ m ≤ j ∧ j ≤ n ∧ kx = n - j ∧ Kvs wq w.heap.size s10 m ∧ Below w.heap.size w wq ∧ Txts wq w.heap.size (.slice a n c) n ∧ ∀ y ∈ blk s10, y ∉ blk (.slice a n c))
  case atStart => exact ⟨0, 0, 0, rfl, rfl, Nat.le_refl _, Nat.zero_le _, rfl, hK0, hb1, hTx, fun y hy => by simp [blk, Value.ownBlock] at hy⟩
  case round =>
    obtain ⟨j, m, x, rfl, rfl, hmj, hj, hkx, hKr, hBr, hTxr, hap⟩ := hrel
    by_cases hjn : j = n
    · subst hjn
      go_wp2
      refine bodyPost_ret (by simp [results, Tryz.results122, go_sem]; rfl) rfl ⟨⟨_, m, _, rfl, by omega, hKr⟩, hBr⟩
    · obtain ⟨g, cap, k, e, hcell⟩ := hTxr.at j (by omega)
      cases e
      have hjl : j < n := by omega
      obtain ⟨hst2, ⟨live2, lv2, bm2, bs2, hW2⟩, hN2⟩ := h.keep hBr
      go_wp2_with fail
      go_at_call 155
      refine (now_f hst2 hC hW2.blk hW2.map hW2.val k).mono ?_
      rintro e w3 ⟨⟨⟨xk, xv, xa, xb, xc, xd⟩, is, rfl, -⟩, hb3⟩
      unfold KVr.agg
      have hbA := fun o => bmore hb3 o
      have hTA := fun o => hTxr.keep (hbA o)
      have hKA := fun o => hKr.keep (hbA o)
      have hBA := fun o => belowN hBr (hbA o) (Nat.le_refl _)
      obtain ⟨a10, c10, rfl⟩ := hKr.shape
      have hnext : ∀ (x2 : Int) (v' : Value) (m' : Nat) (w5 : World), Kvs w5 w.heap.size v' m' → m' ≤ m + 1 → Below w.heap.size w w5 → Txts w5 w.heap.size (.slice (some ⟨g, 0, none⟩) n c) n → (∀ y ∈ blk v', y ∉ blk (.slice (some ⟨g, 0, none⟩) n c)) →
          ∃ (j2 m : Nat) (x : Int), Value.int .i64 ((j : Int) + 1) = .int .i64 j2 ∧ Value.int .i64 x2 = .int .i64 x ∧ m ≤ j2 ∧ j2 ≤ n ∧ n - (j + 1) = n - j2 ∧ Kvs w5 w.heap.size v' m ∧ Below w.heap.size w w5 ∧ Txts w5 w.heap.size (.slice (some ⟨g, 0, none⟩) n c) n ∧ ∀ y ∈ blk v', y ∉ blk (.slice (some ⟨g, 0, none⟩) n c) :=
        fun x2 v' m' w5 h1 h2 h3 h4 h5 => ⟨j + 1, m', x2, by simp, rfl, by omega, by omega, rfl, h1, h3, h4, h5⟩
      cases is with
      | false =>
        go_wp2
        go_roundg (n - (j + 1))
        case measure => omega
        case rel => exact hnext _ _ _ _ (hKA _) (Nat.le_succ _) (hBA _) (hTA _) hap
      | true =>
        obtain ⟨wq, hwq⟩ : ∃ wq, wq = w3.alloc (.cells #[.string xk, .string xv, .int .i64 xa, .int .i64 xb, .int .i64 xc, .int .i64 xd] 51) := ⟨_, rfl⟩
        obtain ⟨l, hl, hown⟩ := hKA (.cells #[.string xk, .string xv, .int .i64 xa, .int .i64 xb, .int .i64 xc, .int .i64 xd] 51)
        obtain ⟨xs, hTo, hxs⟩ := hTA (.cells #[.string xk, .string xv, .int .i64 xa, .int .i64 xb, .int .i64 xc, .int .i64 xd] 51)
        have hBq := hBA (.cells #[.string xk, .string xv, .int .i64 xa, .int .i64 xb, .int .i64 xc, .int .i64 xd] 51)
        have hrc : ∀ o : Obj, (wq.alloc o).ownsRow w.heap.size KvT 6 (.slice a10 m c10) m (kvs l) := fun o => by rw [hwq]; exact own_below hown ((Below.refl _ _).alloc (Nat.le_refl _) _)
        have hH : ∀ o : Obj, (wq.alloc o).heap.size = wq.heap.size + 1 := fun o => by simp
        have hqs : w.heap.size ≤ wq.heap.size := by rw [hwq]; exact hBq.size
        have hmx : m + 1 ≤ maxLen := by unfold maxLen; omega
        have hkk : (m + 1) * 64 ≤ 140737488355328 := by omega
        rw [← hwq] at hown hTo hBq
        have hfin : ∀ (x2 : Int) (g' cap' : Nat) (w5 : World) (o : Obj), w5.ownsRow w.heap.size KvT 6 (.slice (some ⟨g', 0, none⟩) (m + 1) cap') (m + 1) (kvs l ++ KVr.cells ⟨xk, xv, xa, xb, xc, xd⟩) → (wq.alloc o).grownBy w5 (Value.ownBlock (.slice a10 m c10)) → (Value.ownBlock (.slice a10 m c10) = some g' ∨ g' = wq.heap.size + 1) →
            ∃ (j2 m_1 : Nat) (x : Int), Value.int .i64 ((j : Int) + 1) = .int .i64 j2 ∧ Value.int .i64 x2 = .int .i64 x ∧ m_1 ≤ j2 ∧ j2 ≤ n ∧ n - (j + 1) = n - j2 ∧ Kvs w5 w.heap.size (.slice (some ⟨g', 0, none⟩) (m + 1) cap') m_1 ∧ Below w.heap.size w w5 ∧ Txts w5 w.heap.size (.slice (some ⟨g, 0, none⟩) n c) n ∧ ∀ y ∈ blk (.slice (some ⟨g', 0, none⟩) (m + 1) cap'), y ∉ blk (.slice (some ⟨g, 0, none⟩) n c) := fun x2 g' cap' w5 o h1 h2 h3 => by
          have hO : Only (fun y => Value.ownBlock (.slice a10 m c10) = some y) wq w5 := only_grown ((Only.refl _ wq).alloc o) h2 (fun y hy _ => hy)
          refine hnext x2 _ (m + 1) w5 (Kvs.app hl h1) (Nat.le_refl _) (belowNN hBq (hO.below _ hqs (fun k hk e => by have := (own_lt hown k (by simpa [blk] using e)).1; omega))) ⟨xs, own_keep hTo hO (fun y hy e => hap y (by simpa [blk] using e) hy), hxs⟩ (fun y hy => ?_)
          obtain rfl : y = g' := by simpa [blk, Value.ownBlock] using hy
          rcases h3 with h3 | h3
          · exact hap y (by simpa [blk] using h3)
          · intro hm
            have := (own_lt hTo y hm).2
            omega
        have hnw : ∀ (cs : Array Value) (j : Nat), ((wq.alloc (.cells cs 51)).cell? ⟨w3.heap.size + 1, j, none⟩) = cs[j]? := fun cs j => by
          have := alloc_new wq cs 51 j
          rwa [show wq.heap.size = w3.heap.size + 1 by rw [hwq]; simp] at this
        subst hwq
        by_cases hlim : limit < 1
        · go_wp2_with (at_builtin; refine wpList_append_lies _ rfl _ _ 67 rfl w.heap.size KvT i0 (.agg #[.string ⟨#[]⟩, .string ⟨#[]⟩, .int .i64 0, .int .i64 0, .int .i64 0, .int .i64 0]) 6 64 Tryz.underlying67 hi0 hz0 hz1 hz2 rfl (by decide) (.slice a10 m c10) m (kvs l) rfl (hrc _) ⟨w3.heap.size + 1, 0, none⟩ 1 1 (KVr.cells ⟨xk, xv, xa, xb, xc, xd⟩) rfl rfl (fun j u hj => by rw [Addr.add_lit, Nat.zero_add]; exact (hnw _ j).trans (by simpa [KVr.cells] using hj)) (by intro u hu; simp [KVr.cells] at hu; rcases hu with rfl | rfl | rfl | rfl | rfl | rfl <;> rfl) (by decide) hmx hkk (by rw [hH]; omega) (w3.heap.size + 1 + 1) (by simp) (fun g' cap' w4 hown' hgb hat hgl => ?_))
          go_roundg (n - (j + 1))
          case measure => omega
          case rel => exact hfin _ _ _ _ _ hown' hgb (by simpa using hat)
        · by_cases hml : (m : Int) < limit
          · go_wp2_with (at_builtin; refine wpList_append_lies _ rfl _ _ 67 rfl w.heap.size KvT i0 (.agg #[.string ⟨#[]⟩, .string ⟨#[]⟩, .int .i64 0, .int .i64 0, .int .i64 0, .int .i64 0]) 6 64 Tryz.underlying67 hi0 hz0 hz1 hz2 rfl (by decide) (.slice a10 m c10) m (kvs l) rfl (hrc _) ⟨w3.heap.size + 1, 0, none⟩ 1 1 (KVr.cells ⟨xk, xv, xa, xb, xc, xd⟩) rfl rfl (fun j u hj => by rw [Addr.add_lit, Nat.zero_add]; exact (hnw _ j).trans (by simpa [KVr.cells] using hj)) (by intro u hu; simp [KVr.cells] at hu; rcases hu with rfl | rfl | rfl | rfl | rfl | rfl <;> rfl) (by decide) hmx hkk (by rw [hH]; omega) (w3.heap.size + 1 + 1) (by simp) (fun g' cap' w4 hown' hgb hat hgl => ?_))
            go_roundg (n - (j + 1))
            case measure => omega
            case rel => exact hfin _ _ _ _ _ hown' hgb (by simpa using hat)
          · go_wp2
            go_roundg (n - (j + 1))
            case measure => omega
            case rel => exact hnext _ _ _ _ (hKA _) (Nat.le_succ _) (hBA _) (hTA _) hap
end Go.Proofs.YtbheebpfbabffaaGreat.Wat

namespace Go.Proofs.YtbheebpfbabffaaGreat.Wat
open Go.RowKit Go Go.Lib Mach Go.MapKept

set_option maxHeartbeats 4000000 in
set_option maxRecDepth 100000 in
theorem srange_f {w : World} {sb rev C : Nat} {op : Value} {chs : List Ver} {Ks : List Value} {S : List Nat} (h : St w sb op rev C chs Ks S) (hC : C ≤ 1000000) (lo hi : ByteArray) :
    Calls Tryz.prog 24 #[Ptr sb, .string lo, .string hi, .int .i64 0, .int .i64 0] w fun e w' => (∃ v n x, e = .returned (.tuple #[v, .int .i64 x, .int .i64 0]) ∧ n ≤ 3000000 ∧ Kvs w' w.heap.size v n) ∧ Below w.heap.size w w' := by
  obtain ⟨live, xi, vb, cv, SX, es, hs, hix, -⟩ := id h
  have hsc := hs.cell
  go_enter Tryz.func24, Tryz.ntmps24
  go_wp2_with fail
  go_at_call 69
  refine (skeys_f sb xi C SX _ _ _ _ _ _ lo hi w hs hix hC).mono ?_
  rintro e w1 ⟨⟨v, n, rfl, hn, hTx⟩, hb1⟩
  clear hsc hs hix
  obtain ⟨a, c, rfl⟩ := hTx.shape
  obtain ⟨i0, hi0, hz0, hz1, hz2⟩ := info_parts kv_info
  go_wp2
  have hK0 : Kvs w1 w.heap.size (.slice none 0 0) 0 := ⟨[], rfl, World.ownsRow_nil _ _ _ _⟩
  go_loopg [13, 14, 16, 17, 18, 52] n (fun kx s10 s11 _ _ _ s21 wq => ∃ (j m : Nat) (x : Int), s21 = .int .i64 j ∧ s11 = .int .i64 x ∧ m ≤ j ∧ j ≤ n ∧ kx = n - j ∧ Kvs wq w.heap.size s10 m ∧ Below w.heap.size w wq ∧ Txts wq w.heap.size (.slice a n c) n ∧ ∀ y ∈ blk s10, y ∉ blk (.slice a n c))
  case atStart => exact ⟨0, 0, 0, rfl, rfl, Nat.le_refl _, Nat.zero_le _, rfl, hK0, hb1, hTx, fun y hy => by simp [blk, Value.ownBlock] at hy⟩
  case round =>
    obtain ⟨j, m, x, rfl, rfl, hmj, hj, hkx, hKr, hBr, hTxr, hap⟩ := hrel
    by_cases hjn : j = n
    · subst hjn
      go_wp2
      refine bodyPost_ret (by simp [results, Tryz.results24, go_sem]; rfl) rfl ⟨⟨_, m, _, rfl, by omega, hKr⟩, hBr⟩
    · obtain ⟨g, cap, k, e, hcell⟩ := hTxr.at j (by omega)
      cases e
      have hjl : j < n := by omega
      have hst2 := h.keep hBr
      go_wp2_with fail
      go_at_call 70
      refine (hst2.at_f hC k _).mono ?_
      rintro e w3 ⟨⟨⟨xk, xv, xa, xb, xc, xd⟩, is, rfl, -⟩, hb3⟩
      unfold KVr.agg
      have hbA := fun o => bmore hb3 o
      have hTA := fun o => hTxr.keep (hbA o)
      have hKA := fun o => hKr.keep (hbA o)
      have hBA := fun o => belowN hBr (hbA o) (Nat.le_refl _)
      obtain ⟨a10, c10, rfl⟩ := hKr.shape
      have hnext : ∀ (x2 : Int) (v' : Value) (m' : Nat) (w5 : World), Kvs w5 w.heap.size v' m' → m' ≤ m + 1 → Below w.heap.size w w5 → Txts w5 w.heap.size (.slice (some ⟨g, 0, none⟩) n c) n → (∀ y ∈ blk v', y ∉ blk (.slice (some ⟨g, 0, none⟩) n c)) →
          ∃ (j2 m : Nat) (x : Int), Value.int .i64 ((j : Int) + 1) = .int .i64 j2 ∧ Value.int .i64 x2 = .int .i64 x ∧ m ≤ j2 ∧ j2 ≤ n ∧ n - (j + 1) = n - j2 ∧ Kvs w5 w.heap.size v' m ∧ Below w.heap.size w w5 ∧ Txts w5 w.heap.size (.slice (some ⟨g, 0, none⟩) n c) n ∧ ∀ y ∈ blk v', y ∉ blk (.slice (some ⟨g, 0, none⟩) n c) :=
        fun x2 v' m' w5 h1 h2 h3 h4 h5 => ⟨j + 1, m', x2, by simp, rfl, by omega, by omega, rfl, h1, h3, h4, h5⟩
      cases is with
      | false =>
        go_wp2
        go_roundg (n - (j + 1))
        case measure => omega
        case rel => exact hnext _ _ _ _ (hKA _) (Nat.le_succ _) (hBA _) (hTA _) hap
      | true =>
        obtain ⟨wq, hwq⟩ : ∃ wq, wq = w3.alloc (.cells #[.string xk, .string xv, .int .i64 xa, .int .i64 xb, .int .i64 xc, .int .i64 xd] 51) := ⟨_, rfl⟩
        obtain ⟨l, hl, hown⟩ := hKA (.cells #[.string xk, .string xv, .int .i64 xa, .int .i64 xb, .int .i64 xc, .int .i64 xd] 51)
        obtain ⟨xs, hTo, hxs⟩ := hTA (.cells #[.string xk, .string xv, .int .i64 xa, .int .i64 xb, .int .i64 xc, .int .i64 xd] 51)
        have hBq := hBA (.cells #[.string xk, .string xv, .int .i64 xa, .int .i64 xb, .int .i64 xc, .int .i64 xd] 51)
        have hrc : ∀ o : Obj, (wq.alloc o).ownsRow w.heap.size KvT 6 (.slice a10 m c10) m (kvs l) := fun o => by rw [hwq]; exact own_below hown ((Below.refl _ _).alloc (Nat.le_refl _) _)
        have hH : ∀ o : Obj, (wq.alloc o).heap.size = wq.heap.size + 1 := fun o => by simp
        have hqs : w.heap.size ≤ wq.heap.size := by rw [hwq]; exact hBq.size
        have hmx : m + 1 ≤ maxLen := by unfold maxLen; omega
        have hkk : (m + 1) * 64 ≤ 140737488355328 := by omega
        rw [← hwq] at hown hTo hBq
        have hfin : ∀ (x2 : Int) (g' cap' : Nat) (w5 : World) (o : Obj), w5.ownsRow w.heap.size KvT 6 (.slice (some ⟨g', 0, none⟩) (m + 1) cap') (m + 1) (kvs l ++ KVr.cells ⟨xk, xv, xa, xb, xc, xd⟩) → (wq.alloc o).grownBy w5 (Value.ownBlock (.slice a10 m c10)) → (Value.ownBlock (.slice a10 m c10) = some g' ∨ g' = wq.heap.size + 1) →
            ∃ (j2 m_1 : Nat) (x : Int), Value.int .i64 ((j : Int) + 1) = .int .i64 j2 ∧ Value.int .i64 x2 = .int .i64 x ∧ m_1 ≤ j2 ∧ j2 ≤ n ∧ n - (j + 1) = n - j2 ∧ Kvs w5 w.heap.size (.slice (some ⟨g', 0, none⟩) (m + 1) cap') m_1 ∧ Below w.heap.size w w5 ∧ Txts w5 w.heap.size (.slice (some ⟨g, 0, none⟩) n c) n ∧ ∀ y ∈ blk (.slice (some ⟨g', 0, none⟩) (m + 1) cap'), y ∉ blk (.slice (some ⟨g, 0, none⟩) n c) := fun x2 g' cap' w5 o h1 h2 h3 => by
          have hO : Only (fun y => Value.ownBlock (.slice a10 m c10) = some y) wq w5 := only_grown ((Only.refl _ wq).alloc o) h2 (fun y hy _ => hy)
          refine hnext x2 _ (m + 1) w5 (Kvs.app hl h1) (Nat.le_refl _) (belowNN hBq (hO.below _ hqs (fun k hk e => by have := (own_lt hown k (by simpa [blk] using e)).1; omega))) ⟨xs, own_keep hTo hO (fun y hy e => hap y (by simpa [blk] using e) hy), hxs⟩ (fun y hy => ?_)
          obtain rfl : y = g' := by simpa [blk, Value.ownBlock] using hy
          rcases h3 with h3 | h3
          · exact hap y (by simpa [blk] using h3)
          · intro hm
            have := (own_lt hTo y hm).2
            omega
        have hnw : ∀ (cs : Array Value) (j : Nat), ((wq.alloc (.cells cs 51)).cell? ⟨w3.heap.size + 1, j, none⟩) = cs[j]? := fun cs j => by
          have := alloc_new wq cs 51 j
          rwa [show wq.heap.size = w3.heap.size + 1 by rw [hwq]; simp] at this
        subst hwq
        go_wp2_with (at_builtin; refine wpList_append_lies _ rfl _ _ 67 rfl w.heap.size KvT i0 (.agg #[.string ⟨#[]⟩, .string ⟨#[]⟩, .int .i64 0, .int .i64 0, .int .i64 0, .int .i64 0]) 6 64 Tryz.underlying67 hi0 hz0 hz1 hz2 rfl (by decide) (.slice a10 m c10) m (kvs l) rfl (hrc _) ⟨w3.heap.size + 1, 0, none⟩ 1 1 (KVr.cells ⟨xk, xv, xa, xb, xc, xd⟩) rfl rfl (fun j u hj => by rw [Addr.add_lit, Nat.zero_add]; exact (hnw _ j).trans (by simpa [KVr.cells] using hj)) (by intro u hu; simp [KVr.cells] at hu; rcases hu with rfl | rfl | rfl | rfl | rfl | rfl <;> rfl) (by decide) hmx hkk (by rw [hH]; omega) (w3.heap.size + 1 + 1) (by simp) (fun g' cap' w4 hown' hgb hat hgl => ?_))
        go_roundg (n - (j + 1))
        case measure => omega
        case rel => exact hfin _ _ _ _ _ hown' hgb (by simpa using hat)
end Go.Proofs.YtbheebpfbabffaaGreat.Wat

