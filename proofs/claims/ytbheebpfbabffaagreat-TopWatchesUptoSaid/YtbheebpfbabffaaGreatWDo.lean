/- txn: Do. -/
import Derived.Test.YtbheebpfbabffaaGreatVO
set_option linter.unusedSimpArgs false
set_option linter.unusedVariables false
namespace Go.Proofs.YtbheebpfbabffaaGreat.Wat
open Go.RowKit Go Go.Lib Mach Go.MapKept

/-- What becomes of a store. -/
def StPost (w : World) (sb rev C : Nat) (chs : List Ver) (Ks : List Value) (S : List Nat) (w' : World) (S' : List Nat) : Prop :=
  Only (fun y => y ∈ S) w w' ∧ Grow w S S' ∧ ∃ (op' : Value) (rev' C' : Nat) (new : List Ver) (Ks' : List Value), St w' sb op' rev' C' (chs ++ new) Ks' S' ∧ C' ≤ C + Ks.length + 32 ∧ Ks'.length ≤ Ks.length + 32 ∧
    ((new = [] ∧ rev' = rev) ∨ (new ≠ [] ∧ rev' = rev + 1 ∧ ∀ p ∈ new, p.1 = (rev : Int) + 1))
theorem StPost.still {w w' : World} {sb rev C : Nat} {op : Value} {chs : List Ver} {Ks : List Value} {S : List Nat} (h : St w sb op rev C chs Ks S) (k : Below w.heap.size w w') : StPost w sb rev C chs Ks S w' S :=
  ⟨Only.of_below k, ⟨fun _ _ => Nat.le_refl _, fun a _ => h.nd a⟩, op, rev, C, [], Ks, by simpa using h.keep k, by omega, by omega, .inl ⟨rfl, rfl⟩⟩
/-- What Do leaves. -/
def DoPost (w : World) (sb rev C : Nat) (chs : List Ver) (Ks : List Value) (S : List Nat) (e : Ending) (w' : World) : Prop :=
  ∃ (b : Bool) (er : Int) (v : Value) (rs : Rs) (S' : List Nat), e = .returned (.tuple #[.bool b, v, .int .i64 er]) ∧ Ress w' w.heap.size v rs ∧ rs.length ≤ 32 ∧ StPost w sb rev C chs Ks S w' S' ∧ ∀ y ∈ rb v rs, y ∉ S'
/-- A slice that is read, below block N. -/
def RdAt {α : Type} (w : World) (N : Nat) (v : Value) (size : Nat) (f : α → List Value) (l : List α) : Prop :=
  ∃ a c, v = .slice a l.length c ∧ (l = [] ∨ ∃ b o, a = some ⟨b, o, none⟩ ∧ b < N ∧ ∀ j x, l[j]? = some x → ∀ i u, (f x)[i]? = some u → w.cell? ⟨b, o + j * size + i, none⟩ = some u)
theorem RdAt.keep {α : Type} {w w' : World} {N : Nat} {v : Value} {size : Nat} {f : α → List Value} {l : List α} (h : RdAt w N v size f l) (k : Below N w w') : RdAt w' N v size f l := by
  obtain ⟨a, c, hv, h⟩ := h
  refine ⟨a, c, hv, h.imp id ?_⟩
  rintro ⟨b, o, ha, hb, hc⟩
  exact ⟨b, o, ha, hb, fun j x hx i u hu => (World.cell?_of_block (w := w) (k.block b hb)).trans (hc j x hx i u hu)⟩
theorem RdAt.row {α : Type} {w w' : World} {N : Nat} {v : Value} {size : Nat} {f : α → List Value} {l : List α} (h : RdAt w N v size f l) (hN : N ≤ w.heap.size) (k : Below w.heap.size w w') : RdRow w' v size f l := by
  obtain ⟨a, c, hv, h⟩ := h
  refine ⟨a, c, hv, h.imp id ?_⟩
  rintro ⟨b, o, ha, hb, hc⟩
  exact ⟨b, o, ha, Nat.lt_of_lt_of_le hb (Nat.le_trans hN k.size), fun j x hx i u hu => (World.cell?_of_block (w := w) (k.block b (Nat.lt_of_lt_of_le hb hN))).trans (hc j x hx i u hu)⟩
theorem only_weak {F G : Nat → Prop} {w w' : World} (h : Only F w w') (k : ∀ y, F y → G y) : Only G w w' := ⟨h.os, h.tape, h.output, h.size, fun y hy hn => h.block y hy (fun f => hn (k y f))⟩

set_option maxHeartbeats 16000000 in
set_option maxRecDepth 100000 in
theorem do_f {w : World} {sb rev C bb bm N0 : Nat} {op : Value} {chs : List Ver} {Ks : List Value} {S : List Nat} {ls : List MapEntry} (h : St w sb op rev C chs Ks S) (hB : Book w bb bm ls) (hC : C + Ks.length + 32 ≤ 1000000) (hrev : rev ≤ 1000000) (vi vt ve : Value) (I : List Ifr) (T E : List Opr)
    (hI : RdAt w N0 vi 5 Ifr.cells I) (hT : RdAt w N0 vt 6 Opr.cells T) (hE : RdAt w N0 ve 6 Opr.cells E) (hN0 : N0 ≤ w.heap.size) (hSN : ∀ y ∈ S, N0 ≤ y)
    (hchk : ∀ w', Below w.heap.size w w' → Calls Tryz.prog 115 #[.agg #[vi, vt, ve]] w' fun e w2 => (∃ x : Int, e = .returned (.int .i64 x) ∧ (x = 0 → I.length ≤ 32 ∧ T.length ≤ 32 ∧ E.length ≤ 32)) ∧ Below w'.heap.size w' w2) :
    Calls Tryz.prog 73 #[Ptr sb, .iface 78 (Ptr bb), .agg #[vi, vt, ve]] w (DoPost w sb rev C chs Ks S) := by
  obtain ⟨wA, hwA⟩ : ∃ wA, wA = w.alloc (.cells #[vi, vt, ve] 39) := ⟨_, rfl⟩
  have hbA : Below w.heap.size w wA := by rw [hwA]; exact bmore (Below.refl _ _) _
  have hA : Blk wA w.heap.size #[vi, vt, ve] := by rw [hwA]; exact Blk.new _ _ _
  have hSlt := h.lt
  go_enter Tryz.func73, Tryz.ntmps73
  go_wp2_with fail
  go_at_call 115
  rw [← hwA]
  clear hwA
  refine (hchk wA hbA).mono ?_
  rintro e w1 ⟨⟨x, rfl, hx⟩, hb1⟩
  have hbw1 := bthen hbA hb1
  have hret : ∀ (er : Int) (w2 : World), Below w.heap.size w w2 → DoPost w sb rev C chs Ks S (.returned (.tuple #[.bool false, .slice none 0 0, .int .i64 er])) w2 := fun er w2 hb =>
    ⟨false, er, _, [], S, rfl, Ress.nil _ _, by simp, StPost.still h hb, fun y hy => by simp [rb, blk, Value.ownBlock] at hy⟩
  cases hx0 : (x != 0) with
  | true =>
    go_wp2
    exact bodyPost_ret (v := .tuple #[.bool false, .slice none 0 0, .int .i64 x]) (by simp [results, Tryz.results73, go_sem]) rfl (hret x w1 hbw1)
  | false =>
    have hlens := hx (by simpa using hx0)
    obtain ⟨hIl, hTl, hEl⟩ := hlens
    have q1 := (hA.keep hb1).cell
    go_wp2_with fail
    go_at_call 116
    refine (holds_f (h.keep hbw1) (by omega) vi I (hI.row hN0 hbw1) (by omega)).mono ?_
    rintro e w2 ⟨⟨then_, rfl⟩, hb2⟩
    have hbw2 := bthen hbw1 hb2
    have q2 := ((hA.keep hb1).keep hb2).cell
    clear q1
    cases then_ with
    | true =>
      obtain ⟨ao, co, rfl, hrd⟩ := hT
      go_wp2
      go_loopg [13, 38] T.length (fun kx _ s38 wq => ∃ j : Nat, j ≤ T.length ∧ s38 = .int .i64 j ∧ kx = T.length - j ∧ Below w2.heap.size w2 wq)
      case atStart => exact ⟨0, Nat.zero_le _, rfl, rfl, Below.refl _ _⟩
      case round =>
        obtain ⟨j, hj, rfl, hkx, hbr⟩ := hrel
        have hbwr := bthen hbw2 hbr
        by_cases hjl : j < T.length
        · obtain hnil | ⟨b, o, ha, hbl, hc⟩ := hrd
          · rw [hnil] at hjl; exact absurd hjl (Nat.not_lt_zero _)
          subst ha
          obtain ⟨x, hxj⟩ : ∃ x, T[j]? = some x := ⟨_, List.getElem?_eq_getElem hjl⟩
          have hci := fun q u hq => (World.cell?_of_block (w := w) (hbwr.block b (by omega))).trans (hc j x hxj q u hq)
          obtain ⟨kd, k, en, vl, le, li⟩ := x
          have e0 : wr.cell? ⟨b, o + j * 6, none⟩ = _ := hci 0 _ rfl
          have e1 := hci 1 _ rfl
          have e2 := hci 2 _ rfl
          have e3 := hci 3 _ rfl
          have e4 := hci 4 _ rfl
          have e5 := hci 5 _ rfl
          clear hci hxj hc
          have hend : ∀ w5, Below w2.heap.size w2 w5 → ∃ j2 : Nat, j2 ≤ T.length ∧ Value.int .i64 ((j : Int) + 1) = .int .i64 j2 ∧ T.length - (j + 1) = T.length - j2 ∧ Below w2.heap.size w2 w5 := fun w5 h => ⟨j + 1, by omega, by simp, rfl, h⟩
          have hmh := meth_has bb
          have hbX := fun o => bmore hbr o
          have hBX := fun o => hB.keep (bthen hbw2 (hbX o))
          cases hkd : (kd == 0) with
          | false =>
            go_wp2
            go_roundg (T.length - (j + 1))
            case measure => omega
            case rel => exact hend _ (hbX _)
          | true =>
            cases hle : (le != 0) with
            | false =>
              go_wp2
              go_roundg (T.length - (j + 1))
              case measure => omega
              case rel => exact hend _ (hbX _)
            | true =>
              go_wp2_with fail
              go_at_call 76
              refine (has_f (hBX _) le).mono ?_
              rintro e w3 ⟨⟨hb, rfl⟩, hb3⟩
              cases hb with
              | true =>
                go_wp2
                go_roundg (T.length - (j + 1))
                case measure => omega
                case rel => exact hend _ (bthen (hbX _) hb3)
              | false =>
                go_wp2
                exact bodyPost_ret (v := .tuple #[.bool false, .slice none 0 0, .int .i64 19]) (by simp [results, Tryz.results73, go_sem]) rfl (hret 19 w3 (bthen (bthen hbw2 (hbX _)) hb3))
        · go_wp2_with fail
          go_at_call 117
          refine (write_f (h.keep hbwr)).mono ?_
          rintro e w3 ⟨rfl, hTx, hOw, hsw⟩
          have hwk0 : ∃ (wk : Nat) (W : List Nat), wk = wr.heap.size + 1 ∧ W = [wr.heap.size + 1, wr.heap.size] := ⟨_, _, rfl, rfl⟩
          obtain ⟨wk, W, hwk, hWd⟩ := hwk0
          have hWlow : ∀ y ∈ W, w.heap.size ≤ y := fun y hy => by
            have := hbwr.size
            rw [hWd] at hy
            simp at hy
            omega
          rw [← hWd, ← hwk] at hTx
          rw [← hwk]
          clear hwk hWd
          have hsbS : sb ∈ S := by
            obtain ⟨_, _, _, _, _, _, _, _, _, _, _, _, _, _, hSe, _⟩ := h
            rw [hSe]; simp
          have hO3 : Only (fun y => y ∈ S) w w3 := (Only.of_below hbwr).trans hOw (fun y _ e => e ▸ hsbS)
          have hWN : Nd W := nd_right hTx.2.2
          go_wp2
          go_loopg [15, 16, 18, 19, 20, 21, 62] T.length (fun kx s15 s16 _ _ _ _ s62 wq => ∃ (j : Nat) (sz : Int) (L2 : List Chg) (W2 : List Nat) (rs : Rs), s62 = .int .i64 j ∧ s16 = .int .i64 sz ∧ j ≤ T.length ∧ kx = T.length - j ∧ Tx wq sb wk rev C j chs Ks L2 S W2 ∧ Grow w3 W W2 ∧ Only (fun y => y ∈ W) w3 wq ∧ Ress wq w3.heap.size s15 rs ∧ rs.length = j ∧ (∀ y ∈ rb s15 rs, y ∉ W2) ∧ ∀ p ∈ rs, ∀ y ∈ blk p.2, y ∉ blk s15)
          case atStart => exact ⟨0, 0, [], W, [], rfl, rfl, Nat.zero_le _, rfl, hTx, ⟨fun _ _ => Nat.le_refl _, fun a _ => hWN a⟩, Only.refl _ _, Ress.nil _ _, rfl, fun y hy => by simp [rb, blk, Value.ownBlock] at hy, fun _ h => absurd h List.not_mem_nil⟩
          case round =>
            obtain ⟨j, sz, L2, W2, rs, rfl, rfl, hj, hkx, hT2, hG2, hO2, hRe, hrl, hrw, hrr⟩ := hrel
            subst hrl
            have hOq : Only (fun y => y ∈ S) w wr := hO3.trans hO2 (fun y hy hm => absurd (hWlow y hm) (by omega))
            have hNq : Below N0 w wr := hOq.below N0 hN0 (fun q hq hm => absurd (hSN q hm) (by omega))
            have hstop : ∀ (er : Int) (w5 : World) (op5 : Value), St w5 sb op5 rev C chs Ks S → Only (fun y => y ∈ S) w w5 → DoPost w sb rev C chs Ks S (.returned (.tuple #[.bool false, .slice none 0 0, .int .i64 er])) w5 := fun er w5 op5 h1 h2 =>
              ⟨false, er, _, [], S, rfl, Ress.nil _ _, by simp, ⟨h2, ⟨fun _ _ => Nat.le_refl _, fun a _ => h.nd a⟩, op5, rev, C, [], Ks, by simpa using h1, by omega, by omega, .inl ⟨rfl, rfl⟩⟩, fun y hy => by simp [rb, blk, Value.ownBlock] at hy⟩
            by_cases hjl : rs.length < T.length
            · obtain hnil | ⟨b, o, ha, hbl, hc⟩ := hrd
              · rw [hnil] at hjl; exact absurd hjl (Nat.not_lt_zero _)
              subst ha
              obtain ⟨x, hxj⟩ : ∃ x, T[rs.length]? = some x := ⟨_, List.getElem?_eq_getElem hjl⟩
              have hci := fun q u hq => (World.cell?_of_block (w := w) (hNq.block b hbl)).trans (hc rs.length x hxj q u hq)
              have htold := fun w' (hw : Tx w' sb wk rev C rs.length chs Ks L2 S W2) => told_f hw (by omega) hrev (by omega) x
              obtain ⟨kd, k, en, vl, le, li⟩ := x
              unfold Opr.cells at htold
              have e0 : wr.cell? ⟨b, o + rs.length * 6, none⟩ = _ := hci 0 _ rfl
              have e1 := hci 1 _ rfl
              have e2 := hci 2 _ rfl
              have e3 := hci 3 _ rfl
              have e4 := hci 4 _ rfl
              have e5 := hci 5 _ rfl
              clear hci hxj hc
              go_wp2_with fail
              go_at_call 118
              refine (htold _ (hT2.keep (bmore (Below.refl _ _) _))).mono ?_
              rintro e w5 ⟨x, sz5, er, v, n5, L5, W5, rfl, hK5, hn5, hO5, hT5, hG5, hv5⟩
              obtain ⟨a5, c5, rfl⟩ := hK5.shape
              have hsw5 := hOq.size
              have hswr : wr.heap.size ≤ w5.heap.size := by have := hO5.size; simp at this; omega
              have hO6 : Only (fun y => y ∈ W2) wr w5 := (Only.of_below (bmore (Below.refl _ _) _)).trans hO5 (fun _ _ h => h)
              have hG6 : Grow wr W2 W5 := ⟨fun a ha => hG5.1 a (by simp; omega), fun a _ => nd_right hT5.2.2 a⟩
              have hO7 : Only (fun y => y ∈ W) w3 w5 := hO2.trans hO6 (fun y hy hm => hG2.mem hy hm)
              have hG7 : Grow w3 W W5 := hG2.trans hO2.size hG6
              have hOq5 : Only (fun y => y ∈ S) w w5 := hO3.trans hO7 (fun y hy hm => absurd (hWlow y hm) (by omega))
              have hRe5 : Ress w5 w3.heap.size u15 rs := hRe.only hO6 hrw
              have hRlt := hRe.lt
              have hsz3 := hO3.size
              have hsz4 := hO2.size
              have hrw5 : ∀ y ∈ rb u15 rs, y ∉ W5 := fun y hy hm => hrw y hy (hG6.mem (hRlt y hy).2 hm)
              have hW5lt : ∀ y ∈ W5, y < w5.heap.size := by
                obtain ⟨-, ⟨_, _, _, _, hw⟩, -⟩ := hT5
                exact hw.lt
              have hbx := fun o => bmore (Below.refl w5.heap.size w5) o
              cases her : (er != 0) with
              | true =>
                go_wp2
                exact bodyPost_ret (v := .tuple #[.bool false, .slice none 0 0, .int .i64 er]) (by simp [results, Tryz.results73, go_sem]) rfl (hstop er _ _ (hT5.1.keep (hbx _)) (hOq5.alloc _))
              | false =>
                obtain ⟨i0, hi0, hz0, hz1, hz2⟩ := info_parts res_info
                obtain ⟨wq, hwq⟩ : ∃ wq, wq = w5.alloc (.cells #[.int .i64 x, .slice a5 n5 c5] 135) := ⟨_, rfl⟩
                have hbq : Below w5.heap.size w5 wq := by rw [hwq]; exact hbx _
                have hReq := hRe5.keep hbq
                have hown := hReq.1
                have hKq := hK5.keep hbq
                have hrc : ∀ o : Obj, (wq.alloc o).ownsRow w3.heap.size ResT 2 u15 rs.length (ress rs) := fun o => own_alloc hown o
                have hH : ∀ o : Obj, (wq.alloc o).heap.size = wq.heap.size + 1 := fun o => by simp
                have hmx : rs.length + 1 ≤ maxLen := by unfold maxLen; omega
                have hkk : (rs.length + 1) * 32 ≤ 140737488355328 := by omega
                have hqs : wq.heap.size = w5.heap.size + 1 := by rw [hwq]; simp
                have hnw : ∀ (cs : Array Value) (j : Nat), ((wq.alloc (.cells cs 135)).cell? ⟨w5.heap.size + 1, j, none⟩) = cs[j]? := fun cs j => by
                  have := alloc_new wq cs 135 j
                  rwa [hqs] at this
                have hfin : ∀ (sz2 : Int) (g' cap' : Nat) (w7 : World) (o : Obj), w7.ownsRow w3.heap.size ResT 2 (.slice (some ⟨g', 0, none⟩) (rs.length + 1) cap') (rs.length + 1) (ress rs ++ [.int .i64 x, .slice a5 n5 c5]) → (wq.alloc o).grownBy w7 u15.ownBlock → (u15.ownBlock = some g' ∨ g' = wq.heap.size + 1) →
                    ∃ (j2 : Nat) (sz : Int) (L2 : List Chg) (W2 : List Nat) (rs2 : Rs), Value.int .i64 ((rs.length : Int) + 1) = .int .i64 j2 ∧ Value.int .i64 sz2 = .int .i64 sz ∧ j2 ≤ T.length ∧ T.length - (rs.length + 1) = T.length - j2 ∧ Tx w7 sb wk rev C j2 chs Ks L2 S W2 ∧ Grow w3 W W2 ∧ Only (fun y => y ∈ W) w3 w7 ∧ Ress w7 w3.heap.size (.slice (some ⟨g', 0, none⟩) (rs.length + 1) cap') rs2 ∧ rs2.length = j2 ∧ (∀ y ∈ rb (.slice (some ⟨g', 0, none⟩) (rs.length + 1) cap') rs2, y ∉ W2) ∧ ∀ p ∈ rs2, ∀ y ∈ blk p.2, y ∉ blk (.slice (some ⟨g', 0, none⟩) (rs.length + 1) cap') := fun sz2 g' cap' w7 o h1 h2 h3 => by
                  have hO8 : Only (fun y => u15.ownBlock = some y) wq w7 := only_grown ((Only.refl _ wq).alloc o) h2 (fun y hy _ => hy)
                  have hO9 : Only (fun y => u15.ownBlock = some y) w5 w7 := (Only.of_below hbq).trans hO8 (fun _ _ h => h)
                  have hown_w : ∀ y, u15.ownBlock = some y → w3.heap.size ≤ y ∧ y < wr.heap.size ∧ y ∉ W5 := fun y hy => by
                    have hm : y ∈ rb u15 rs := List.mem_append.2 (.inl (by simp [blk, hy]))
                    exact ⟨(hRlt y hm).1, (hRlt y hm).2, hrw5 y hm⟩
                  have hvlt : ∀ y ∈ blk (.slice a5 n5 c5), wr.heap.size < y ∧ y < w5.heap.size := fun y hy => by
                    obtain ⟨l, -, ho⟩ := hK5
                    have := own_lt ho y hy
                    simp at this
                    omega
                  have hbg : ∀ y ∈ blk (.slice (some ⟨g', 0, none⟩) (rs.length + 1) cap'), y = g' := fun y hy => by simpa [blk, Value.ownBlock] using hy
                  refine ⟨rs.length + 1, sz2, L5, W5, rs ++ [(x, .slice a5 n5 c5)], by simp, rfl, by omega, rfl, hT5.only hO9 (fun y hy e => by have := hSlt y hy; have := (hown_w y e).1; omega) (fun y hy e => (hown_w y e).2.2 hy), hG7, hO7.trans hO9 (fun y hy e => by have := (hown_w y e).1; omega), ⟨?_, fun p hp => ?_⟩, by simp, fun y hy hm => ?_, fun p hp y hy hm => ?_⟩
                  · rw [ress_append, List.length_append]
                    exact h1
                  · rcases List.mem_append.1 hp with hp | hp
                    · obtain ⟨n, hn, l, hl, ho⟩ := hReq.2 p hp
                      exact ⟨n, hn, l, hl, own_keep ho hO8 (fun y hy e => hrr p hp y hy (by simp [blk, e]))⟩
                    · rw [List.mem_singleton.1 hp]
                      obtain ⟨l, hl, ho⟩ := hKq
                      exact ⟨n5, hn5, l, hl, own_base (own_keep ho hO8 (fun y hy e => by have := (hvlt y hy).1; have := (hown_w y e).2.1; omega)) (by simp; omega)⟩
                  · rw [rb_snoc] at hy
                    rcases hy with hy | hy
                    · rcases rb_head (v := u15) hy with hy | hy
                      · rw [hbg y hy] at hm
                        rcases h3 with h3 | h3
                        · exact (hown_w g' h3).2.2 hm
                        · have := hW5lt g' hm; omega
                      · exact hrw5 y hy hm
                    · exact hv5 y hy hm
                  · rw [hbg y hm] at hy
                    rcases List.mem_append.1 hp with hp | hp
                    · rcases h3 with h3 | h3
                      · exact hrr p hp g' hy (by simp [blk, h3])
                      · have := (hRlt g' (rb_in hp hy)).2; omega
                    · rw [List.mem_singleton.1 hp] at hy
                      rcases h3 with h3 | h3
                      · have := (hvlt g' hy).1; have := (hown_w g' h3).2.1; omega
                      · have := (hvlt g' hy).2; omega
                subst hwq
                go_wp2_with (at_builtin; refine wpList_append_lies _ rfl _ _ 44 rfl w3.heap.size ResT i0 (.agg #[.int .i64 0, .slice none 0 0]) 2 32 Tryz.underlying44 hi0 hz0 hz1 hz2 rfl (by decide) u15 rs.length (ress rs) rfl (hrc _) ⟨w5.heap.size + 1, 0, none⟩ 1 1 [.int .i64 x, .slice a5 n5 c5] rfl rfl (fun j u hj => by rw [Addr.add_lit, Nat.zero_add]; exact (hnw _ j).trans (by simpa using hj)) (by intro u hu; simp at hu; rcases hu with rfl | rfl; rfl; rfl) (by decide) hmx hkk (by rw [hH]; omega) (w5.heap.size + 1 + 1) (by simp) (fun g' cap' w7 hown' hgb hat hgl => ?_))
                go_roundg (T.length - (rs.length + 1))
                case measure => omega
                case rel => exact hfin _ _ _ _ _ hown' hgb (by simpa using hat)
            · obtain ⟨ar, cr, rfl⟩ := hRe.shape
              by_cases hsz : 65536 < sz
              · go_wp2
                exact bodyPost_ret (v := .tuple #[.bool false, .slice none 0 0, .int .i64 5]) (by simp [results, Tryz.results73, go_sem]) rfl (hstop 5 _ _ hT2.1 hOq)
              · have hLs : L2.length ≤ rs.length + Ks.length := by
                  obtain ⟨-, ⟨_, _, _, _, hw⟩, -⟩ := hT2
                  exact hw.size
                go_wp2_with fail
                go_at_call 119
                refine (done_t hT2 (by omega) hrev).mono ?_
                rintro e w5 ⟨⟨rx, rfl⟩, hO5, rev', new, Ks', S', hSt5, hG5, hK5, hnew, hnl⟩
                have hsw5 := hOq.size
                have hrs : ∀ y ∈ rb (.slice ar rs.length cr) rs, w.heap.size ≤ y ∧ y < wr.heap.size := fun y hy => ⟨Nat.le_trans hO3.size (hRe.lt y hy).1, (hRe.lt y hy).2⟩
                have hRe5 := hRe.only hO5 (fun y hy hm => by have := hSlt y hm; have := (hrs y hy).1; omega)
                go_wp2
                refine bodyPost_ret (v := .tuple #[.bool true, .slice ar rs.length cr, .int .i64 0]) (by simp [results, Tryz.results73, go_sem]) rfl ⟨true, 0, _, rs, S', rfl, hRe5.base hO3.size, by omega, ⟨hOq.trans hO5 (fun _ _ h => h), ⟨fun a ha => hG5.1 a (by omega), fun a ha => ?_⟩, .pointer none, rev', C + L2.length, new, Ks', hSt5, by omega, by omega, hnew⟩, fun y hy hm => ?_⟩
                · by_cases h2 : a < wr.heap.size
                  · have := hG5.1 a h2
                    have := count_out (fun hm : a ∈ S => by have := hSlt a hm; omega)
                    omega
                  · exact hG5.2 a (by omega)
                · have := hSlt y (hG5.mem (hrs y hy).2 hm)
                  have := (hrs y hy).1
                  omega
    | false =>
      obtain ⟨ao, co, rfl, hrd⟩ := hE
      go_wp2
      go_loopg [13, 38] E.length (fun kx _ s38 wq => ∃ j : Nat, j ≤ E.length ∧ s38 = .int .i64 j ∧ kx = E.length - j ∧ Below w2.heap.size w2 wq)
      case atStart => exact ⟨0, Nat.zero_le _, rfl, rfl, Below.refl _ _⟩
      case round =>
        obtain ⟨j, hj, rfl, hkx, hbr⟩ := hrel
        have hbwr := bthen hbw2 hbr
        by_cases hjl : j < E.length
        · obtain hnil | ⟨b, o, ha, hbl, hc⟩ := hrd
          · rw [hnil] at hjl; exact absurd hjl (Nat.not_lt_zero _)
          subst ha
          obtain ⟨x, hxj⟩ : ∃ x, E[j]? = some x := ⟨_, List.getElem?_eq_getElem hjl⟩
          have hci := fun q u hq => (World.cell?_of_block (w := w) (hbwr.block b (by omega))).trans (hc j x hxj q u hq)
          obtain ⟨kd, k, en, vl, le, li⟩ := x
          have e0 : wr.cell? ⟨b, o + j * 6, none⟩ = _ := hci 0 _ rfl
          have e1 := hci 1 _ rfl
          have e2 := hci 2 _ rfl
          have e3 := hci 3 _ rfl
          have e4 := hci 4 _ rfl
          have e5 := hci 5 _ rfl
          clear hci hxj hc
          have hend : ∀ w5, Below w2.heap.size w2 w5 → ∃ j2 : Nat, j2 ≤ E.length ∧ Value.int .i64 ((j : Int) + 1) = .int .i64 j2 ∧ E.length - (j + 1) = E.length - j2 ∧ Below w2.heap.size w2 w5 := fun w5 h => ⟨j + 1, by omega, by simp, rfl, h⟩
          have hmh := meth_has bb
          have hbX := fun o => bmore hbr o
          have hBX := fun o => hB.keep (bthen hbw2 (hbX o))
          cases hkd : (kd == 0) with
          | false =>
            go_wp2
            go_roundg (E.length - (j + 1))
            case measure => omega
            case rel => exact hend _ (hbX _)
          | true =>
            cases hle : (le != 0) with
            | false =>
              go_wp2
              go_roundg (E.length - (j + 1))
              case measure => omega
              case rel => exact hend _ (hbX _)
            | true =>
              go_wp2_with fail
              go_at_call 76
              refine (has_f (hBX _) le).mono ?_
              rintro e w3 ⟨⟨hb, rfl⟩, hb3⟩
              cases hb with
              | true =>
                go_wp2
                go_roundg (E.length - (j + 1))
                case measure => omega
                case rel => exact hend _ (bthen (hbX _) hb3)
              | false =>
                go_wp2
                exact bodyPost_ret (v := .tuple #[.bool false, .slice none 0 0, .int .i64 19]) (by simp [results, Tryz.results73, go_sem]) rfl (hret 19 w3 (bthen (bthen hbw2 (hbX _)) hb3))
        · go_wp2_with fail
          go_at_call 117
          refine (write_f (h.keep hbwr)).mono ?_
          rintro e w3 ⟨rfl, hTx, hOw, hsw⟩
          have hwk0 : ∃ (wk : Nat) (W : List Nat), wk = wr.heap.size + 1 ∧ W = [wr.heap.size + 1, wr.heap.size] := ⟨_, _, rfl, rfl⟩
          obtain ⟨wk, W, hwk, hWd⟩ := hwk0
          have hWlow : ∀ y ∈ W, w.heap.size ≤ y := fun y hy => by
            have := hbwr.size
            rw [hWd] at hy
            simp at hy
            omega
          rw [← hWd, ← hwk] at hTx
          rw [← hwk]
          clear hwk hWd
          have hsbS : sb ∈ S := by
            obtain ⟨_, _, _, _, _, _, _, _, _, _, _, _, _, _, hSe, _⟩ := h
            rw [hSe]; simp
          have hO3 : Only (fun y => y ∈ S) w w3 := (Only.of_below hbwr).trans hOw (fun y _ e => e ▸ hsbS)
          have hWN : Nd W := nd_right hTx.2.2
          go_wp2
          go_loopg [15, 16, 18, 19, 20, 21, 62] E.length (fun kx s15 s16 _ _ _ _ s62 wq => ∃ (j : Nat) (sz : Int) (L2 : List Chg) (W2 : List Nat) (rs : Rs), s62 = .int .i64 j ∧ s16 = .int .i64 sz ∧ j ≤ E.length ∧ kx = E.length - j ∧ Tx wq sb wk rev C j chs Ks L2 S W2 ∧ Grow w3 W W2 ∧ Only (fun y => y ∈ W) w3 wq ∧ Ress wq w3.heap.size s15 rs ∧ rs.length = j ∧ (∀ y ∈ rb s15 rs, y ∉ W2) ∧ ∀ p ∈ rs, ∀ y ∈ blk p.2, y ∉ blk s15)
          case atStart => exact ⟨0, 0, [], W, [], rfl, rfl, Nat.zero_le _, rfl, hTx, ⟨fun _ _ => Nat.le_refl _, fun a _ => hWN a⟩, Only.refl _ _, Ress.nil _ _, rfl, fun y hy => by simp [rb, blk, Value.ownBlock] at hy, fun _ h => absurd h List.not_mem_nil⟩
          case round =>
            obtain ⟨j, sz, L2, W2, rs, rfl, rfl, hj, hkx, hT2, hG2, hO2, hRe, hrl, hrw, hrr⟩ := hrel
            subst hrl
            have hOq : Only (fun y => y ∈ S) w wr := hO3.trans hO2 (fun y hy hm => absurd (hWlow y hm) (by omega))
            have hNq : Below N0 w wr := hOq.below N0 hN0 (fun q hq hm => absurd (hSN q hm) (by omega))
            have hstop : ∀ (er : Int) (w5 : World) (op5 : Value), St w5 sb op5 rev C chs Ks S → Only (fun y => y ∈ S) w w5 → DoPost w sb rev C chs Ks S (.returned (.tuple #[.bool false, .slice none 0 0, .int .i64 er])) w5 := fun er w5 op5 h1 h2 =>
              ⟨false, er, _, [], S, rfl, Ress.nil _ _, by simp, ⟨h2, ⟨fun _ _ => Nat.le_refl _, fun a _ => h.nd a⟩, op5, rev, C, [], Ks, by simpa using h1, by omega, by omega, .inl ⟨rfl, rfl⟩⟩, fun y hy => by simp [rb, blk, Value.ownBlock] at hy⟩
            by_cases hjl : rs.length < E.length
            · obtain hnil | ⟨b, o, ha, hbl, hc⟩ := hrd
              · rw [hnil] at hjl; exact absurd hjl (Nat.not_lt_zero _)
              subst ha
              obtain ⟨x, hxj⟩ : ∃ x, E[rs.length]? = some x := ⟨_, List.getElem?_eq_getElem hjl⟩
              have hci := fun q u hq => (World.cell?_of_block (w := w) (hNq.block b hbl)).trans (hc rs.length x hxj q u hq)
              have htold := fun w' (hw : Tx w' sb wk rev C rs.length chs Ks L2 S W2) => told_f hw (by omega) hrev (by omega) x
              obtain ⟨kd, k, en, vl, le, li⟩ := x
              unfold Opr.cells at htold
              have e0 : wr.cell? ⟨b, o + rs.length * 6, none⟩ = _ := hci 0 _ rfl
              have e1 := hci 1 _ rfl
              have e2 := hci 2 _ rfl
              have e3 := hci 3 _ rfl
              have e4 := hci 4 _ rfl
              have e5 := hci 5 _ rfl
              clear hci hxj hc
              go_wp2_with fail
              go_at_call 118
              refine (htold _ (hT2.keep (bmore (Below.refl _ _) _))).mono ?_
              rintro e w5 ⟨x, sz5, er, v, n5, L5, W5, rfl, hK5, hn5, hO5, hT5, hG5, hv5⟩
              obtain ⟨a5, c5, rfl⟩ := hK5.shape
              have hsw5 := hOq.size
              have hswr : wr.heap.size ≤ w5.heap.size := by have := hO5.size; simp at this; omega
              have hO6 : Only (fun y => y ∈ W2) wr w5 := (Only.of_below (bmore (Below.refl _ _) _)).trans hO5 (fun _ _ h => h)
              have hG6 : Grow wr W2 W5 := ⟨fun a ha => hG5.1 a (by simp; omega), fun a _ => nd_right hT5.2.2 a⟩
              have hO7 : Only (fun y => y ∈ W) w3 w5 := hO2.trans hO6 (fun y hy hm => hG2.mem hy hm)
              have hG7 : Grow w3 W W5 := hG2.trans hO2.size hG6
              have hOq5 : Only (fun y => y ∈ S) w w5 := hO3.trans hO7 (fun y hy hm => absurd (hWlow y hm) (by omega))
              have hRe5 : Ress w5 w3.heap.size u15 rs := hRe.only hO6 hrw
              have hRlt := hRe.lt
              have hsz3 := hO3.size
              have hsz4 := hO2.size
              have hrw5 : ∀ y ∈ rb u15 rs, y ∉ W5 := fun y hy hm => hrw y hy (hG6.mem (hRlt y hy).2 hm)
              have hW5lt : ∀ y ∈ W5, y < w5.heap.size := by
                obtain ⟨-, ⟨_, _, _, _, hw⟩, -⟩ := hT5
                exact hw.lt
              have hbx := fun o => bmore (Below.refl w5.heap.size w5) o
              cases her : (er != 0) with
              | true =>
                go_wp2
                exact bodyPost_ret (v := .tuple #[.bool false, .slice none 0 0, .int .i64 er]) (by simp [results, Tryz.results73, go_sem]) rfl (hstop er _ _ (hT5.1.keep (hbx _)) (hOq5.alloc _))
              | false =>
                obtain ⟨i0, hi0, hz0, hz1, hz2⟩ := info_parts res_info
                obtain ⟨wq, hwq⟩ : ∃ wq, wq = w5.alloc (.cells #[.int .i64 x, .slice a5 n5 c5] 135) := ⟨_, rfl⟩
                have hbq : Below w5.heap.size w5 wq := by rw [hwq]; exact hbx _
                have hReq := hRe5.keep hbq
                have hown := hReq.1
                have hKq := hK5.keep hbq
                have hrc : ∀ o : Obj, (wq.alloc o).ownsRow w3.heap.size ResT 2 u15 rs.length (ress rs) := fun o => own_alloc hown o
                have hH : ∀ o : Obj, (wq.alloc o).heap.size = wq.heap.size + 1 := fun o => by simp
                have hmx : rs.length + 1 ≤ maxLen := by unfold maxLen; omega
                have hkk : (rs.length + 1) * 32 ≤ 140737488355328 := by omega
                have hqs : wq.heap.size = w5.heap.size + 1 := by rw [hwq]; simp
                have hnw : ∀ (cs : Array Value) (j : Nat), ((wq.alloc (.cells cs 135)).cell? ⟨w5.heap.size + 1, j, none⟩) = cs[j]? := fun cs j => by
                  have := alloc_new wq cs 135 j
                  rwa [hqs] at this
                have hfin : ∀ (sz2 : Int) (g' cap' : Nat) (w7 : World) (o : Obj), w7.ownsRow w3.heap.size ResT 2 (.slice (some ⟨g', 0, none⟩) (rs.length + 1) cap') (rs.length + 1) (ress rs ++ [.int .i64 x, .slice a5 n5 c5]) → (wq.alloc o).grownBy w7 u15.ownBlock → (u15.ownBlock = some g' ∨ g' = wq.heap.size + 1) →
                    ∃ (j2 : Nat) (sz : Int) (L2 : List Chg) (W2 : List Nat) (rs2 : Rs), Value.int .i64 ((rs.length : Int) + 1) = .int .i64 j2 ∧ Value.int .i64 sz2 = .int .i64 sz ∧ j2 ≤ E.length ∧ E.length - (rs.length + 1) = E.length - j2 ∧ Tx w7 sb wk rev C j2 chs Ks L2 S W2 ∧ Grow w3 W W2 ∧ Only (fun y => y ∈ W) w3 w7 ∧ Ress w7 w3.heap.size (.slice (some ⟨g', 0, none⟩) (rs.length + 1) cap') rs2 ∧ rs2.length = j2 ∧ (∀ y ∈ rb (.slice (some ⟨g', 0, none⟩) (rs.length + 1) cap') rs2, y ∉ W2) ∧ ∀ p ∈ rs2, ∀ y ∈ blk p.2, y ∉ blk (.slice (some ⟨g', 0, none⟩) (rs.length + 1) cap') := fun sz2 g' cap' w7 o h1 h2 h3 => by
                  have hO8 : Only (fun y => u15.ownBlock = some y) wq w7 := only_grown ((Only.refl _ wq).alloc o) h2 (fun y hy _ => hy)
                  have hO9 : Only (fun y => u15.ownBlock = some y) w5 w7 := (Only.of_below hbq).trans hO8 (fun _ _ h => h)
                  have hown_w : ∀ y, u15.ownBlock = some y → w3.heap.size ≤ y ∧ y < wr.heap.size ∧ y ∉ W5 := fun y hy => by
                    have hm : y ∈ rb u15 rs := List.mem_append.2 (.inl (by simp [blk, hy]))
                    exact ⟨(hRlt y hm).1, (hRlt y hm).2, hrw5 y hm⟩
                  have hvlt : ∀ y ∈ blk (.slice a5 n5 c5), wr.heap.size < y ∧ y < w5.heap.size := fun y hy => by
                    obtain ⟨l, -, ho⟩ := hK5
                    have := own_lt ho y hy
                    simp at this
                    omega
                  have hbg : ∀ y ∈ blk (.slice (some ⟨g', 0, none⟩) (rs.length + 1) cap'), y = g' := fun y hy => by simpa [blk, Value.ownBlock] using hy
                  refine ⟨rs.length + 1, sz2, L5, W5, rs ++ [(x, .slice a5 n5 c5)], by simp, rfl, by omega, rfl, hT5.only hO9 (fun y hy e => by have := hSlt y hy; have := (hown_w y e).1; omega) (fun y hy e => (hown_w y e).2.2 hy), hG7, hO7.trans hO9 (fun y hy e => by have := (hown_w y e).1; omega), ⟨?_, fun p hp => ?_⟩, by simp, fun y hy hm => ?_, fun p hp y hy hm => ?_⟩
                  · rw [ress_append, List.length_append]
                    exact h1
                  · rcases List.mem_append.1 hp with hp | hp
                    · obtain ⟨n, hn, l, hl, ho⟩ := hReq.2 p hp
                      exact ⟨n, hn, l, hl, own_keep ho hO8 (fun y hy e => hrr p hp y hy (by simp [blk, e]))⟩
                    · rw [List.mem_singleton.1 hp]
                      obtain ⟨l, hl, ho⟩ := hKq
                      exact ⟨n5, hn5, l, hl, own_base (own_keep ho hO8 (fun y hy e => by have := (hvlt y hy).1; have := (hown_w y e).2.1; omega)) (by simp; omega)⟩
                  · rw [rb_snoc] at hy
                    rcases hy with hy | hy
                    · rcases rb_head (v := u15) hy with hy | hy
                      · rw [hbg y hy] at hm
                        rcases h3 with h3 | h3
                        · exact (hown_w g' h3).2.2 hm
                        · have := hW5lt g' hm; omega
                      · exact hrw5 y hy hm
                    · exact hv5 y hy hm
                  · rw [hbg y hm] at hy
                    rcases List.mem_append.1 hp with hp | hp
                    · rcases h3 with h3 | h3
                      · exact hrr p hp g' hy (by simp [blk, h3])
                      · have := (hRlt g' (rb_in hp hy)).2; omega
                    · rw [List.mem_singleton.1 hp] at hy
                      rcases h3 with h3 | h3
                      · have := (hvlt g' hy).1; have := (hown_w g' h3).2.1; omega
                      · have := (hvlt g' hy).2; omega
                subst hwq
                go_wp2_with (at_builtin; refine wpList_append_lies _ rfl _ _ 44 rfl w3.heap.size ResT i0 (.agg #[.int .i64 0, .slice none 0 0]) 2 32 Tryz.underlying44 hi0 hz0 hz1 hz2 rfl (by decide) u15 rs.length (ress rs) rfl (hrc _) ⟨w5.heap.size + 1, 0, none⟩ 1 1 [.int .i64 x, .slice a5 n5 c5] rfl rfl (fun j u hj => by rw [Addr.add_lit, Nat.zero_add]; exact (hnw _ j).trans (by simpa using hj)) (by intro u hu; simp at hu; rcases hu with rfl | rfl; rfl; rfl) (by decide) hmx hkk (by rw [hH]; omega) (w5.heap.size + 1 + 1) (by simp) (fun g' cap' w7 hown' hgb hat hgl => ?_))
                go_roundg (E.length - (rs.length + 1))
                case measure => omega
                case rel => exact hfin _ _ _ _ _ hown' hgb (by simpa using hat)
            · obtain ⟨ar, cr, rfl⟩ := hRe.shape
              by_cases hsz : 65536 < sz
              · go_wp2
                exact bodyPost_ret (v := .tuple #[.bool false, .slice none 0 0, .int .i64 5]) (by simp [results, Tryz.results73, go_sem]) rfl (hstop 5 _ _ hT2.1 hOq)
              · have hLs : L2.length ≤ rs.length + Ks.length := by
                  obtain ⟨-, ⟨_, _, _, _, hw⟩, -⟩ := hT2
                  exact hw.size
                go_wp2_with fail
                go_at_call 119
                refine (done_t hT2 (by omega) hrev).mono ?_
                rintro e w5 ⟨⟨rx, rfl⟩, hO5, rev', new, Ks', S', hSt5, hG5, hK5, hnew, hnl⟩
                have hsw5 := hOq.size
                have hrs : ∀ y ∈ rb (.slice ar rs.length cr) rs, w.heap.size ≤ y ∧ y < wr.heap.size := fun y hy => ⟨Nat.le_trans hO3.size (hRe.lt y hy).1, (hRe.lt y hy).2⟩
                have hRe5 := hRe.only hO5 (fun y hy hm => by have := hSlt y hm; have := (hrs y hy).1; omega)
                go_wp2
                refine bodyPost_ret (v := .tuple #[.bool false, .slice ar rs.length cr, .int .i64 0]) (by simp [results, Tryz.results73, go_sem]) rfl ⟨false, 0, _, rs, S', rfl, hRe5.base hO3.size, by omega, ⟨hOq.trans hO5 (fun _ _ h => h), ⟨fun a ha => hG5.1 a (by omega), fun a ha => ?_⟩, .pointer none, rev', C + L2.length, new, Ks', hSt5, by omega, by omega, hnew⟩, fun y hy hm => ?_⟩
                · by_cases h2 : a < wr.heap.size
                  · have := hG5.1 a h2
                    have := count_out (fun hm : a ∈ S => by have := hSlt a hm; omega)
                    omega
                  · exact hG5.2 a (by omega)
                · have := hSlt y (hG5.mem (hrs y hy).2 hm)
                  have := (hrs y hy).1
                  omega
end Go.Proofs.YtbheebpfbabffaaGreat.Wat

