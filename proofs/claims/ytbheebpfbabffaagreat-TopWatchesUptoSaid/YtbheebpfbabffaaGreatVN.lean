/- Joined: a part of the proof of TopWatches. -/
import Derived.StillTailTactics
import Derived.Test.YtbheebpfbabffaaGreatWSincF
import Derived.Test.YtbheebpfbabffaaGreatMA
set_option linter.unusedSimpArgs false
set_option linter.unusedVariables false
namespace Go.Proofs.YtbheebpfbabffaaGreat.Wat
open Go.RowKit Go Go.Lib Mach Go.MapKept

def kbv (s : ByteArray) : Bool := !(s.toList == ([] : List UInt8)) && decide (s.size ≤ 100)
set_option maxRecDepth 100000 in
theorem key_b (s : ByteArray) (w : World) : Calls Tryz.prog 169 #[.string s] w fun e w' => e = .returned (.bool (kbv s)) ∧ w = w' := by
  unfold kbv
  cases hh : (s.toList == ([] : List UInt8)) with
  | true =>
    go_enter Tryz.func169, Tryz.ntmps169
    go_wp2
    go_ret
    exact ⟨rfl, rfl⟩
  | false =>
    by_cases hl : s.size ≤ 100
    · go_enter Tryz.func169, Tryz.ntmps169
      go_wp2
      go_ret
      exact ⟨by simp; omega, rfl⟩
    · go_enter Tryz.func169, Tryz.ntmps169
      go_wp2
      go_ret
      exact ⟨by simp; omega, rfl⟩
def mustv (b : Bool) (e : Int) : Int := if b then 0 else e
theorem must_b (b : Bool) (e : Int) (w : World) : Calls Tryz.prog 149 #[.bool b, .int .i64 e] w fun x w' => x = .returned (.int .i64 (mustv b e)) ∧ w = w' := by
  cases b
  · go_enter Tryz.func149, Tryz.ntmps149
    go_wp2
    go_ret
    exact ⟨rfl, rfl⟩
  · go_enter Tryz.func149, Tryz.ntmps149
    go_wp2
    go_ret
    exact ⟨rfl, rfl⟩

theorem cell_drew (W : World) (a : Addr) : W.drew.cell? a = W.cell? a := rfl
set_option maxRecDepth 100000 in
theorem first_any (b n : Nat) (w : World) (hk : n ≤ 1000) (hc : ∀ o, o < n → ∃ x, w.cell? ⟨b, o, none⟩ = some (.int .i64 x)) :
    Calls Tryz.prog 146 #[.slice (some ⟨b, 0, none⟩) n n] w fun x w' => (∃ v : Int, x = .returned (.int .i64 v)) ∧ w = w' := by
  have HC : Aside _ := hc
  clear hc
  go_enter Tryz.func146, Tryz.ntmps146
  go_wp2
  go_loopg [4, 7] n (fun kx _ s7 wq => ∃ j : Nat, j ≤ n ∧ s7 = .int .i64 j ∧ kx = n - j ∧ w = wq)
  case atStart => exact ⟨0, Nat.zero_le _, rfl, rfl, rfl⟩
  case round =>
    obtain ⟨j, hj, rfl, hkx, rfl⟩ := hrel
    by_cases hlt : j < n
    · obtain ⟨x, g⟩ := HC.out j hlt
      by_cases hx : x = 0
      · subst hx
        go_wp2
        go_roundg (n - (j + 1))
        case measure => omega
        case rel => exact ⟨j + 1, by omega, by simp, rfl, rfl⟩
      · go_wp2
        go_ret
        exact ⟨⟨_, rfl⟩, rfl⟩
    · go_wp2
      go_ret
      exact ⟨⟨_, rfl⟩, rfl⟩

set_option maxHeartbeats 4000000 in
set_option maxRecDepth 100000 in
theorem checkIf_f (k t : ByteArray) (tg sg n : Int) (w : World) : Calls Tryz.prog 147 #[.agg #[.string k, .int .i64 tg, .int .i64 sg, .int .i64 n, .string t]] w fun x w' => (∃ v : Int, x = .returned (.int .i64 v)) ∧ Below w.heap.size w w' := by
  have hN := alloc_new w #[.string k, .int .i64 tg, .int .i64 sg, .int .i64 n, .string t] 167
  have hz : w.heap.size < (w.alloc (.cells #[.string k, .int .i64 tg, .int .i64 sg, .int .i64 n, .string t] 167)).heap.size := by simp
  have hb := bmore (Below.refl w.heap.size w) (.cells #[.string k, .int .i64 tg, .int .i64 sg, .int .i64 n, .string t] 167)
  by_cases h1 : 0 ≤ tg
  · by_cases h2 : tg ≤ 4
    · by_cases h3 : 0 ≤ sg
      · by_cases h4 : sg ≤ 3
        · go_enter Tryz.func147, Tryz.ntmps147
          go_upto_region 1 with fail
          generalize w.alloc (.cells #[.string k, .int .i64 tg, .int .i64 sg, .int .i64 n, .string t] 167) = wa at *
          go_still_tail 23, (by kernel_rfl)
          still_call (still_of (key_b _ _))
          repeat still_step
          still_call (still_of (must_b _ _ _))
          repeat still_step
          still_call (still_of (must_b _ _ _))
          repeat still_step
          refine wpStill_nil ?_
          change wpList _ _ _ _ _ wa.drew
          go_wp2_with fail
          go_at_call 146
          refine (first_any _ 2 _ (by omega) ?_).mono ?_
          · intro o ho
            first | rw [alloc_new] | rw [cell_drew, alloc_new]
            obtain rfl | rfl : o = 0 ∨ o = 1 := by omega
            · exact ⟨_, rfl⟩
            · exact ⟨_, rfl⟩
          rintro e w' ⟨⟨v, rfl⟩, rfl⟩
          go_wp2
          go_ret
          exact ⟨⟨_, rfl⟩, by first | exact bmore hb.drew _ | exact (bmore hb _).drew⟩
        · go_enter Tryz.func147, Tryz.ntmps147
          go_upto_region 1 with fail
          generalize w.alloc (.cells #[.string k, .int .i64 tg, .int .i64 sg, .int .i64 n, .string t] 167) = wa at *
          go_still_tail 23, (by kernel_rfl)
          still_call (still_of (key_b _ _))
          repeat still_step
          still_call (still_of (must_b _ _ _))
          repeat still_step
          still_call (still_of (must_b _ _ _))
          repeat still_step
          refine wpStill_nil ?_
          change wpList _ _ _ _ _ wa.drew
          go_wp2_with fail
          go_at_call 146
          refine (first_any _ 2 _ (by omega) ?_).mono ?_
          · intro o ho
            first | rw [alloc_new] | rw [cell_drew, alloc_new]
            obtain rfl | rfl : o = 0 ∨ o = 1 := by omega
            · exact ⟨_, rfl⟩
            · exact ⟨_, rfl⟩
          rintro e w' ⟨⟨v, rfl⟩, rfl⟩
          go_wp2
          go_ret
          exact ⟨⟨_, rfl⟩, by first | exact bmore hb.drew _ | exact (bmore hb _).drew⟩
      · go_enter Tryz.func147, Tryz.ntmps147
        go_upto_region 1 with fail
        generalize w.alloc (.cells #[.string k, .int .i64 tg, .int .i64 sg, .int .i64 n, .string t] 167) = wa at *
        go_still_tail 23, (by kernel_rfl)
        still_call (still_of (key_b _ _))
        repeat still_step
        still_call (still_of (must_b _ _ _))
        repeat still_step
        still_call (still_of (must_b _ _ _))
        repeat still_step
        refine wpStill_nil ?_
        change wpList _ _ _ _ _ wa.drew
        go_wp2_with fail
        go_at_call 146
        refine (first_any _ 2 _ (by omega) ?_).mono ?_
        · intro o ho
          first | rw [alloc_new] | rw [cell_drew, alloc_new]
          obtain rfl | rfl : o = 0 ∨ o = 1 := by omega
          · exact ⟨_, rfl⟩
          · exact ⟨_, rfl⟩
        rintro e w' ⟨⟨v, rfl⟩, rfl⟩
        go_wp2
        go_ret
        exact ⟨⟨_, rfl⟩, by first | exact bmore hb.drew _ | exact (bmore hb _).drew⟩
    · go_enter Tryz.func147, Tryz.ntmps147
      go_upto_region 1 with fail
      generalize w.alloc (.cells #[.string k, .int .i64 tg, .int .i64 sg, .int .i64 n, .string t] 167) = wa at *
      go_still_tail 23, (by kernel_rfl)
      still_call (still_of (key_b _ _))
      repeat still_step
      still_call (still_of (must_b _ _ _))
      repeat still_step
      still_call (still_of (must_b _ _ _))
      repeat still_step
      refine wpStill_nil ?_
      change wpList _ _ _ _ _ wa.drew
      go_wp2_with fail
      go_at_call 146
      refine (first_any _ 2 _ (by omega) ?_).mono ?_
      · intro o ho
        first | rw [alloc_new] | rw [cell_drew, alloc_new]
        obtain rfl | rfl : o = 0 ∨ o = 1 := by omega
        · exact ⟨_, rfl⟩
        · exact ⟨_, rfl⟩
      rintro e w' ⟨⟨v, rfl⟩, rfl⟩
      go_wp2
      go_ret
      exact ⟨⟨_, rfl⟩, by first | exact bmore hb.drew _ | exact (bmore hb _).drew⟩
  · go_enter Tryz.func147, Tryz.ntmps147
    go_upto_region 1 with fail
    generalize w.alloc (.cells #[.string k, .int .i64 tg, .int .i64 sg, .int .i64 n, .string t] 167) = wa at *
    go_still_tail 23, (by kernel_rfl)
    still_call (still_of (key_b _ _))
    repeat still_step
    still_call (still_of (must_b _ _ _))
    repeat still_step
    still_call (still_of (must_b _ _ _))
    repeat still_step
    refine wpStill_nil ?_
    change wpList _ _ _ _ _ wa.drew
    go_wp2_with fail
    go_at_call 146
    refine (first_any _ 2 _ (by omega) ?_).mono ?_
    · intro o ho
      first | rw [alloc_new] | rw [cell_drew, alloc_new]
      obtain rfl | rfl : o = 0 ∨ o = 1 := by omega
      · exact ⟨_, rfl⟩
      · exact ⟨_, rfl⟩
    rintro e w' ⟨⟨v, rfl⟩, rfl⟩
    go_wp2
    go_ret
    exact ⟨⟨_, rfl⟩, by first | exact bmore hb.drew _ | exact (bmore hb _).drew⟩
end Go.Proofs.YtbheebpfbabffaaGreat.Wat

namespace Go.Proofs.YtbheebpfbabffaaGreat.Wat
open Go.RowKit Go Go.Lib Mach Go.MapKept

structure Opr where
  kd : Int
  k : ByteArray
  en : ByteArray
  vl : ByteArray
  le : Int
  li : Int
def Opr.cells (x : Opr) : List Value := [.int .i64 x.kd, .string x.k, .string x.en, .string x.vl, .int .i64 x.le, .int .i64 x.li]
structure Ifr where
  k : ByteArray
  tg : Int
  sg : Int
  n : Int
  t : ByteArray
def Ifr.cells (x : Ifr) : List Value := [.string x.k, .int .i64 x.tg, .int .i64 x.sg, .int .i64 x.n, .string x.t]
/-- A slice that is read: nil, or l at its address. -/
def RdRow {α : Type} (w : World) (v : Value) (size : Nat) (f : α → List Value) (l : List α) : Prop :=
  ∃ a c, v = .slice a l.length c ∧ (l = [] ∨ ∃ b o, a = some ⟨b, o, none⟩ ∧ b < w.heap.size ∧ ∀ j x, l[j]? = some x → ∀ i u, (f x)[i]? = some u → w.cell? ⟨b, o + j * size + i, none⟩ = some u)
theorem RdRow.keep {α : Type} {w w' : World} {v : Value} {size : Nat} {f : α → List Value} {l : List α} (h : RdRow w v size f l) (k : Below w.heap.size w w') : RdRow w' v size f l := by
  obtain ⟨a, c, hv, h⟩ := h
  refine ⟨a, c, hv, h.imp id ?_⟩
  rintro ⟨b, o, ha, hb, hc⟩
  exact ⟨b, o, ha, Nat.lt_of_lt_of_le hb k.size, fun j x hx i u hu => (keep0 k hb _).trans (hc j x hx i u hu)⟩

theorem binOp_string_gtr_w (t : TypeId) (a b : ByteArray) : binOp .gtr t (.string a) (.string b) = pure (.bool !(Op.bytesLess a.toList b.toList || a.toList == b.toList)) := by simp [binOp, Op.stringOp]

set_option maxHeartbeats 4000000 in
set_option maxRecDepth 100000 in
theorem inside_f (s : ByteArray) (x : Opr) (w : World) : Calls Tryz.prog 170 #[.string s, .agg x.cells.toArray] w fun e w' => (∃ b, e = .returned (.bool b)) ∧ Below w.heap.size w w' := by
  obtain ⟨kd, k, en, vl, le, li⟩ := x
  unfold Opr.cells
  have hb := bmore (Below.refl w.heap.size w) (.cells #[.int .i64 kd, .string k, .string en, .string vl, .int .i64 le, .int .i64 li] 72)
  have hgtr := binOp_string_gtr_w
  cases h1 : (s.toList == k.toList) with
  | true =>
    go_enter Tryz.func170, Tryz.ntmps170
    go_wp2
    go_ret
    exact ⟨⟨_, rfl⟩, hb⟩
  | false =>
    cases h2 : (en.toList == ([] : List UInt8)) with
    | true =>
      go_enter Tryz.func170, Tryz.ntmps170
      go_wp2
      go_ret
      exact ⟨⟨_, rfl⟩, hb⟩
    | false =>
      cases h3 : Op.bytesLess s.toList k.toList with
      | true =>
        go_enter Tryz.func170, Tryz.ntmps170
        go_wp2
        go_ret
        exact ⟨⟨_, rfl⟩, hb⟩
      | false =>
        go_enter Tryz.func170, Tryz.ntmps170
        go_wp2
        go_ret
        exact ⟨⟨_, rfl⟩, hb⟩

set_option maxHeartbeats 4000000 in
set_option maxRecDepth 100000 in
theorem twice_f (v : Value) (l : List Opr) (w : World) (h : RdRow w v 6 Opr.cells l) (hl : l.length ≤ 1000) : Calls Tryz.prog 150 #[v] w fun e w' => (∃ b, e = .returned (.bool b)) ∧ Below w.heap.size w w' := by
  obtain ⟨a, c, rfl, h⟩ := h
  have HR : Aside _ := h
  clear h
  go_enter Tryz.func150, Tryz.ntmps150
  go_wp2
  go_loopg [3, 4, 9] l.length (fun kx _ _ s9 wq => ∃ i : Nat, i ≤ l.length ∧ s9 = .int .i64 i ∧ kx = l.length - i ∧ Below w.heap.size w wq)
  case atStart => exact ⟨0, Nat.zero_le _, rfl, rfl, Below.refl _ _⟩
  case round =>
    obtain ⟨i, hi, rfl, hkx, hbr⟩ := hrel
    by_cases hil : i < l.length
    · obtain hnil | ⟨b, o, ha, hbl, hc⟩ := HR.out
      · rw [hnil] at hil; exact absurd hil (Nat.not_lt_zero i)
      subst ha
      obtain ⟨x, hx⟩ : ∃ x, l[i]? = some x := ⟨_, List.getElem?_eq_getElem hil⟩
      have hci := fun q u hq => (keep0 hbr hbl _).trans (hc i x hx q u hq)
      obtain ⟨kd, k, en, vl, le, li⟩ := x
      have e0 : wr.cell? ⟨b, o + i * 6, none⟩ = _ := hci 0 _ rfl
      have e1 := hci 1 _ rfl
      have e2 := hci 2 _ rfl
      have e3 := hci 3 _ rfl
      have e4 := hci 4 _ rfl
      have e5 := hci 5 _ rfl
      clear hci
      go_wp2
      obtain ⟨wA, hwA⟩ : ∃ wA, wA = wr.alloc (.cells #[.int .i64 kd, .string k, .string en, .string vl, .int .i64 le, .int .i64 li] 72) := ⟨_, rfl⟩
      have hbA : Below w.heap.size w wA := by rw [hwA]; exact bmore hbr _
      have hA : Blk wA wr.heap.size #[.int .i64 kd, .string k, .string en, .string vl, .int .i64 le, .int .i64 li] := by rw [hwA]; exact Blk.new _ _ _
      rw [← hwA]
      clear hwA e0 e1 e2 e3 e4 e5
      generalize wr.heap.size = pa at hA ⊢
      have hwl : b < wA.heap.size := Nat.lt_of_lt_of_le hbl hbA.size
      have HC : Aside _ := hc
      clear hc hx hbr
      go_loopg [5, 6, 16] l.length (fun kx _ _ s16 wq => ∃ n : Nat, n ≤ l.length ∧ s16 = .int .i64 n ∧ kx = l.length - n ∧ Below wA.heap.size wA wq)
      case atStart => exact ⟨0, Nat.zero_le _, rfl, rfl, Below.refl _ _⟩
      case round =>
        obtain ⟨n, hn, rfl, hkn, hbn⟩ := hrel
        have hbw := bthen hbA hbn
        by_cases hnl : n < l.length
        · obtain ⟨x2, hx2⟩ : ∃ x, l[n]? = some x := ⟨_, List.getElem?_eq_getElem hnl⟩
          have hci := fun q u hq => (keep0 hbw hbl _).trans (HC.out n x2 hx2 q u hq)
          have hin := inside_f k x2
          obtain ⟨kd2, k2, en2, vl2, le2, li2⟩ := x2
          have e0 : wr.cell? ⟨b, o + n * 6, none⟩ = _ := hci 0 _ rfl
          have e1 := hci 1 _ rfl
          have e2 := hci 2 _ rfl
          have e3 := hci 3 _ rfl
          have e4 := hci 4 _ rfl
          have e5 := hci 5 _ rfl
          have hA2 := hA.keep hbn
          have f1 := (hA2.alloc (.cells #[.int .i64 kd2, .string k2, .string en2, .string vl2, .int .i64 le2, .int .i64 li2] 72)).cell
          clear hci hx2
          unfold Opr.cells at hin
          have hbX := fun o => bmore hbn o
          have hend : ∀ w5, Below wA.heap.size wA w5 → ∃ n2 : Nat, n2 ≤ l.length ∧ Value.int .i64 ((n : Int) + 1) = .int .i64 n2 ∧ l.length - (n + 1) = l.length - n2 ∧ Below wA.heap.size wA w5 := fun w5 h => ⟨n + 1, by omega, by simp, rfl, h⟩
          cases hin2 : ((i : Int) != (n : Int)) with
          | false =>
            go_wp2
            go_roundg (l.length - (n + 1))
            case measure => omega
            case rel => exact hend _ (hbX _)
          | true =>
            cases hk0 : (kd == 0) with
            | false =>
              go_wp2
              go_roundg (l.length - (n + 1))
              case measure => omega
              case rel => exact hend _ (hbX _)
            | true =>
              cases hk2 : (kd2 != 2) with
              | false =>
                go_wp2
                go_roundg (l.length - (n + 1))
                case measure => omega
                case rel => exact hend _ (hbX _)
              | true =>
                go_wp2_with fail
                go_at_call 170
                refine (hin _).mono ?_
                rintro e w3 ⟨⟨bb, rfl⟩, hb3⟩
                cases bb with
                | true =>
                  go_wp2
                  go_ret
                  exact ⟨⟨_, rfl⟩, bthen (bthen hbA (hbX _)) hb3⟩
                | false =>
                  go_wp2
                  go_roundg (l.length - (n + 1))
                  case measure => omega
                  case rel => exact hend _ (bthen (hbX _) hb3)
        · go_wp2
          go_roundg (l.length - (i + 1))
          case measure => omega
          case rel => exact ⟨i + 1, by omega, by simp, rfl, hbw⟩
    · go_wp2
      go_ret
      exact ⟨⟨_, rfl⟩, hbr⟩
end Go.Proofs.YtbheebpfbabffaaGreat.Wat

namespace Go.Proofs.YtbheebpfbabffaaGreat.Wat
open Go.RowKit Go Go.Lib Mach Go.MapKept

def Three (e : Ending) : Prop := e = .returned (.int .i64 (-1)) ∨ e = .returned (.int .i64 0) ∨ e = .returned (.int .i64 1)
set_option maxRecDepth 100000 in
theorem isnan_s (s : ByteArray) (w : World) : Calls Tryz.prog 198 #[.string s] w fun e w' => e = .returned (.bool false) ∧ w = w' := by
  go_enter Tryz.func198, Tryz.ntmps198
  go_wp2
  go_ret
  exact ⟨by simp, rfl⟩
set_option maxRecDepth 100000 in
theorem cmps_f (a b : ByteArray) (w : World) : Calls Tryz.prog 171 #[.string a, .string b] w fun e w' => Three e ∧ w = w' := by
  have hgtr := binOp_string_gtr_w
  cases h1 : Op.bytesLess a.toList b.toList with
  | true =>
    go_enter Tryz.func171, Tryz.ntmps171
    go_wp2_with (go_at_call 198; refine (isnan_s _ _).mono ?_; rintro e w' ⟨rfl, rfl⟩)
    go_ret
    exact ⟨.inl rfl, rfl⟩
  | false =>
    cases h2 : (a.toList == b.toList) with
    | true =>
      go_enter Tryz.func171, Tryz.ntmps171
      go_wp2_with (go_at_call 198; refine (isnan_s _ _).mono ?_; rintro e w' ⟨rfl, rfl⟩)
      go_ret
      exact ⟨.inr (.inl rfl), rfl⟩
    | false =>
      go_enter Tryz.func171, Tryz.ntmps171
      go_wp2_with (go_at_call 198; refine (isnan_s _ _).mono ?_; rintro e w' ⟨rfl, rfl⟩)
      go_ret
      exact ⟨.inr (.inr rfl), rfl⟩
theorem cmpi_f (a b : Int) (w : World) : Calls Tryz.prog 109 #[.int .i64 a, .int .i64 b] w fun e w' => Three e ∧ w = w' := by
  refine (Tryz.cmp_Compare_int a b w).mono ?_
  rintro e w' ⟨rfl, rfl⟩
  refine ⟨?_, rfl⟩
  unfold Lib.compareInt Three
  by_cases h1 : a < b
  · simp [h1]
  · by_cases h2 : b < a
    · simp [h1, h2]
    · simp [h1, h2]

set_option maxHeartbeats 4000000 in
set_option maxRecDepth 100000 in
theorem against_f (x : KVr) (c : Ifr) (w : World) : Calls Tryz.prog 151 #[x.agg, .agg c.cells.toArray] w fun e w' => Three e ∧ Below w.heap.size w w' := by
  obtain ⟨xk, xv, xa, xb, xc, xd⟩ := x
  obtain ⟨k, tg, sg, n, t⟩ := c
  unfold KVr.agg Ifr.cells
  have hb := bmore (bmore (Below.refl w.heap.size w) (.cells #[.string xk, .string xv, .int .i64 xa, .int .i64 xb, .int .i64 xc, .int .i64 xd] 51)) (.cells #[.string k, .int .i64 tg, .int .i64 sg, .int .i64 n, .string t] 167)
  cases h4 : (tg == 4) with
  | true =>
    go_enter Tryz.func151, Tryz.ntmps151
    go_wp2_with (first | (go_at_call 171; refine (cmps_f _ _ _).mono ?_; rintro e w' ⟨hT, rfl⟩; rcases hT with rfl | rfl | rfl) | (go_at_call 109; refine (cmpi_f _ _ _).mono ?_; rintro e w' ⟨hT, rfl⟩; rcases hT with rfl | rfl | rfl))
    all_goals go_ret
    · exact ⟨.inl rfl, hb⟩
    · exact ⟨.inr (.inl rfl), hb⟩
    · exact ⟨.inr (.inr rfl), hb⟩
  | false =>
    cases h0 : (tg == 0) with
    | true =>
      go_enter Tryz.func151, Tryz.ntmps151
      go_wp2_with (first | (go_at_call 171; refine (cmps_f _ _ _).mono ?_; rintro e w' ⟨hT, rfl⟩; rcases hT with rfl | rfl | rfl) | (go_at_call 109; refine (cmpi_f _ _ _).mono ?_; rintro e w' ⟨hT, rfl⟩; rcases hT with rfl | rfl | rfl))
      all_goals go_ret
      · exact ⟨.inl rfl, hb⟩
      · exact ⟨.inr (.inl rfl), hb⟩
      · exact ⟨.inr (.inr rfl), hb⟩
    | false =>
      cases h1 : (tg == 1) with
      | true =>
        go_enter Tryz.func151, Tryz.ntmps151
        go_wp2_with (first | (go_at_call 171; refine (cmps_f _ _ _).mono ?_; rintro e w' ⟨hT, rfl⟩; rcases hT with rfl | rfl | rfl) | (go_at_call 109; refine (cmpi_f _ _ _).mono ?_; rintro e w' ⟨hT, rfl⟩; rcases hT with rfl | rfl | rfl))
        all_goals go_ret
        · exact ⟨.inl rfl, hb⟩
        · exact ⟨.inr (.inl rfl), hb⟩
        · exact ⟨.inr (.inr rfl), hb⟩
      | false =>
        cases h2 : (tg == 2) with
        | true =>
          go_enter Tryz.func151, Tryz.ntmps151
          go_wp2_with (first | (go_at_call 171; refine (cmps_f _ _ _).mono ?_; rintro e w' ⟨hT, rfl⟩; rcases hT with rfl | rfl | rfl) | (go_at_call 109; refine (cmpi_f _ _ _).mono ?_; rintro e w' ⟨hT, rfl⟩; rcases hT with rfl | rfl | rfl))
          all_goals go_ret
          · exact ⟨.inl rfl, hb⟩
          · exact ⟨.inr (.inl rfl), hb⟩
          · exact ⟨.inr (.inr rfl), hb⟩
        | false =>
          cases h3 : (tg == 3) with
          | true =>
            go_enter Tryz.func151, Tryz.ntmps151
            go_wp2_with (first | (go_at_call 171; refine (cmps_f _ _ _).mono ?_; rintro e w' ⟨hT, rfl⟩; rcases hT with rfl | rfl | rfl) | (go_at_call 109; refine (cmpi_f _ _ _).mono ?_; rintro e w' ⟨hT, rfl⟩; rcases hT with rfl | rfl | rfl))
            all_goals go_ret
            · exact ⟨.inl rfl, hb⟩
            · exact ⟨.inr (.inl rfl), hb⟩
            · exact ⟨.inr (.inr rfl), hb⟩
          | false =>
            go_enter Tryz.func151, Tryz.ntmps151
            go_wp2_with (first | (go_at_call 171; refine (cmps_f _ _ _).mono ?_; rintro e w' ⟨hT, rfl⟩; rcases hT with rfl | rfl | rfl) | (go_at_call 109; refine (cmpi_f _ _ _).mono ?_; rintro e w' ⟨hT, rfl⟩; rcases hT with rfl | rfl | rfl))
            all_goals go_ret
            · exact ⟨.inl rfl, hb⟩
            · exact ⟨.inr (.inl rfl), hb⟩
            · exact ⟨.inr (.inr rfl), hb⟩
end Go.Proofs.YtbheebpfbabffaaGreat.Wat

namespace Go.Proofs.YtbheebpfbabffaaGreat.Wat
open Go.RowKit Go Go.Lib Mach Go.MapKept

def AnyBool (e : Ending) : Prop := ∃ b, e = .returned (.bool b)
theorem blk6 {w : World} {b : Nat} {c0 c1 c2 c3 c4 c5 : Value} (h : Blk w b #[c0, c1, c2, c3, c4, c5]) (a0 a1 a2 a3 a4 a5 : Value) :
    Blk ((((((w.setCell ⟨b, 0, none⟩ a0).setCell ⟨b, 1, none⟩ a1).setCell ⟨b, 2, none⟩ a2).setCell ⟨b, 3, none⟩ a3).setCell ⟨b, 4, none⟩ a4).setCell ⟨b, 5, none⟩ a5) b #[a0, a1, a2, a3, a4, a5] := by
  have := (((((h.setCell 0 a0).setCell 1 a1).setCell 2 a2).setCell 3 a3).setCell 4 a4).setCell 5 a5
  simpa using this
theorem blk_set6 {w : World} {b q : Nat} {c : Array Value} (h : Blk w b c) (hne : b ≠ q) (a0 a1 a2 a3 a4 a5 : Value) :
    Blk ((((((w.setCell ⟨q, 0, none⟩ a0).setCell ⟨q, 1, none⟩ a1).setCell ⟨q, 2, none⟩ a2).setCell ⟨q, 3, none⟩ a3).setCell ⟨q, 4, none⟩ a4).setCell ⟨q, 5, none⟩ a5) b c :=
  (((((h.setOther ⟨q, 0, none⟩ hne a0).setOther ⟨q, 1, none⟩ hne a1).setOther ⟨q, 2, none⟩ hne a2).setOther ⟨q, 3, none⟩ hne a3).setOther ⟨q, 4, none⟩ hne a4).setOther ⟨q, 5, none⟩ hne a5

set_option maxHeartbeats 16000000 in
set_option maxRecDepth 100000 in
theorem holds_f {w : World} {sb rev C : Nat} {op : Value} {chs : List Ver} {Ks : List Value} {S : List Nat} (h : St w sb op rev C chs Ks S) (hC : C ≤ 1000000) (v : Value) (l : List Ifr) (hr : RdRow w v 5 Ifr.cells l) (hl : l.length ≤ 1000) :
    Calls Tryz.prog 116 #[Ptr sb, v] w fun e w' => AnyBool e ∧ Below w.heap.size w w' := by
  obtain ⟨a, c, rfl, hr⟩ := hr
  have HR : Aside _ := hr
  clear hr
  go_enter Tryz.func116, Tryz.ntmps116
  go_wp2
  go_loopg [6, 7, 8, 9, 10, 11, 12, 15] l.length (fun kx _ _ _ _ _ _ _ s15 wq => ∃ j : Nat, j ≤ l.length ∧ s15 = .int .i64 j ∧ kx = l.length - j ∧ Below w.heap.size w wq)
  case atStart => exact ⟨0, Nat.zero_le _, rfl, rfl, Below.refl _ _⟩
  case round =>
    obtain ⟨j, hj, rfl, hkx, hbr⟩ := hrel
    by_cases hjl : j < l.length
    · obtain hnil | ⟨b, o, ha, hbl, hc⟩ := HR.out
      · rw [hnil] at hjl; exact absurd hjl (Nat.not_lt_zero j)
      subst ha
      obtain ⟨x, hx⟩ : ∃ x, l[j]? = some x := ⟨_, List.getElem?_eq_getElem hjl⟩
      have hci := fun q u hq => (keep0 hbr hbl _).trans (hc j x hx q u hq)
      have hag := fun y => against_f y x
      obtain ⟨k, tg, sg, n, t⟩ := x
      unfold Ifr.cells KVr.agg at hag
      have e0 : wr.cell? ⟨b, o + j * 5, none⟩ = _ := hci 0 _ rfl
      have e1 := hci 1 _ rfl
      have e2 := hci 2 _ rfl
      have e3 := hci 3 _ rfl
      have e4 := hci 4 _ rfl
      clear hci hx
      have hst := h.keep hbr
      have hend : ∀ w5, Below w.heap.size w w5 → ∃ j2 : Nat, j2 ≤ l.length ∧ Value.int .i64 ((j : Int) + 1) = .int .i64 j2 ∧ l.length - (j + 1) = l.length - j2 ∧ Below w.heap.size w w5 := fun w5 h => ⟨j + 1, by omega, by simp, rfl, h⟩
      by_cases hlo : tg < 0
      · go_wp2
        go_ret
        exact ⟨⟨_, rfl⟩, bmore hbr _⟩
      by_cases hhi : 4 < tg
      · go_wp2
        go_ret
        exact ⟨⟨_, rfl⟩, bmore hbr _⟩
      obtain ⟨wA, hwA⟩ : ∃ wA, wA = (wr.alloc (.cells #[.string k, .int .i64 tg, .int .i64 sg, .int .i64 n, .string t] 167)).alloc (.cells #[.string ⟨#[]⟩, .string ⟨#[]⟩, .int .i64 0, .int .i64 0, .int .i64 0, .int .i64 0] 51) := ⟨_, rfl⟩
      have hbA : Below w.heap.size w wA := by rw [hwA]; exact bmore (bmore hbr _) _
      have hA : Blk wA wr.heap.size #[.string k, .int .i64 tg, .int .i64 sg, .int .i64 n, .string t] := by rw [hwA]; exact (Blk.new _ _ _).alloc _
      have hB : Blk wA (wr.heap.size + 1) #[.string ⟨#[]⟩, .string ⟨#[]⟩, .int .i64 0, .int .i64 0, .int .i64 0, .int .i64 0] := by rw [hwA]; exact Blk.newAt (by simp)
      have hwb := hbr.size
      go_wp2_with fail
      go_at_call 24
      rw [← hwA]
      clear hwA e0 e1 e2 e3 e4
      generalize wr.heap.size = pa at hA hB hwb ⊢
      refine (srange_f (h.keep hbA) hC k _).mono ?_
      rintro e w2 ⟨⟨vf, nf, xf, rfl, hnf, hK⟩, hb2⟩
      have hb3 := bthen hbA hb2
      have gA := (hA.keep hb2)
      have gB := (hB.keep hb2)
      have hpa : pa ≠ pa + 1 := by omega
      obtain ⟨a2, c2, rfl⟩ := hK.shape
      by_cases hn0 : nf = 0
      · subst hn0
        have q1 := gA.cell
        have q2 := gB.cell
        go_wp2_with fail
        go_at_call 151
        refine (hag ⟨⟨#[]⟩, ⟨#[]⟩, 0, 0, 0, 0⟩ _).mono ?_
        rintro e w3 ⟨hT, hb4⟩
        have hb5 := bthen hb3 hb4
        have p1 := (gA.keep hb4).cell
        clear q1 q2
        by_cases h1 : sg = 1
        · subst h1
          rcases hT with rfl | rfl | rfl
          · go_wp2
            go_roundg (l.length - (j + 1))
            case measure => omega
            case rel => exact hend _ hb5
          · go_wp2
            go_ret
            exact ⟨⟨_, rfl⟩, hb5⟩
          · go_wp2
            go_roundg (l.length - (j + 1))
            case measure => omega
            case rel => exact hend _ hb5
        · by_cases h2 : sg = 2
          · subst h2
            rcases hT with rfl | rfl | rfl
            · go_wp2
              go_roundg (l.length - (j + 1))
              case measure => omega
              case rel => exact hend _ hb5
            · go_wp2
              go_ret
              exact ⟨⟨_, rfl⟩, hb5⟩
            · go_wp2
              go_ret
              exact ⟨⟨_, rfl⟩, hb5⟩
          · by_cases h3 : sg = 3
            · subst h3
              rcases hT with rfl | rfl | rfl
              · go_wp2
                go_ret
                exact ⟨⟨_, rfl⟩, hb5⟩
              · go_wp2
                go_ret
                exact ⟨⟨_, rfl⟩, hb5⟩
              · go_wp2
                go_roundg (l.length - (j + 1))
                case measure => omega
                case rel => exact hend _ hb5
            · by_cases h0 : sg = 0
              · subst h0
                rcases hT with rfl | rfl | rfl
                · go_wp2
                  go_ret
                  exact ⟨⟨_, rfl⟩, hb5⟩
                · go_wp2
                  go_roundg (l.length - (j + 1))
                  case measure => omega
                  case rel => exact hend _ hb5
                · go_wp2
                  go_ret
                  exact ⟨⟨_, rfl⟩, hb5⟩
              · rcases hT with rfl | rfl | rfl
                · go_wp2
                  go_ret
                  exact ⟨⟨_, rfl⟩, hb5⟩
                · go_wp2
                  go_ret
                  exact ⟨⟨_, rfl⟩, hb5⟩
                · go_wp2
                  go_ret
                  exact ⟨⟨_, rfl⟩, hb5⟩
      · obtain ⟨g, cap, y, e, hcy⟩ := hK.at 0 (by omega)
        cases e
        obtain ⟨yk, yv, ya, yb, yc, yd⟩ := y
        have y0 : w2.cell? ⟨g, 0, none⟩ = some (.string yk) := by simpa using hcy 0 _ rfl
        have y1 : w2.cell? ⟨g, 1, none⟩ = some (.string yv) := by simpa using hcy 1 _ rfl
        have y2 : w2.cell? ⟨g, 2, none⟩ = some (.int .i64 ya) := by simpa using hcy 2 _ rfl
        have y3 : w2.cell? ⟨g, 3, none⟩ = some (.int .i64 yb) := by simpa using hcy 3 _ rfl
        have y4 : w2.cell? ⟨g, 4, none⟩ = some (.int .i64 yc) := by simpa using hcy 4 _ rfl
        have y5 : w2.cell? ⟨g, 5, none⟩ = some (.int .i64 yd) := by simpa using hcy 5 _ rfl
        have q1 := gA.cell
        have q2 := gB.cell
        have q3 := gB.frz
        have q4 := (blk6 gB (.string yk) (.string yv) (.int .i64 ya) (.int .i64 yb) (.int .i64 yc) (.int .i64 yd)).cell
        have gA2 := blk_set6 gA hpa (.string yk) (.string yv) (.int .i64 ya) (.int .i64 yb) (.int .i64 yc) (.int .i64 yd)
        have q5 := gA2.cell
        have hpos : (0 : Int) < (nf : Int) := by omega
        have hpos2 : 0 < nf := by omega
        have hsame := cell_same
        have hsome := isSome_setCell
        go_wp2_with fail
        go_at_call 151
        refine (hag ⟨yk, yv, ya, yb, yc, yd⟩ _).mono ?_
        rintro e w3 ⟨hT, hb4⟩
        have hb5 := bthen (below_set6 hb3 (by omega)) hb4
        have p1 := (gA2.keep hb4).cell
        clear q1 q2 q3 q4 q5 y0 y1 y2 y3 y4 y5 hsame hsome
        by_cases h1 : sg = 1
        · subst h1
          rcases hT with rfl | rfl | rfl
          · go_wp2
            go_roundg (l.length - (j + 1))
            case measure => omega
            case rel => exact hend _ hb5
          · go_wp2
            go_ret
            exact ⟨⟨_, rfl⟩, hb5⟩
          · go_wp2
            go_roundg (l.length - (j + 1))
            case measure => omega
            case rel => exact hend _ hb5
        · by_cases h2 : sg = 2
          · subst h2
            rcases hT with rfl | rfl | rfl
            · go_wp2
              go_roundg (l.length - (j + 1))
              case measure => omega
              case rel => exact hend _ hb5
            · go_wp2
              go_ret
              exact ⟨⟨_, rfl⟩, hb5⟩
            · go_wp2
              go_ret
              exact ⟨⟨_, rfl⟩, hb5⟩
          · by_cases h3 : sg = 3
            · subst h3
              rcases hT with rfl | rfl | rfl
              · go_wp2
                go_ret
                exact ⟨⟨_, rfl⟩, hb5⟩
              · go_wp2
                go_ret
                exact ⟨⟨_, rfl⟩, hb5⟩
              · go_wp2
                go_roundg (l.length - (j + 1))
                case measure => omega
                case rel => exact hend _ hb5
            · by_cases h0 : sg = 0
              · subst h0
                rcases hT with rfl | rfl | rfl
                · go_wp2
                  go_ret
                  exact ⟨⟨_, rfl⟩, hb5⟩
                · go_wp2
                  go_roundg (l.length - (j + 1))
                  case measure => omega
                  case rel => exact hend _ hb5
                · go_wp2
                  go_ret
                  exact ⟨⟨_, rfl⟩, hb5⟩
              · rcases hT with rfl | rfl | rfl
                · go_wp2
                  go_ret
                  exact ⟨⟨_, rfl⟩, hb5⟩
                · go_wp2
                  go_ret
                  exact ⟨⟨_, rfl⟩, hb5⟩
                · go_wp2
                  go_ret
                  exact ⟨⟨_, rfl⟩, hb5⟩
    · go_wp2
      go_ret
      exact ⟨⟨_, rfl⟩, hbr⟩
end Go.Proofs.YtbheebpfbabffaaGreat.Wat

