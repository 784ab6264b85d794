/- Joined: CronSpec, CronSplit, CronNum, CronSpan, CronItem, CronField, CronFits, CronMatch. -/
import Derived.IntWalk
import Derived.Lib.SplitLaws
import Derived.Test.YtdpaiaeaamokeaaDoorProg
import Derived.Test.YtdpaiaeaamokeaaDoorKit
import Derived.Test.YtdpaiaeaamokeaaDoorShelf
import Derived.Test.YtdpaiaeaamokeaaDoorCalA
namespace Go.Proofs.YtdpaiaeaamokeaaDoor.Cron

def isDig (c : UInt8) : Bool := decide (48 ≤ c.toNat ∧ c.toNat ≤ 57)
/-- The number that digits say. -/
def dval (l : List UInt8) : Nat := l.foldl (fun n c => 10 * n + (c.toNat - 48)) 0
/-- A number of one or two digits; -1: it is none. -/
def pnum (l : List UInt8) : Int := if l.length < 1 ∨ 2 < l.length then -1 else if l.all isDig then (dval l : Int) else -1
/-- The bits from a to b. -/
def spanN (a b : Nat) : Nat := 2 ^ (b + 1) - 2 ^ a
/-- What stands ahead of the first sep, what behind, and whether there is one. -/
def cut1 (sep : UInt8) : List UInt8 → List UInt8 × List UInt8 × Bool
  | [] => ([], [], false)
  | c :: l => if c = sep then ([], l, true) else let r := cut1 sep l; (c :: r.1, r.2.1, r.2.2)
/-- An item: the bits; 0: it is none. -/
def pitem (l : List UInt8) (lo hi : Nat) : Nat :=
  let r := cut1 45 l
  let x := pnum r.1
  let y := if r.2.2 then pnum r.2.1 else x
  if x < (lo : Int) ∨ (hi : Int) < y ∨ y < x then 0 else spanN x.toNat y.toNat
/-- Pieces between seps. -/
def pieces (sep : UInt8) : List UInt8 → List (List UInt8)
  | [] => [[]]
  | c :: l => if c = sep then [] :: pieces sep l else match pieces sep l with
    | [] => [[c]]
    | p :: ps => (c :: p) :: ps
/-- Items joined: 0 if one is none. -/
def pitems (lo hi : Nat) : List (List UInt8) → Nat → Nat
  | [], acc => acc
  | p :: ps, acc => if pitem p lo hi = 0 then 0 else pitems lo hi ps (acc ||| pitem p lo hi)
/-- A field; 0: it is none. -/
def pfield (l : List UInt8) (lo hi : Nat) : Nat := if l = [42] then spanN lo hi else pitems lo hi (pieces 44 l) 0

def isBlank (c : UInt8) : Bool := decide (c.toNat = 32 ∨ c.toNat = 9)
/-- One byte more of the fields between blanks: what there is, and whether it goes on. -/
def fstep (st : List (List UInt8) × Bool) (c : UInt8) : List (List UInt8) × Bool :=
  if isBlank c then (st.1, false) else if st.2 then (st.1.dropLast ++ [st.1.getLastD [] ++ [c]], true) else (st.1 ++ [[c]], true)
def fold (l : List UInt8) : List (List UInt8) × Bool := l.foldl fstep ([], false)
/-- The fields of a text. -/
def flds (l : List UInt8) : List (List UInt8) := (fold l).1

/-- An expression: five sets, two marks. -/
structure Ex where
  mi : Nat
  ho : Nat
  da : Nat
  mo : Nat
  wk : Nat
  ad : Bool
  aw : Bool
deriving DecidableEq

def pex (l : List UInt8) : Option Ex :=
  match flds l with
  | [a, b, c, d, e] =>
    if pfield a 0 59 = 0 ∨ pfield b 0 23 = 0 ∨ pfield c 1 31 = 0 ∨ pfield d 1 12 = 0 ∨ pfield e 0 6 = 0 then none
    else some ⟨pfield a 0 59, pfield b 0 23, pfield c 1 31, pfield d 1 12, pfield e 0 6, decide (c = [42]), decide (e = [42])⟩
  | _ => none

/-! ### Numbers, sets -/
theorem dval_snoc (l : List UInt8) (c : UInt8) : dval (l ++ [c]) = 10 * dval l + (c.toNat - 48) := by simp [dval]
theorem isDig_iff (c : UInt8) : isDig c = true ↔ 48 ≤ c.toNat ∧ c.toNat ≤ 57 := by simp [isDig]
theorem dval_lt_acc : ∀ (l : List UInt8) (acc : Nat), l.all isDig = true → l.foldl (fun n c => 10 * n + (c.toNat - 48)) acc < (acc + 1) * 10 ^ l.length
  | [], acc, _ => by simp
  | c :: l, acc, h => by
    rw [List.all_cons, Bool.and_eq_true] at h
    have hc := (isDig_iff c).1 h.1
    have := dval_lt_acc l (10 * acc + (c.toNat - 48)) h.2
    rw [List.foldl_cons, List.length_cons, Nat.pow_succ]
    have h2 : (10 * acc + (c.toNat - 48) + 1) * 10 ^ l.length ≤ (acc + 1) * 10 * 10 ^ l.length := Nat.mul_le_mul_right _ (by omega)
    rw [Nat.mul_comm (10 ^ l.length) 10, ← Nat.mul_assoc]
    omega
theorem dval_lt (l : List UInt8) (h : l.all isDig = true) : dval l < 10 ^ l.length := by
  have := dval_lt_acc l 0 h
  unfold dval; omega
theorem pnum_range (l : List UInt8) : -1 ≤ pnum l := by
  unfold pnum; split
  · omega
  · split <;> omega
theorem span_lt (a b : Nat) (hb : b < 64) : spanN a b < 18446744073709551616 := by
  have h1 : 2 ^ (b + 1) ≤ 2 ^ 64 := Nat.pow_le_pow_right (by omega) (by omega)
  have h2 : 1 ≤ 2 ^ a := Nat.one_le_two_pow
  unfold spanN; omega
theorem span_pos (a b : Nat) (h : a ≤ b) : 0 < spanN a b := by
  have : 2 ^ a < 2 ^ (b + 1) := Nat.pow_lt_pow_right (by omega) (by omega)
  unfold spanN; omega
theorem span_shift (a b : Nat) (h : a ≤ b) : spanN a b = (2 ^ (b + 1 - a) - 1) <<< a := by
  unfold spanN
  rw [Nat.shiftLeft_eq, Nat.sub_mul, ← Nat.pow_add, Nat.sub_add_cancel (by omega), Nat.one_mul]
theorem span_test (a b i : Nat) (h : a ≤ b) : (spanN a b).testBit i = decide (a ≤ i ∧ i ≤ b) := by
  rw [span_shift a b h, Nat.testBit_shiftLeft, Nat.testBit_two_pow_sub_one]
  by_cases h1 : a ≤ i
  · simp [h1]; omega
  · simp [h1]
theorem span_bits (a b : Nat) (h : a ≤ b) (hb : b < 64) : (2 ^ (b + 1) - 1) &&& (18446744073709551615 - (2 ^ a - 1)) = spanN a b := by
  have key : ∀ b : Nat, b < 64 → ∀ a : Nat, a < 64 → a ≤ b → (2 ^ (b + 1) - 1) &&& (18446744073709551615 - (2 ^ a - 1)) = 2 ^ (b + 1) - 2 ^ a := by decide +kernel
  exact key b hb a (by omega) h
end Go.Proofs.YtdpaiaeaamokeaaDoor.Cron

namespace Go.Proofs.YtdpaiaeaamokeaaDoor.Cron
open Go.Lib

theorem index_one (b c : UInt8) (l : List UInt8) : Lib.index (b :: l) [c] = if b = c then 0 else if Lib.index l [c] = -1 then -1 else Lib.index l [c] + 1 := by
  rw [Lib.index]
  by_cases h : b = c
  · subst h; simp [List.isPrefixOf]
  · have hp : ([c] : List UInt8).isPrefixOf (b :: l) = false := by simp [List.isPrefixOf, Ne.symm h]
    rw [hp, if_neg h]
    simp

theorem cut_one (c : UInt8) : ∀ l : List UInt8, Lib.cut l [c] = cut1 c l
  | [] => by simp [Lib.cut, cut1, Lib.index]
  | b :: l => by
    have ih := cut_one c l
    have hge := index_ge l [c]
    unfold Lib.cut at ih ⊢
    rw [index_one, cut1]
    by_cases h : b = c
    · subst h; simp
    · rw [if_neg h, if_neg h]
      by_cases hm : Lib.index l [c] = -1
      · rw [if_pos hm]
        rw [if_neg (by omega)] at ih
        rw [if_neg (by omega), ← ih]
      · rw [if_neg hm]
        rw [if_pos (by omega)] at ih
        rw [if_pos (by omega), ← ih]
        obtain ⟨j, hj⟩ : ∃ j : Nat, Lib.index l [c] = j := ⟨(Lib.index l [c]).toNat, by omega⟩
        rw [hj]
        have e : ((j : Int) + 1).toNat = j + 1 := by omega
        have e2 : (j : Int).toNat = j := by omega
        rw [e, e2]
        simp [List.take_succ_cons]

theorem split_one (c : UInt8) : ∀ l : List UInt8, Lib.split l [c] = pieces c l
  | [] => by
    have h : Lib.count [] [c] = 0 := Lib.count_miss (by simp [Lib.index])
    simp [Lib.split, pieces, h, Lib.splitK]
  | b :: l => by
    have ih := split_one c l
    unfold Lib.split at ih ⊢
    rw [pieces]
    by_cases h : b = c
    · subst h
      rw [if_pos rfl, count_cons_eq, Nat.add_comm, Lib.splitK]
      rw [index_one, if_pos rfl]
      simpa using ih
    · rw [if_neg h, count_cons_ne b c l h]
      cases hk : Lib.count l [c] with
      | zero => rw [hk] at ih; rw [← ih]; rfl
      | succ k =>
        rw [hk] at ih
        have hm : Lib.index l [c] ≠ -1 := fun e => by have := Lib.count_miss e; omega
        have hge := index_ge l [c]
        obtain ⟨j, hj⟩ : ∃ j : Nat, Lib.index l [c] = j := ⟨(Lib.index l [c]).toNat, by omega⟩
        rw [Lib.splitK, hj, if_neg (by first | (simp; done) | (simp; omega))] at ih
        rw [Lib.splitK, index_one, if_neg h, if_neg hm, hj, if_neg (by first | (simp; done) | (simp; omega)), ← ih]
        have e : ((j : Int) + 1).toNat = j + 1 := by omega
        have e2 : (j : Int).toNat = j := by omega
        rw [e, e2]
        simp [List.take_succ_cons]

/-- The pieces as strings.Split hands them back. -/
theorem splitB_one (c : UInt8) (s : ByteArray) : (splitB ⟨#[c]⟩ 0 (countB s ⟨#[c]⟩) s).map (·.data.toList) = pieces c s.data.toList := by
  rw [splitB_data, ← split_one]; rfl
theorem pieces_ne (c : UInt8) (l : List UInt8) : pieces c l ≠ [] := by
  cases l with
  | nil => simp [pieces]
  | cons b l => rw [pieces]; split; simp; split <;> simp
end Go.Proofs.YtdpaiaeaamokeaaDoor.Cron

namespace Go.Proofs.YtdpaiaeaamokeaaDoor.Cron
open Go.RowKit Go

theorem list_get (s : ByteArray) (k : Nat) (h : k < s.size) : s.data.toList[k]'(by simpa using h) = s[k] := rfl
theorem take_snoc (s : ByteArray) (k : Nat) (h : k < s.size) : s.data.toList.take (k + 1) = s.data.toList.take k ++ [s[k]] := by
  rw [List.take_succ_eq_append_getElem (by simpa using h)]; rfl
theorem take_all (s : ByteArray) (k : Nat) (h : s.size ≤ k) : s.data.toList.take k = s.data.toList := List.take_of_length_le (by simpa using h)
theorem below_iter (w : World) (s : ByteArray) (k : Nat) : Below w.heap.size w (w.iter s k) := (Below.refl _ _).alloc (Nat.le_refl _) _

/-- A byte that is no digit: there is no number. -/
theorem pnum_bad (s : ByteArray) (k : Nat) (h : k < s.size) (hb : isDig s[k] = false) : pnum s.data.toList = -1 := by
  unfold pnum
  split
  · rfl
  · rw [if_neg]
    intro ha
    have := List.all_eq_true.1 ha s[k] (by rw [← list_get s k h]; exact List.getElem_mem _)
    rw [hb] at this; cases this

set_option maxRecDepth 100000 in
theorem number_any (s : ByteArray) (w : World) (hs : s.size ≤ 9223372036854775807) :
    Calls Tryd.prog 111 #[.string s] w fun e w' => e = .returned (.int .i64 (pnum s.data.toList)) ∧ Below w.heap.size w w' := by
  by_cases h : s.size < 1 ∨ 2 < s.size
  · rw [show pnum s.data.toList = -1 by unfold pnum; rw [if_pos (by simpa using h)]]
    rcases h with h | h
    · go_enter Tryd.func111, Tryd.ntmps111
      go_wp2
      go_ret
      exact ⟨rfl, Below.refl _ _⟩
    · have h' : ¬ s.size < 1 := by omega
      go_enter Tryd.func111, Tryd.ntmps111
      go_wp2
      go_ret
      exact ⟨rfl, Below.refl _ _⟩
  · have h1 : 1 ≤ s.size := by omega
    have h2 : s.size ≤ 2 := by omega
    go_enter Tryd.func111, Tryd.ntmps111
    go_wp2
    go_loopg [3] s.size (fun gk t wr => ∃ k : Nat, k ≤ s.size ∧ t = .int .i64 (dval (s.data.toList.take k)) ∧ (s.data.toList.take k).all isDig = true ∧ gk = s.size - k ∧ wr = w.iter s k)
    case atStart => exact ⟨0, by omega, rfl, rfl, rfl, rfl⟩
    case round =>
      obtain ⟨k, hk, rfl, hall, hgk, rfl⟩ := hrel
      have hd := dval_lt _ hall
      have hl : (s.data.toList.take k).length = k := by rw [List.length_take]; simp; omega
      rw [hl] at hd
      have HG := Lib.hid hgk
      have HA := Lib.hid hall
      clear hgk hl hall
      by_cases hlt : k < s.size
      · have hd9 : dval (s.data.toList.take k) ≤ 9 := by
          have : k = 0 ∨ k = 1 := by omega
          rcases this with rfl | rfl <;> simp at hd ⊢ <;> omega
        clear hd
        by_cases ha : (s[k]).toNat < 128
        · have hn := fun ty => run_next_ascii (P := Tryd.prog) w s k ty hlt ha
          by_cases hdig : isDig s[k] = true
          · have hq := (isDig_iff _).1 hdig
            have hsn : Hid (dval (s.data.toList.take (k + 1)) = 10 * dval (s.data.toList.take k) + (s[k].toNat - 48)) := by rw [take_snoc s k hlt]; exact dval_snoc _ _
            have hal : Hid ((s.data.toList.take (k + 1)).all isDig = true) := by
              show _ = _
              rw [take_snoc s k hlt, List.all_append, HA.out]; simpa using hdig
            clear hdig
            generalize dval (s.data.toList.take k) = n at *
            have hc0 : 48 ≤ (s[k].toNat : Int) := by omega
            have hc1 : (s[k].toNat : Int) ≤ 57 := by omega
            go_wp2
            go_roundg (s.size - (k + 1))
            case measure => have := HG.out; omega
            case rel => exact ⟨k + 1, by omega, by rw [hsn.out]; congr 1; omega, hal.out, rfl, rfl⟩
          · have hb : isDig s[k] = false := by simpa using hdig
            have HP : Hid (pnum s.data.toList = -1) := pnum_bad s k hlt hb
            have hq : (s[k]).toNat < 48 ∨ 57 < (s[k]).toNat := by
              have := isDig_iff s[k]; rw [hb] at this; simp at this; omega
            clear hb hdig
            rcases hq with hq | hq
            · have hc0 : (s[k].toNat : Int) < 48 := by omega
              go_wp2
              go_ret
              exact ⟨ret_int HP.out.symm, below_iter _ _ _⟩
            · have hc0 : ¬ (s[k].toNat : Int) < 48 := by omega
              have hc1 : (57 : Int) < (s[k].toNat : Int) := by omega
              go_wp2
              go_ret
              exact ⟨ret_int HP.out.symm, below_iter _ _ _⟩
        · have hn := fun ty => run_next_any (P := Tryd.prog) w s k ty hlt
          have hh := (decode_high s k hlt (by omega)).1
          have HP : Hid (pnum s.data.toList = -1) := pnum_bad s k hlt (by
            have := isDig_iff s[k]
            cases hb : isDig s[k] with
            | false => rfl
            | true => rw [hb] at this; simp at this; omega)
          generalize (Utf8.decode s k).1 = r at *
          have hc0 : ¬ (r : Int) < 48 := by omega
          have hc1 : (57 : Int) < (r : Int) := by omega
          go_wp2
          go_ret
          exact ⟨ret_int HP.out.symm, below_iter _ _ _⟩
      · have hk2 : s.size = k := by omega
        have HP : Hid (pnum s.data.toList = dval (s.data.toList.take k)) := by
          have e : s.data.toList.take k = s.data.toList := take_all s k (by omega)
          have := HA.out
          rw [e] at this
          show _ = _
          have hz : s.data.toList.length = s.size := by rw [Array.length_toList]; rfl
          rw [e]; unfold pnum; rw [if_neg (by rw [hz]; omega), if_pos this]
        have hn := fun ty => run_next_end (P := Tryd.prog) w s k ty hlt
        clear hk2 hd
        go_wp2
        go_ret
        exact ⟨ret_int HP.out.symm, below_iter _ _ _⟩
end Go.Proofs.YtdpaiaeaamokeaaDoor.Cron

namespace Go.Proofs.YtdpaiaeaamokeaaDoor.Cron
open Go.RowKit Go

theorem wrap_pow (k : Nat) (h : k ≤ 63) : IntKind.u64.wrap (2 ^ k) = ((2 ^ k : Nat) : Int) ∧ IntKind.u64.wrap (IntKind.u64.wrap (2 ^ k) - 1) = ((2 ^ k - 1 : Nat) : Int) := by
  have h1 : 2 ^ k ≤ 2 ^ 63 := Nat.pow_le_pow_right (by omega) h
  have h2 : 1 ≤ 2 ^ k := Nat.one_le_two_pow
  have e : (2 : Int) ^ k = ((2 ^ k : Nat) : Int) := by push_cast; rfl
  rw [e]
  generalize 2 ^ k = n at *
  have a : IntKind.u64.wrap (n : Int) = n := IntWalk.u64_in _ (by omega)
  refine ⟨a, ?_⟩
  rw [a, IntWalk.u64_in _ (by omega)]
  omega
theorem span_word (a b : Nat) (h : a ≤ b) (hb : b ≤ 62) :
    bits BinOp.andNot IntKind.u64 (IntKind.u64.wrap (IntKind.u64.wrap (2 ^ (b + 1)) - 1)) (IntKind.u64.wrap (IntKind.u64.wrap (2 ^ a) - 1)) = (spanN a b : Nat) := by
  rw [(wrap_pow (b + 1) (by omega)).2, (wrap_pow a (by omega)).2]
  have h1 : 2 ^ (b + 1) ≤ 2 ^ 63 := Nat.pow_le_pow_right (by omega) (by omega)
  have h2 : 2 ^ a ≤ 2 ^ 63 := Nat.pow_le_pow_right (by omega) (by omega)
  rw [u64_andNot_nat _ _ (by omega) (by omega), span_bits a b h (by omega)]

theorem span_any (a b : Nat) (w : World) (h : a ≤ b) (hb : b ≤ 62) :
    Calls Tryd.prog 61 #[.int .i64 a, .int .i64 b] w fun e w' => e = .returned (.int .u64 (spanN a b : Nat)) ∧ ∃ n, w' = w.drewN n := by
  go_enter Tryd.func61, Tryd.ntmps61
  go_wp2
  go_quiet (fail)
  go_wp2
  go_ret
  exact ⟨ret_int (span_word a b h hb), _, rfl⟩
theorem span_bel (a b : Nat) (w : World) (h : a ≤ b) (hb : b ≤ 62) :
    Calls Tryd.prog 61 #[.int .i64 a, .int .i64 b] w fun e w' => e = .returned (.int .u64 (spanN a b : Nat)) ∧ Below w.heap.size w w' :=
  (span_any a b w h hb).mono fun _ _ ⟨he, _, hw⟩ => ⟨he, hw ▸ below_drewN (Below.refl _ _) _⟩
end Go.Proofs.YtdpaiaeaamokeaaDoor.Cron

namespace Go.Proofs.YtdpaiaeaamokeaaDoor.Cron
open Go.RowKit Go

/-- What the library's search asks of memory: its variable holds some number. -/
def MaxOk (w : World) : Prop := ∃ m, w.cell? ⟨3, 0, none⟩ = some (.int .i64 m)
theorem MaxOk.below {w w' : World} (h : MaxOk w) (hb : Below w.heap.size w w') : MaxOk w' := by
  obtain ⟨m, hm⟩ := h
  refine ⟨m, ?_⟩
  rw [hb.cell (p := ⟨3, 0, none⟩) ?_, hm]
  rcases Nat.lt_or_ge 3 w.heap.size with h | h
  · exact h
  · simp [World.cell?, Array.getElem?_eq_none h] at hm

theorem size_toArray (l : List UInt8) : (⟨l.toArray⟩ : ByteArray).size = l.length := by simp [ByteArray.size]

theorem cut1_le (c : UInt8) : ∀ l : List UInt8, (cut1 c l).1.length ≤ l.length ∧ (cut1 c l).2.1.length ≤ l.length
  | [] => by simp [cut1]
  | b :: l => by
    have ih := cut1_le c l
    rw [cut1]; split
    · simp
    · simp; omega

/-- strings.Cut at a minus sign. -/
theorem cut_any (s : ByteArray) (w : World) (hm : MaxOk w) (hs : s.size < 4294967281) :
    Calls Tryd.prog 73 #[.string s, .string ⟨#[45]⟩] w fun e w' =>
      e = .returned (.tuple #[.string ⟨(cut1 45 s.data.toList).1.toArray⟩, .string ⟨(cut1 45 s.data.toList).2.1.toArray⟩, .bool (cut1 45 s.data.toList).2.2]) ∧ ∃ n, w' = w.drewN n := by
  obtain ⟨m, hm⟩ := hm
  refine (Tryd.strings_Cut s ⟨#[45]⟩ m w hs hm).mono ?_
  rintro e w' ⟨he, hw⟩
  have ec : Lib.cut s.data.toList (⟨#[45]⟩ : ByteArray).data.toList = cut1 45 s.data.toList := cut_one 45 s.data.toList
  rw [ec] at he
  exact ⟨he, hw⟩

set_option maxRecDepth 100000 in
theorem item_any (s : ByteArray) (lo hi : Nat) (w : World) (hm : MaxOk w) (hs : s.size < 4294967281) (hh : hi ≤ 62) :
    Calls Tryd.prog 90 #[.string s, .int .i64 lo, .int .i64 hi] w fun e w' => e = .returned (.int .u64 (pitem s.data.toList lo hi : Nat)) ∧ Below w.heap.size w w' := by
  have hcl := cut1_le 45 s.data.toList
  have hsz : s.data.toList.length = s.size := by rw [Array.length_toList]; rfl
  rw [hsz] at hcl
  obtain ⟨r, hr⟩ : ∃ r, r = cut1 45 s.data.toList := ⟨_, rfl⟩
  have hx := pnum_range r.1
  have hy := pnum_range r.2.1
  have hP : Hid (pitem s.data.toList lo hi = if pnum r.1 < (lo : Int) ∨ (hi : Int) < (if r.2.2 then pnum r.2.1 else pnum r.1) ∨ (if r.2.2 then pnum r.2.1 else pnum r.1) < pnum r.1 then 0 else spanN (pnum r.1).toNat (if r.2.2 then pnum r.2.1 else pnum r.1).toNat) := by
    show _ = _
    subst hr; rfl
  rw [← hr] at hcl
  have HR := Lib.hid hr
  clear hr hsz
  obtain ⟨a, b, two⟩ := r
  dsimp only at hcl hx hy hP
  go_enter Tryd.func90, Tryd.ntmps90
  go_wp2_with fail
  go_at_call 73
  refine (cut_any s _ hm hs).mono ?_
  rw [← HR.out]
  rintro e w1 ⟨rfl, n1, rfl⟩
  go_wp2_with fail
  go_at_call 111
  refine (number_any _ _ (by rw [size_toArray]; omega)).mono ?_
  rintro e w2 ⟨rfl, hb2⟩
  have hbel : Below w.heap.size w w2 := (below_drewN (Below.refl _ _) n1).trans hb2
  clear hb2 HR
  cases two
  · by_cases c1 : pnum a < (lo : Int)
    · go_wp2
      go_ret
      refine ⟨ret_int ?_, hbel⟩
      rw [hP.out, if_pos (.inl c1)]; rfl
    · by_cases c2 : (hi : Int) < pnum a
      · go_wp2
        go_ret
        refine ⟨ret_int ?_, hbel⟩
        rw [hP.out, if_pos (.inr (.inl c2))]; rfl
      · obtain ⟨x, hxa⟩ : ∃ x : Nat, pnum a = x := ⟨(pnum a).toNat, by omega⟩
        have HX := Lib.hid hxa
        clear hxa
        go_wp2_with fail
        rw [HX.out]
        go_at_call 61
        refine (span_bel x x _ (by omega) (by have := HX.out; omega)).mono ?_
        rintro e w3 ⟨rfl, hb3⟩
        go_wp2
        go_ret
        refine ⟨ret_int ?_, bthen hbel hb3⟩
        rw [hP.out, if_neg (by have := HX.out; simp; omega), HX.out]; rfl
  · go_wp2_with fail
    go_at_call 111
    refine (number_any _ _ (by rw [size_toArray]; omega)).mono ?_
    rintro e w3 ⟨rfl, hb3⟩
    have hbel2 := bthen hbel hb3
    clear hbel hb3
    by_cases c1 : pnum a < (lo : Int)
    · go_wp2
      go_ret
      refine ⟨ret_int ?_, hbel2⟩
      rw [hP.out, if_pos (.inl c1)]; rfl
    · by_cases c2 : (hi : Int) < pnum b
      · go_wp2
        go_ret
        refine ⟨ret_int ?_, hbel2⟩
        rw [hP.out, if_pos (.inr (.inl c2))]; rfl
      · by_cases c3 : pnum b < pnum a
        · go_wp2
          go_ret
          refine ⟨ret_int ?_, hbel2⟩
          rw [hP.out, if_pos (.inr (.inr c3))]; rfl
        · obtain ⟨x, hxa⟩ : ∃ x : Nat, pnum a = x := ⟨(pnum a).toNat, by omega⟩
          obtain ⟨y, hya⟩ : ∃ y : Nat, pnum b = y := ⟨(pnum b).toNat, by omega⟩
          have HX := Lib.hid hxa
          have HY := Lib.hid hya
          clear hxa hya
          go_wp2_with fail
          rw [HX.out, HY.out]
          go_at_call 61
          refine (span_bel x y _ (by have := HX.out; have := HY.out; omega) (by have := HY.out; omega)).mono ?_
          rintro e w4 ⟨rfl, hb4⟩
          go_wp2
          go_ret
          refine ⟨ret_int ?_, bthen hbel2 hb4⟩
          rw [hP.out, if_neg (by have := HX.out; have := HY.out; simp; omega), if_pos trivial, HX.out, HY.out]; rfl
end Go.Proofs.YtdpaiaeaamokeaaDoor.Cron

namespace Go.Proofs.YtdpaiaeaamokeaaDoor.Cron
open Go.RowKit Go

theorem pieces_le (c : UInt8) : ∀ (l p : List UInt8), p ∈ pieces c l → p.length ≤ l.length
  | [], p, h => by simp [pieces] at h; subst h; simp
  | b :: l, p, h => by
    have ih := pieces_le c l
    rw [pieces] at h
    split at h
    · rcases List.mem_cons.1 h with rfl | h
      · simp
      · have := ih p h; simp; omega
    · split at h
      · simp at h; subst h; simp
      · rename_i q qs hq
        rcases List.mem_cons.1 h with rfl | h
        · have := ih q (by rw [hq]; simp); simp; omega
        · have := ih p (by rw [hq]; simp [h]); simp; omega

theorem pitem_lt (l : List UInt8) (lo hi : Nat) (hh : hi ≤ 62) : pitem l lo hi < 18446744073709551616 := by
  unfold pitem
  dsimp only
  generalize (if (cut1 45 l).2.2 = true then pnum (cut1 45 l).2.1 else pnum (cut1 45 l).1) = y
  split
  · omega
  · exact span_lt _ _ (by omega)
/-- What is left to be joined behind some pieces. -/
theorem pitems_step (lo hi : Nat) (ps : List (List UInt8)) (k : Nat) (acc : Nat) (p : List UInt8) (h : ps[k]? = some p) :
    pitems lo hi (ps.drop k) acc = if pitem p lo hi = 0 then 0 else pitems lo hi (ps.drop (k + 1)) (acc ||| pitem p lo hi) := by
  obtain ⟨hk, rfl⟩ := List.getElem?_eq_some_iff.1 h
  rw [List.drop_eq_getElem_cons hk, pitems]

set_option maxRecDepth 100000 in
theorem field_any (s : ByteArray) (lo hi : Nat) (w : World) (hm : MaxOk w) (hs : s.size < 4294967281) (hl : lo ≤ hi) (hh : hi ≤ 62) :
    Calls Tryd.prog 57 #[.string s, .int .i64 lo, .int .i64 hi] w fun e w' => e = .returned (.int .u64 (pfield s.data.toList lo hi : Nat)) ∧ Below w.heap.size w w' := by
  by_cases hstar : s.data.toList = [42]
  · have hP : Hid (pfield s.data.toList lo hi = spanN lo hi) := by show _ = _; rw [pfield, if_pos hstar]
    have hq : (s.toList == [42]) = true := by rw [Lib.toList_data, hstar]; rfl
    clear hstar
    go_enter Tryd.func57, Tryd.ntmps57
    go_wp2_with fail
    go_at_call 61
    refine (span_bel lo hi _ hl hh).mono ?_
    rintro e w1 ⟨rfl, hb1⟩
    go_wp2
    go_ret
    exact ⟨ret_int (by rw [hP.out]), hb1⟩
  · have hP : Hid (pfield s.data.toList lo hi = pitems lo hi (pieces 44 s.data.toList) 0) := by show _ = _; rw [pfield, if_neg hstar]
    have hq : (s.toList == [42]) = false := by rw [Lib.toList_data]; simpa using hstar
    clear hstar
    obtain ⟨m, hm0⟩ := hm
    obtain ⟨bs, hbs⟩ : ∃ bs : List ByteArray, bs = Lib.splitB ⟨#[44]⟩ 0 (Lib.countB s ⟨#[44]⟩) s := ⟨_, rfl⟩
    have hlen : bs.length = Lib.countB s ⟨#[44]⟩ + 1 := by rw [hbs]; exact Lib.splitB_all ⟨#[44]⟩ (by decide) 0 _ s rfl
    have hpc : bs.map (·.data.toList) = pieces 44 s.data.toList := by rw [hbs]; exact splitB_one 44 s
    have hcnt : Lib.countB s ⟨#[44]⟩ ≤ s.size := Lib.countB_le ⟨#[44]⟩ (by decide) s.size s (Nat.le_refl _)
    have HB := Lib.hid hbs
    have HC := Lib.hid hpc
    have HL := Lib.hid hlen
    have hm1 : MaxOk w := ⟨m, hm0⟩
    clear hbs hpc hlen
    go_enter Tryd.func57, Tryd.ntmps57
    go_wp2_with fail
    go_at_call 47
    refine (Tryd.strings_Split s ⟨#[44]⟩ m w hs hm0 (by decide)).mono ?_
    rw [← HB.out, ← HL.out]
    rintro e w1 ⟨rfl, rfl⟩
    go_wp2
    have HM := Lib.hid hm1
    have hbl : bs.length ≤ 4294967281 := by have := HL.out; omega
    clear hm1 hm0
    go_loopg [7, 19] bs.length (fun gk t c wr => ∃ k acc : Nat, k ≤ bs.length ∧ acc < 18446744073709551616 ∧ t = .int .u64 acc ∧ c = .int .i64 k ∧ pitems lo hi ((pieces 44 s.data.toList).drop k) acc = pitems lo hi (pieces 44 s.data.toList) 0 ∧ gk = bs.length - k ∧ Below (w.alloc (.cells (List.map Value.string bs).toArray 9)).heap.size (w.alloc (.cells (List.map Value.string bs).toArray 9)) wr)
    case atStart => exact ⟨0, 0, by omega, by omega, rfl, rfl, rfl, rfl, Below.refl _ _⟩
    case round =>
      obtain ⟨k, acc, hk, hacc, rfl, rfl, hT, hgk, hb⟩ := hrel
      have HG := Lib.hid hgk
      have HT := Lib.hid hT
      clear hgk hT
      have hbw : Below w.heap.size w wr := ((Below.refl w.heap.size w).alloc (Nat.le_refl _) _).trans (hb.mono (by simp))
      by_cases hlt : k < bs.length
      · have hcell : wr.cell? ⟨w.heap.size, k, none⟩ = some (.string bs[k]) := by
          rw [keepN hb k]; simp [hlt]
        have hp : (pieces 44 s.data.toList)[k]? = some bs[k].data.toList := by rw [← HC.out]; simp [hlt]
        have hsz : bs[k].size < 4294967281 := by
          have := pieces_le 44 s.data.toList bs[k].data.toList (List.mem_of_getElem? hp)
          rw [Array.length_toList, Array.length_toList] at this
          exact Nat.lt_of_le_of_lt this hs
        have HS := Lib.hid (pitems_step lo hi _ k acc _ hp)
        have hil := pitem_lt bs[k].data.toList lo hi hh
        have hMr := HM.out.below hbw
        have HBW := Lib.hid hb
        clear hb hp
        go_wp2_with fail
        go_at_call 90
        refine (item_any bs[k] lo hi _ hMr hsz hh).mono ?_
        rintro e w3 ⟨rfl, hb3⟩
        obtain ⟨it, hit⟩ : ∃ it, it = pitem bs[k].data.toList lo hi := ⟨_, rfl⟩
        rw [← hit] at hil ⊢
        rw [← hit] at HS
        clear hit
        by_cases hz : it = 0
        · subst hz
          go_wp2
          go_ret
          refine ⟨ret_int ?_, bthen hbw hb3⟩
          rw [hP.out, ← HT.out, HS.out, if_pos trivial]; rfl
        · have hz1 : ((it : Int) == 0) = false := by simp; exact hz
          have hor := bits_or_u64_nat acc it hacc hil
          go_wp2
          go_roundg (bs.length - (k + 1))
          case measure => have := HG.out; omega
          case rel => exact ⟨k + 1, acc ||| it, by omega, Nat.or_lt_two_pow (n := 64) hacc hil, rfl, rfl, by have := HS.out; rw [if_neg hz] at this; rw [← this]; exact HT.out, rfl, HBW.out.trans (hb3.mono HBW.out.size)⟩
      · have hkl : k = bs.length := by omega
        have hPV : Hid (pitems lo hi (pieces 44 s.data.toList) 0 = acc) := by
          show _ = _
          rw [← HT.out, List.drop_of_length_le (by rw [← HC.out]; simp; omega)]; rfl
        clear hkl hb
        go_wp2
        go_ret
        exact ⟨ret_int (by rw [hP.out, hPV.out]), hbw⟩
end Go.Proofs.YtdpaiaeaamokeaaDoor.Cron

namespace Go.Proofs.YtdpaiaeaamokeaaDoor.Cron
open Go.RowKit Go

/-- Bit n of a word, as the program asks it. -/
theorem bit_and (b n : Nat) (hb : b < 18446744073709551616) : bits BinOp.and IntKind.u64 ((b : Int) / 2 ^ n) 1 = if b.testBit n then 1 else 0 := by
  have e : (b : Int) / 2 ^ n = ((b / 2 ^ n : Nat) : Int) := by push_cast; rfl
  have hd : b / 2 ^ n ≤ b := Nat.div_le_self _ _
  rw [e]
  have := u64_and_nat (b / 2 ^ n) 1 (by omega) (by omega)
  rw [show ((1 : Nat) : Int) = 1 by rfl] at this
  rw [this, Nat.and_one_is_mod, Nat.testBit_eq_decide_div_mod_eq]
  by_cases h : b / 2 ^ n % 2 = 1
  · simp [h]
  · have : b / 2 ^ n % 2 = 0 := by omega
    simp [this]
theorem bit_yes (b n : Nat) (hb : b < 18446744073709551616) (h : b.testBit n = true) : bits BinOp.and IntKind.u64 ((b : Int) / 2 ^ n) 1 = 1 := by rw [bit_and b n hb, h]; rfl
theorem bit_no (b n : Nat) (hb : b < 18446744073709551616) (h : b.testBit n = false) : bits BinOp.and IntKind.u64 ((b : Int) / 2 ^ n) 1 = 0 := by rw [bit_and b n hb, h]; rfl

/-- May a day be: of month m, day d, weekday k? -/
def dayOk (da mo wk : Nat) (ad aw : Bool) (m d k : Nat) : Bool :=
  mo.testBit m && (if ad && aw then true else if ad then wk.testBit k else if aw then da.testBit d else da.testBit d || wk.testBit k)

theorem below_alloc2 (w : World) (o o2 : Obj) (n : Nat) : Below w.heap.size w (((w.alloc o).alloc o2).drewN n) :=
  below_drewN (((Below.refl _ _).alloc (Nat.le_refl _) _).alloc (by simp) _) _

set_option maxHeartbeats 1000000 in
set_option maxRecDepth 100000 in
theorem fits_any (mi ho da mo wk : Nat) (ad aw : Bool) (m d k : Nat) (y h i : Int) (w : World) (hm : m ≤ 12) (hd : d ≤ 31) (hk : k ≤ 6) (hda : da < 18446744073709551616) (hmo : mo < 18446744073709551616) (hwk : wk < 18446744073709551616) :
    Calls Tryd.prog 68 #[.agg #[.int .u64 mi, .int .u64 ho, .int .u64 da, .int .u64 mo, .int .u64 wk, .bool ad, .bool aw], .agg #[.int .i64 y, .int .i64 m, .int .i64 d, .int .i64 h, .int .i64 i, .int .i64 k]] w fun e w' =>
      e = .returned (.bool (dayOk da mo wk ad aw m d k)) ∧ Below w.heap.size w w' := by
  cases hM : mo.testBit m with
  | false =>
    have f1 := bit_no mo m hmo hM
    have H1 : Hid (dayOk da mo wk ad aw m d k = false) := by show _ = _; simp [dayOk, hM]
    clear hM
    go_enter Tryd.func68, Tryd.ntmps68
    go_wp2
    go_quiet (fail)
    go_wp2
    go_ret
    exact ⟨ret_bool H1.out.symm, below_alloc2 _ _ _ _⟩
  | true =>
    have f1 := bit_yes mo m hmo hM
    have H1 := Lib.hid hM
    clear hM
    cases hK : wk.testBit k with
    | false =>
      have f2 := bit_no wk k hwk hK
      cases hD : da.testBit d with
      | false =>
        have f3 := bit_no da d hda hD
        have H2 := Lib.hid hK
        have H3 := Lib.hid hD
        clear hK hD
        cases ad <;> cases aw
        all_goals
          go_enter Tryd.func68, Tryd.ntmps68
          go_wp2
          go_quiet (fail)
          go_wp2
          go_ret
          exact ⟨ret_bool (by simp [dayOk, H1.out, H2.out, H3.out]), below_alloc2 _ _ _ _⟩
      | true =>
        have f3 := bit_yes da d hda hD
        have H2 := Lib.hid hK
        have H3 := Lib.hid hD
        clear hK hD
        cases ad <;> cases aw
        all_goals
          go_enter Tryd.func68, Tryd.ntmps68
          go_wp2
          go_quiet (fail)
          go_wp2
          go_ret
          exact ⟨ret_bool (by simp [dayOk, H1.out, H2.out, H3.out]), below_alloc2 _ _ _ _⟩
    | true =>
      have f2 := bit_yes wk k hwk hK
      cases hD : da.testBit d with
      | false =>
        have f3 := bit_no da d hda hD
        have H2 := Lib.hid hK
        have H3 := Lib.hid hD
        clear hK hD
        cases ad <;> cases aw
        all_goals
          go_enter Tryd.func68, Tryd.ntmps68
          go_wp2
          go_quiet (fail)
          go_wp2
          go_ret
          exact ⟨ret_bool (by simp [dayOk, H1.out, H2.out, H3.out]), below_alloc2 _ _ _ _⟩
      | true =>
        have f3 := bit_yes da d hda hD
        have H2 := Lib.hid hK
        have H3 := Lib.hid hD
        clear hK hD
        cases ad <;> cases aw
        all_goals
          go_enter Tryd.func68, Tryd.ntmps68
          go_wp2
          go_quiet (fail)
          go_wp2
          go_ret
          exact ⟨ret_bool (by simp [dayOk, H1.out, H2.out, H3.out]), below_alloc2 _ _ _ _⟩
end Go.Proofs.YtdpaiaeaamokeaaDoor.Cron

namespace Go.Proofs.YtdpaiaeaamokeaaDoor.Cron
open Go.RowKit Go Go.Proofs.YtdpaiaeaamokeaaDoor.Cal

/-- An expression as a value; its words fit. -/
def exV (e : Ex) : Value := .agg #[.int .u64 e.mi, .int .u64 e.ho, .int .u64 e.da, .int .u64 e.mo, .int .u64 e.wk, .bool e.ad, .bool e.aw]
structure ExOk (e : Ex) : Prop where
  mi : e.mi < 18446744073709551616
  ho : e.ho < 18446744073709551616
  da : e.da < 18446744073709551616
  mo : e.mo < 18446744073709551616
  wk : e.wk < 18446744073709551616

/-- The minute n matches: it has a date, its day may be, its hour, its minute are allowed. -/
def isMatch (e : Ex) (n : Int) : Prop :=
  -1035593280 ≤ n ∧ n ≤ 4223371679 ∧ ∃ y m d : Int, IsDay ((n + 1035593280) / 1440) y m d ∧
    dayOk e.da e.mo e.wk e.ad e.aw m.toNat d.toNat (((n + 1035593280) / 1440 + 1) % 7).toNat = true ∧
    e.ho.testBit ((n + 1035593280) % 1440 / 60).toNat = true ∧ e.mi.testBit ((n + 1035593280) % 60).toNat = true
noncomputable def mt (e : Ex) (n : Int) : Bool := @decide (isMatch e n) (Classical.propDecidable _)
theorem mt_iff (e : Ex) (n : Int) : mt e n = true ↔ isMatch e n := by unfold mt; simp
theorem mt_false {e : Ex} {n : Int} (h : ¬ isMatch e n) : mt e n = false := by unfold mt; simp [h]
theorem mt_true {e : Ex} {n : Int} (h : isMatch e n) : mt e n = true := (mt_iff e n).2 h

/-- With the date at hand. -/
theorem mt_at (e : Ex) (n y m d : Int) (h1 : -1035593280 ≤ n) (h2 : n ≤ 4223371679) (hd : IsDay ((n + 1035593280) / 1440) y m d) :
    mt e n = (dayOk e.da e.mo e.wk e.ad e.aw m.toNat d.toNat (((n + 1035593280) / 1440 + 1) % 7).toNat && e.ho.testBit ((n + 1035593280) % 1440 / 60).toNat && e.mi.testBit ((n + 1035593280) % 60).toNat) := by
  rw [Bool.eq_iff_iff, mt_iff, Bool.and_eq_true, Bool.and_eq_true]
  constructor
  · rintro ⟨_, _, y', m', d', hd', a, b, c⟩
    obtain ⟨rfl, rfl, rfl⟩ := hd.uniq hd'
    exact ⟨⟨a, b⟩, c⟩
  · rintro ⟨⟨a, b⟩, c⟩
    exact ⟨h1, h2, y, m, d, hd, a, b, c⟩

set_option maxRecDepth 100000 in
theorem matches_any (e : Ex) (n : Int) (w : World) (he : ExOk e) :
    Calls Tryd.prog 24 #[exV e, .int .i64 n] w fun x w' => x = .returned (.bool (mt e n)) ∧ Below w.heap.size w w' := by
  obtain ⟨mi, ho, da, mo, wk, ad, aw⟩ := e
  obtain ⟨b1, b2, b3, b4, b5⟩ := he
  dsimp only at b1 b2 b3 b4 b5
  unfold exV
  by_cases hn : n < -1035593280 ∨ 4223371679 < n
  · have HM : Hid (mt ⟨mi, ho, da, mo, wk, ad, aw⟩ n = false) := mt_false (fun h => by have := h.1; have := h.2.1; omega)
    go_enter Tryd.func24, Tryd.ntmps24
    go_wp2_with fail
    go_at_call 23
    refine (of_out n _ hn).mono ?_
    rintro x w1 ⟨rfl, hb1⟩
    have hbel : Below w.heap.size w w1 := ((Below.refl _ _).alloc (Nat.le_refl _) _).trans (hb1.mono (by simp))
    clear hn
    go_wp2
    go_ret
    exact ⟨ret_bool HM.out.symm, bmore hbel _⟩
  · obtain ⟨D, hD⟩ : ∃ D, (n + 1035593280) / 1440 = D := ⟨_, rfl⟩
    obtain ⟨R, hR⟩ : ∃ R, (n + 1035593280) % 1440 = R := ⟨_, rfl⟩
    obtain ⟨M, hM⟩ : ∃ M, (n + 1035593280) % 60 = M := ⟨_, rfl⟩
    have hRb : 0 ≤ R ∧ R < 1440 := by omega
    have hMb : 0 ≤ M ∧ M < 60 := by omega
    obtain ⟨H, hH⟩ : ∃ H : Nat, R / 60 = H := ⟨(R / 60).toNat, by omega⟩
    obtain ⟨I, hI⟩ : ∃ I : Nat, M = I := ⟨M.toNat, by omega⟩
    obtain ⟨K, hK⟩ : ∃ K : Nat, (D + 1) % 7 = K := ⟨((D + 1) % 7).toNat, by omega⟩
    have hHb : H ≤ 23 := by omega
    have hIb : I ≤ 59 := by omega
    have hKb : K ≤ 6 := by omega
    have HD := Lib.hid hD
    have HR := Lib.hid hR
    have HM := Lib.hid hM
    have HH := Lib.hid hH
    have HI := Lib.hid hI
    have HK := Lib.hid hK
    clear hD hR hM hH hI hK
    go_enter Tryd.func24, Tryd.ntmps24
    go_wp2_with fail
    go_at_call 23
    refine (of_in n D R M _ (by omega) (by omega) HD HR HM).mono ?_
    rintro x w1 ⟨⟨y, m, d, hx, hd⟩, hb1⟩
    rw [HH.out, HK.out, HI.out] at hx
    obtain ⟨m', hm'⟩ : ∃ m' : Nat, m = m' := ⟨m.toNat, by have := hd.m1; omega⟩
    obtain ⟨d', hd'⟩ : ∃ d' : Nat, d = d' := ⟨d.toNat, by have := hd.d1; omega⟩
    have hm12 : m' ≤ 12 := by have := hd.m12; omega
    have hd31 : d' ≤ 31 := by have := hd.dd; have := dm_bd y m; omega
    have HV := Lib.hid (mt_at ⟨mi, ho, da, mo, wk, ad, aw⟩ n y m d (by omega) (by omega) (by rw [HD.out]; exact hd))
    rw [HD.out, HR.out, HM.out, HH.out, HI.out, HK.out, hm', hd'] at HV
    rw [hm', hd'] at hx
    subst hx
    have hbel : Below w.heap.size w w1 := ((Below.refl _ _).alloc (Nat.le_refl _) _).trans (hb1.mono (by simp))
    have hB := keepN hb1
    have hz := size1 hb1
    clear hb1 hm' hd' hd HD HR HM HH HI HK hRb hMb
    simp only [Int.toNat_natCast] at HV
    go_wp2_with fail
    go_at_call 68
    refine (fits_any mi ho da mo wk ad aw m' d' K y H I _ hm12 hd31 hKb b3 b4 b5).mono ?_
    obtain ⟨f, hf⟩ : ∃ f, dayOk da mo wk ad aw m' d' K = f := ⟨_, rfl⟩
    rw [hf] at HV ⊢
    rintro x w2 ⟨rfl, hb2⟩
    have hbel2 := bthen (bmore hbel _) hb2
    have hB2 := fun o => (keep1 hb2 hz o).trans (hB o)
    have hC2 := keepN hb2
    clear hb2 hbel hB hf
    cases f with
    | false =>
      have HF : Hid (mt ⟨mi, ho, da, mo, wk, ad, aw⟩ n = false) := by show _ = _; rw [HV.out]; rfl
      clear HV
      go_wp2
      go_ret
      exact ⟨ret_bool HF.out.symm, hbel2⟩
    | true =>
      cases hh : ho.testBit H with
      | false =>
        have HF : Hid (mt ⟨mi, ho, da, mo, wk, ad, aw⟩ n = false) := by show _ = _; rw [HV.out, hh]; rfl
        have f1 := bit_no ho H b2 hh
        clear HV hh
        go_wp2
        go_ret
        exact ⟨ret_bool HF.out.symm, hbel2⟩
      | true =>
        have f1 := bit_yes ho H b2 hh
        cases hi : mi.testBit I with
        | false =>
          have HF : Hid (mt ⟨mi, ho, da, mo, wk, ad, aw⟩ n = false) := by show _ = _; rw [HV.out, hh, hi]; rfl
          have f2 := bit_no mi I b1 hi
          clear HV hh hi
          go_wp2
          go_ret
          exact ⟨ret_bool (by rw [HF.out]), hbel2⟩
        | true =>
          have HF : Hid (mt ⟨mi, ho, da, mo, wk, ad, aw⟩ n = true) := by show _ = _; rw [HV.out, hh, hi]; rfl
          have f2 := bit_yes mi I b1 hi
          clear HV hh hi
          go_wp2
          go_ret
          exact ⟨ret_bool (by rw [HF.out]), hbel2⟩
end Go.Proofs.YtdpaiaeaamokeaaDoor.Cron

