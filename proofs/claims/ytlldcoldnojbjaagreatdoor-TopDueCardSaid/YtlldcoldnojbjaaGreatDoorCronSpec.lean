/- What a cron expression's text says, in plain lists of bytes and natural numbers: no program in sight. -/
import Derived.IntWalk
namespace Go.Proofs.YtlldcoldnojbjaaGreatDoor.Cron

def isDig (c : UInt8) : Bool := decide (48 ≤ c.toNat ∧ c.toNat ≤ 57)
/-- The number that digits say. -/
def dval (l : List UInt8) : Nat := l.foldl (fun n c => 10 * n + (c.toNat - 48)) 0
/-- A number of one or two digits; -1: it is none. -/
def pnum (l : List UInt8) : Int := if l.length < 1 ∨ 2 < l.length then -1 else if l.all isDig then (dval l : Int) else -1
/-- The bits from a to b. -/
def spanN (a b : Nat) : Nat := 2 ^ (b + 1) - 2 ^ a
/-- What stands ahead of the first sep, what behind, and whether there is one. -/
def cut1 (sep : UInt8) : List UInt8 → List UInt8 × List UInt8 × Bool
  | [] => ([], [], false)
  | c :: l => if c = sep then ([], l, true) else let r := cut1 sep l; (c :: r.1, r.2.1, r.2.2)
/-- An item: the bits; 0: it is none. -/
def pitem (l : List UInt8) (lo hi : Nat) : Nat :=
  let r := cut1 45 l
  let x := pnum r.1
  let y := if r.2.2 then pnum r.2.1 else x
  if x < (lo : Int) ∨ (hi : Int) < y ∨ y < x then 0 else spanN x.toNat y.toNat
/-- Pieces between seps. -/
def pieces (sep : UInt8) : List UInt8 → List (List UInt8)
  | [] => [[]]
  | c :: l => if c = sep then [] :: pieces sep l else match pieces sep l with
    | [] => [[c]]
    | p :: ps => (c :: p) :: ps
/-- Items joined: 0 if one is none. -/
def pitems (lo hi : Nat) : List (List UInt8) → Nat → Nat
  | [], acc => acc
  | p :: ps, acc => if pitem p lo hi = 0 then 0 else pitems lo hi ps (acc ||| pitem p lo hi)
/-- A field; 0: it is none. -/
def pfield (l : List UInt8) (lo hi : Nat) : Nat := if l = [42] then spanN lo hi else pitems lo hi (pieces 44 l) 0

def isBlank (c : UInt8) : Bool := decide (c.toNat = 32 ∨ c.toNat = 9)
/-- One byte more of the fields between blanks: what there is, and whether it goes on. -/
def fstep (st : List (List UInt8) × Bool) (c : UInt8) : List (List UInt8) × Bool :=
  if isBlank c then (st.1, false) else if st.2 then (st.1.dropLast ++ [st.1.getLastD [] ++ [c]], true) else (st.1 ++ [[c]], true)
def fold (l : List UInt8) : List (List UInt8) × Bool := l.foldl fstep ([], false)
/-- The fields of a text. -/
def flds (l : List UInt8) : List (List UInt8) := (fold l).1

/-- An expression: five sets, two marks. -/
structure Ex where
  mi : Nat
  ho : Nat
  da : Nat
  mo : Nat
  wk : Nat
  ad : Bool
  aw : Bool
deriving DecidableEq

def pex (l : List UInt8) : Option Ex :=
  match flds l with
  | [a, b, c, d, e] =>
    if pfield a 0 59 = 0 ∨ pfield b 0 23 = 0 ∨ pfield c 1 31 = 0 ∨ pfield d 1 12 = 0 ∨ pfield e 0 6 = 0 then none
    else some ⟨pfield a 0 59, pfield b 0 23, pfield c 1 31, pfield d 1 12, pfield e 0 6, decide (c = [42]), decide (e = [42])⟩
  | _ => none

/-! ### Numbers, sets -/
theorem dval_snoc (l : List UInt8) (c : UInt8) : dval (l ++ [c]) = 10 * dval l + (c.toNat - 48) := by simp [dval]
theorem isDig_iff (c : UInt8) : isDig c = true ↔ 48 ≤ c.toNat ∧ c.toNat ≤ 57 := by simp [isDig]
theorem dval_lt_acc : ∀ (l : List UInt8) (acc : Nat), l.all isDig = true → l.foldl (fun n c => 10 * n + (c.toNat - 48)) acc < (acc + 1) * 10 ^ l.length
  | [], acc, _ => by simp
  | c :: l, acc, h => by
    rw [List.all_cons, Bool.and_eq_true] at h
    have hc := (isDig_iff c).1 h.1
    have := dval_lt_acc l (10 * acc + (c.toNat - 48)) h.2
    rw [List.foldl_cons, List.length_cons, Nat.pow_succ]
    have h2 : (10 * acc + (c.toNat - 48) + 1) * 10 ^ l.length ≤ (acc + 1) * 10 * 10 ^ l.length := Nat.mul_le_mul_right _ (by omega)
    rw [Nat.mul_comm (10 ^ l.length) 10, ← Nat.mul_assoc]
    omega
theorem dval_lt (l : List UInt8) (h : l.all isDig = true) : dval l < 10 ^ l.length := by
  have := dval_lt_acc l 0 h
  unfold dval; omega
theorem pnum_range (l : List UInt8) : -1 ≤ pnum l := by
  unfold pnum; split
  · omega
  · split <;> omega
theorem span_lt (a b : Nat) (hb : b < 64) : spanN a b < 18446744073709551616 := by
  have h1 : 2 ^ (b + 1) ≤ 2 ^ 64 := Nat.pow_le_pow_right (by omega) (by omega)
  have h2 : 1 ≤ 2 ^ a := Nat.one_le_two_pow
  unfold spanN; omega
theorem span_pos (a b : Nat) (h : a ≤ b) : 0 < spanN a b := by
  have : 2 ^ a < 2 ^ (b + 1) := Nat.pow_lt_pow_right (by omega) (by omega)
  unfold spanN; omega
theorem span_shift (a b : Nat) (h : a ≤ b) : spanN a b = (2 ^ (b + 1 - a) - 1) <<< a := by
  unfold spanN
  rw [Nat.shiftLeft_eq, Nat.sub_mul, ← Nat.pow_add, Nat.sub_add_cancel (by omega), Nat.one_mul]
theorem span_test (a b i : Nat) (h : a ≤ b) : (spanN a b).testBit i = decide (a ≤ i ∧ i ≤ b) := by
  rw [span_shift a b h, Nat.testBit_shiftLeft, Nat.testBit_two_pow_sub_one]
  by_cases h1 : a ≤ i
  · simp [h1]; omega
  · simp [h1]
theorem span_bits (a b : Nat) (h : a ≤ b) (hb : b < 64) : (2 ^ (b + 1) - 1) &&& (18446744073709551615 - (2 ^ a - 1)) = spanN a b := by
  have key : ∀ b : Nat, b < 64 → ∀ a : Nat, a < 64 → a ≤ b → (2 ^ (b + 1) - 1) &&& (18446744073709551615 - (2 ^ a - 1)) = 2 ^ (b + 1) - 2 ^ a := by decide +kernel
  exact key b hb a (by omega) h
end Go.Proofs.YtlldcoldnojbjaaGreatDoor.Cron
