/- Numbers of 1 to 18 digits as texts: plain lists of bytes, no program in sight. -/
import Derived.Test.YtdpaiaeaamokeaaDoorCronSpec
import Derived.Lib.ItoaNum
import Derived.Lib.Join
namespace Go.Proofs.YtdpaiaeaamokeaaDoor.Job
open Go.RowKit Go Go.Proofs.YtdpaiaeaamokeaaDoor.Cron

/-- Digits of a number, without noughts ahead. -/
def Jd (d : List UInt8) : Prop := d.all isDig = true ∧ 1 ≤ d.length ∧ d.length ≤ 18 ∧ (d.head? = some 48 → d.length = 1)
instance (d : List UInt8) : Decidable (Jd d) := by unfold Jd; infer_instance
/-- The number that a text says. -/
def jnum : List UInt8 → Option Int
  | [] => none
  | c :: d => if c = 45 then (if Jd d ∧ d ≠ [48] then some (-(dval d : Int)) else none) else if Jd (c :: d) then some (dval (c :: d) : Int) else none

theorem dval_dec : ∀ u : Nat, dval (Lib.decDigits u) = u := by
  intro u
  induction u using Nat.strongRecOn with
  | ind u ih =>
    rw [Lib.decDigits]
    split
    · rename_i h
      simp only [dval, List.foldl_cons, List.foldl_nil, UInt8.toNat_ofNat']
      omega
    · rename_i h
      rw [dval_snoc, ih (u / 10) (by omega), UInt8.toNat_ofNat']
      omega
theorem dec_dig : ∀ u : Nat, (Lib.decDigits u).all isDig = true := by
  intro u
  induction u using Nat.strongRecOn with
  | ind u ih =>
    rw [Lib.decDigits]
    split
    · rename_i h
      simp only [List.all_cons, List.all_nil, Bool.and_true, isDig_iff, UInt8.toNat_ofNat']
      omega
    · rename_i h
      rw [List.all_append, ih (u / 10) (by omega)]
      simp only [List.all_cons, List.all_nil, Bool.and_true, Bool.true_and, isDig_iff, UInt8.toNat_ofNat']
      omega
theorem dec_head : ∀ u : Nat, 1 ≤ (Lib.decDigits u).length ∧ ((Lib.decDigits u).head? = some 48 → u = 0) := by
  intro u
  induction u using Nat.strongRecOn with
  | ind u ih =>
    rw [Lib.decDigits]
    split
    · rename_i h
      refine ⟨by simp, fun e => ?_⟩
      simp at e
      have := congrArg UInt8.toNat e
      rw [UInt8.toNat_ofNat'] at this
      simp at this; omega
    · rename_i h
      obtain ⟨a, b⟩ := ih (u / 10) (by omega)
      refine ⟨by simp, fun e => ?_⟩
      have e2 : (Lib.decDigits (u / 10)).head? = some 48 := by
        cases hl : Lib.decDigits (u / 10) with
        | nil => rw [hl] at a; simp at a
        | cons x r => rw [hl] at e; simpa using e
      have := b e2
      omega
theorem dec_len (u k : Nat) (hk : 1 ≤ k) (h : u < 10 ^ k) : (Lib.decDigits u).length ≤ k := by
  induction k generalizing u with
  | zero => omega
  | succ k ih =>
    rw [Lib.decDigits]
    split
    · simp
    · rename_i h10
      have hk1 : 1 ≤ k := by
        by_cases e : k = 0
        · subst e; simp at h; omega
        · omega
      have := ih (u / 10) hk1 (by rw [Nat.pow_succ] at h; omega)
      simp; omega
theorem dec_of_dval : ∀ (n : Nat) (d : List UInt8), d.length = n → d.all isDig = true → 1 ≤ d.length → (d.head? = some 48 → d.length = 1) → Lib.decDigits (dval d) = d := by
  intro n
  induction n with
  | zero => intro d h _ h1 _; omega
  | succ n ih =>
    intro d hl ha h1 hh
    obtain ⟨e, c, rfl⟩ : ∃ e c, d = e ++ [c] := ⟨d.dropLast, d.getLast (by intro k; rw [k] at h1; simp at h1), (List.dropLast_concat_getLast _).symm⟩
    rw [List.all_append, Bool.and_eq_true] at ha
    have hc : isDig c = true := by simpa using ha.2
    rw [isDig_iff] at hc
    rw [dval_snoc]
    have ec : UInt8.ofNat (48 + (c.toNat - 48)) = c := by
      rw [show 48 + (c.toNat - 48) = c.toNat by omega]; simp
    cases e with
    | nil =>
      rw [show dval [] = 0 by rfl, Lib.decDigits, dif_pos (by omega), show 10 * 0 + (c.toNat - 48) = c.toNat - 48 by omega, ec]; rfl
    | cons x r =>
      simp at hl
      have hx : x ≠ 48 := by
        intro k; subst k
        have := hh (by simp)
        simp at this
      have hxd : isDig x = true := by
        have := ha.1; rw [List.all_cons, Bool.and_eq_true] at this; exact this.1
      rw [isDig_iff] at hxd
      have hx2 : x.toNat ≠ 48 := fun k => hx (UInt8.toNat.inj (by simpa using k))
      have hih := ih (x :: r) (by simp; omega) ha.1 (by simp) (fun k => by simp at k; exact absurd k hx)
      have hpos : 1 ≤ dval (x :: r) := by
        by_cases k : 1 ≤ dval (x :: r)
        · exact k
        · exfalso
          have k0 : dval (x :: r) = 0 := by omega
          rw [k0, Lib.decDigits, dif_pos (by omega)] at hih
          have := (List.cons.inj hih).1
          simp at this
          exact hx this.symm
      rw [Lib.decDigits, dif_neg (by omega), show (10 * dval (x :: r) + (c.toNat - 48)) / 10 = dval (x :: r) by omega, hih, show (10 * dval (x :: r) + (c.toNat - 48)) % 10 = c.toNat - 48 by omega, ec]
theorem jnum_itoa (n : Int) (h1 : -1000000000000000000 < n) (h2 : n < 1000000000000000000) : jnum (Lib.itoa n) = some n := by
  have key : ∀ u : Nat, u < 1000000000000000000 → Jd (Lib.decDigits u) := by
    intro u hu
    refine ⟨dec_dig u, (dec_head u).1, dec_len u 18 (by omega) (by omega), fun h => ?_⟩
    have := (dec_head u).2 h
    subst this
    rw [Lib.decDigits, dif_pos (by omega)]; rfl
  unfold Lib.itoa
  split
  · have hj := key n.natAbs (by omega)
    rw [jnum, if_pos rfl, if_pos, dval_dec]
    · congr 1; omega
    · refine ⟨hj, fun e => ?_⟩
      have := (dec_head n.natAbs).2 (by rw [e]; rfl)
      omega
  · have hj := key n.toNat (by omega)
    have hd := dval_dec n.toNat
    match hl : Lib.decDigits n.toNat with
    | [] => rw [hl] at hj; exact absurd hj.2.1 (by simp)
    | c :: d =>
      rw [hl] at hj hd
      have hc : c ≠ 45 := by
        have := hj.1
        rw [List.all_cons, Bool.and_eq_true, isDig_iff] at this
        intro e; subst e
        exact absurd this.1.1 (by decide)
      rw [jnum, if_neg hc, if_pos hj, hd]
      congr 1; omega
theorem dval_18 (d : List UInt8) (h : Jd d) : dval d < 1000000000000000000 := by
  have := dval_lt d h.1
  have h2 : 10 ^ d.length ≤ 10 ^ 18 := Nat.pow_le_pow_right (by omega) h.2.2.1
  omega
theorem itoa_jnum (l : List UInt8) (n : Int) (h : jnum l = some n) : Lib.itoa n = l ∧ -1000000000000000000 < n ∧ n < 1000000000000000000 := by
  match l with
  | [] => cases h
  | c :: d =>
    rw [jnum] at h
    by_cases hc : c = 45
    · rw [if_pos hc] at h
      split at h
      · rename_i hj
        obtain rfl := Option.some.inj h
        have hb := dval_18 d hj.1
        have hd := dec_of_dval _ d rfl hj.1.1 hj.1.2.1 hj.1.2.2.2
        have h0 : dval d ≠ 0 := by
          intro e
          rw [e, Lib.decDigits, dif_pos (by omega)] at hd
          exact hj.2 hd.symm
        refine ⟨?_, by omega, by omega⟩
        unfold Lib.itoa
        rw [if_pos (by omega), show (-(dval d : Int)).natAbs = dval d by omega, hd, hc]
      · cases h
    · rw [if_neg hc] at h
      split at h
      · rename_i hj
        obtain rfl := Option.some.inj h
        have hb := dval_18 _ hj
        have hd := dec_of_dval _ _ rfl hj.1 hj.2.1 hj.2.2.2
        refine ⟨?_, by omega, by omega⟩
        unfold Lib.itoa
        rw [if_neg (by omega), Int.toNat_natCast, hd]
      · cases h
end Go.Proofs.YtdpaiaeaamokeaaDoor.Job
