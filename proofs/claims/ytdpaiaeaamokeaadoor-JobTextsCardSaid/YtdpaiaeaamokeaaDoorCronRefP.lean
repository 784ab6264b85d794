/- The reference's way to read a field is the program's: plain lists of bytes, no program in sight. -/
import Derived.Test.YtdpaiaeaamokeaaDoorCronD
namespace Go.Proofs.YtdpaiaeaamokeaaDoor.Cron
open Go.RowKit Go

/-- One or two digits at the head: the number, and what is left; -1: none. -/
def rnum : List UInt8 → Int × List UInt8
  | [] => (-1, [])
  | [c] => if isDig c then ((c.toNat - 48 : Nat), []) else (-1, [c])
  | c :: d :: r => if isDig c then (if isDig d then ((10 * (c.toNat - 48) + (d.toNat - 48) : Nat), r) else ((c.toNat - 48 : Nat), d :: r)) else (-1, c :: d :: r)
def NoDig (t : List UInt8) : Prop := t = [] ∨ ∃ x r, t = x :: r ∧ isDig x = false
theorem rnum_ok (p t : List UInt8) (ht : NoDig t) (h : pnum p ≠ -1) : rnum (p ++ t) = (pnum p, t) := by
  match p with
  | [] => exact absurd (by simp [pnum]) h
  | [c] =>
    have hc : isDig c = true := by
      cases hc : isDig c with
      | true => rfl
      | false => exact absurd (by simp [pnum, hc]) h
    have e : pnum [c] = ((c.toNat - 48 : Nat) : Int) := by simp [pnum, hc, dval]
    rw [e]
    rcases ht with rfl | ⟨x, r, rfl, hx⟩
    · simp [rnum, hc]
    · simp [rnum, hc, hx]
  | [c, d] =>
    have hc : isDig c = true ∧ isDig d = true := by
      cases hc : isDig c <;> cases hd : isDig d
      · exact absurd (by simp [pnum, hc, hd]) h
      · exact absurd (by simp [pnum, hc, hd]) h
      · exact absurd (by simp [pnum, hc, hd]) h
      · exact ⟨rfl, rfl⟩
    have e : pnum [c, d] = ((10 * (c.toNat - 48) + (d.toNat - 48) : Nat) : Int) := by simp [pnum, hc.1, hc.2, dval]
    rw [e]
    simp [rnum, hc.1, hc.2]
  | c :: d :: x :: r => exact absurd (by simp [pnum]) h
theorem rnum_bad (p t : List UInt8) (ht : NoDig t) (h : pnum p = -1) : (rnum (p ++ t)).1 = -1 ∨ ∃ x, x ∈ p ∧ ∃ r, (rnum (p ++ t)).2 = x :: r := by
  match p with
  | [] =>
    left
    rcases ht with rfl | ⟨x, r, rfl, hx⟩
    · rfl
    · cases r <;> simp [rnum, hx]
  | [c] =>
    cases hc : isDig c with
    | true => exact absurd h (by simp [pnum, hc])
    | false =>
      left
      cases t <;> simp [rnum, hc]
  | [c, d] =>
    cases hc : isDig c with
    | false => left; simp [rnum, hc]
    | true =>
      cases hd : isDig d with
      | true => exact absurd h (by simp [pnum, hc, hd])
      | false => right; exact ⟨d, by simp, t, by simp [rnum, hc, hd]⟩
  | c :: d :: x :: r =>
    cases hc : isDig c with
    | false => left; simp [rnum, hc]
    | true =>
      cases hd : isDig d with
      | true => right; exact ⟨x, by simp, r ++ t, by simp [rnum, hc, hd]⟩
      | false => right; exact ⟨d, by simp, x :: r ++ t, by simp [rnum, hc, hd]⟩
theorem rnum_len (l : List UInt8) : (rnum l).2.length ≤ l.length := by
  match l with
  | [] => simp [rnum]
  | [c] => simp only [rnum]; split <;> simp
  | c :: d :: r =>
    simp only [rnum]
    split
    · split
      · simp; omega
      · simp
    · simp
/-- An item at the head: the numbers, and what is left. -/
def ritem (l : List UInt8) : Int × Int × List UInt8 :=
  match (rnum l).2 with
  | [] => ((rnum l).1, (rnum l).1, [])
  | c :: r => if c = 45 then ((rnum l).1, (rnum r).1, (rnum r).2) else ((rnum l).1, (rnum l).1, c :: r)
theorem cut1_spec (sep : UInt8) : ∀ l : List UInt8, (∀ c ∈ (cut1 sep l).1, c ≠ sep) ∧ ((cut1 sep l).2.2 = true → l = (cut1 sep l).1 ++ sep :: (cut1 sep l).2.1) ∧ ((cut1 sep l).2.2 = false → l = (cut1 sep l).1)
  | [] => by simp [cut1]
  | c :: l => by
    rw [cut1]
    by_cases h : c = sep
    · subst h; simp
    · rw [if_neg h]
      obtain ⟨a, b, d⟩ := cut1_spec sep l
      refine ⟨?_, fun k => ?_, fun k => ?_⟩
      · intro x hx
        simp at hx
        rcases hx with rfl | hx
        · exact h
        · exact a x hx
      · have := b k; simp; exact this
      · have := d k; simp; exact this
/-- The reference's item is the program's. -/
theorem ritem_is (p t : List UInt8) (lo hi : Nat) (hp : ∀ c ∈ p, c ≠ 44) (ht : t = [] ∨ ∃ r, t = 44 :: r) :
    (pitem p lo hi ≠ 0 → (lo : Int) ≤ (ritem (p ++ t)).1 ∧ (ritem (p ++ t)).2.1 ≤ (hi : Int) ∧ (ritem (p ++ t)).1 ≤ (ritem (p ++ t)).2.1 ∧ (ritem (p ++ t)).2.2 = t ∧ pitem p lo hi = spanN (ritem (p ++ t)).1.toNat (ritem (p ++ t)).2.1.toNat) ∧
    (pitem p lo hi = 0 → (ritem (p ++ t)).1 < lo ∨ (hi : Int) < (ritem (p ++ t)).2.1 ∨ (ritem (p ++ t)).2.1 < (ritem (p ++ t)).1 ∨ ∃ x r, (ritem (p ++ t)).2.2 = x :: r ∧ x ≠ 44) := by
  have htn : NoDig t := by
    rcases ht with rfl | ⟨r, rfl⟩
    · exact .inl rfl
    · exact .inr ⟨44, r, rfl, by decide⟩
  have ht45 : ∀ c r, t = c :: r → c ≠ 45 := by
    intro c r e
    rcases ht with rfl | ⟨r', rfl⟩
    · cases e
    · cases e; decide
  obtain ⟨s1, s2, s3⟩ := cut1_spec 45 p
  unfold pitem
  dsimp only
  generalize hq : cut1 45 p = q at *
  obtain ⟨p1, p2, two⟩ := q
  dsimp only at *
  cases two with
  | false =>
    obtain rfl := s3 rfl
    simp only [Bool.false_eq_true, if_false]
    by_cases hn : pnum p = -1
    · rw [if_pos (by omega)]
      refine ⟨fun h => absurd rfl h, fun _ => ?_⟩
      rcases rnum_bad p t htn hn with h | ⟨x, hx, r, h⟩
      · left
        unfold ritem
        split
        · dsimp only; omega
        · split <;> (dsimp only; omega)
      · right; right; right
        refine ⟨x, r, ?_, hp x hx⟩
        unfold ritem
        rw [h]; dsimp only
        rw [if_neg (s1 x hx)]
    · have e : ritem (p ++ t) = (pnum p, pnum p, t) := by
        unfold ritem
        rw [rnum_ok p t htn hn]
        cases t with
        | nil => rfl
        | cons c r => dsimp only; rw [if_neg (ht45 c r rfl)]
      rw [e]
      dsimp only
      split
      · rename_i h
        exact ⟨fun h => absurd rfl h, fun _ => by omega⟩
      · rename_i h
        refine ⟨fun _ => ⟨by omega, by omega, by omega, rfl, rfl⟩, fun h0 => ?_⟩
        have := span_pos (pnum p).toNat (pnum p).toNat (Nat.le_refl _)
        omega
  | true =>
    have hpe := s2 rfl
    simp only [if_true]
    have h44 : ∀ c ∈ p2, c ≠ 44 := fun c hc => hp c (by rw [hpe]; simp [hc])
    have h1n : NoDig (45 :: (p2 ++ t)) := .inr ⟨45, p2 ++ t, rfl, by decide⟩
    have he : p ++ t = p1 ++ 45 :: (p2 ++ t) := by rw [hpe]; simp
    rw [he]
    by_cases hn : pnum p1 = -1
    · rw [if_pos (by omega)]
      refine ⟨fun h => absurd rfl h, fun _ => ?_⟩
      rcases rnum_bad p1 _ h1n hn with h | ⟨x, hx, r, h⟩
      · left
        unfold ritem
        split
        · dsimp only; omega
        · split <;> (dsimp only; omega)
      · right; right; right
        refine ⟨x, r, ?_, hp x (by rw [hpe]; simp [hx])⟩
        unfold ritem
        rw [h]; dsimp only
        rw [if_neg (s1 x hx)]
    · have e : ritem (p1 ++ 45 :: (p2 ++ t)) = (pnum p1, (rnum (p2 ++ t)).1, (rnum (p2 ++ t)).2) := by
        unfold ritem
        rw [rnum_ok p1 _ h1n hn]
        dsimp only
        rw [if_pos rfl]
      rw [e]
      dsimp only
      have hp1 := pnum_range p1
      by_cases hm : pnum p2 = -1
      · rw [if_pos (by omega)]
        refine ⟨fun h => absurd rfl h, fun _ => ?_⟩
        rcases rnum_bad p2 t htn hm with h | ⟨x, hx, r, h⟩
        · right; right; left; omega
        · right; right; right
          exact ⟨x, r, h, h44 x hx⟩
      · rw [rnum_ok p2 t htn hm]
        dsimp only
        split
        · rename_i h
          exact ⟨fun h => absurd rfl h, fun _ => by omega⟩
        · rename_i h
          refine ⟨fun _ => ⟨by omega, by omega, by omega, rfl, rfl⟩, fun h0 => ?_⟩
          have := span_pos (pnum p1).toNat (pnum p2).toNat (by omega)
          omega
/-- The reference's field from a place on. -/
def rfld (lo hi : Nat) : Nat → List UInt8 → Nat → Option Nat
  | 0, _, _ => none
  | f + 1, l, x =>
    if (ritem l).1 < lo ∨ (hi : Int) < (ritem l).2.1 ∨ (ritem l).2.1 < (ritem l).1 then none
    else match (ritem l).2.2 with
      | [] => some (x ||| spanN (ritem l).1.toNat (ritem l).2.1.toNat)
      | c :: r => if c = 44 then rfld lo hi f r (x ||| spanN (ritem l).1.toNat (ritem l).2.1.toNat) else none
theorem pieces_cut (sep : UInt8) : ∀ l : List UInt8, pieces sep l = if (cut1 sep l).2.2 then (cut1 sep l).1 :: pieces sep (cut1 sep l).2.1 else [(cut1 sep l).1]
  | [] => by simp [cut1, pieces]
  | c :: l => by
    rw [cut1, pieces]
    by_cases h : c = sep
    · rw [if_pos h, if_pos h]; simp
    · rw [if_neg h, if_neg h, pieces_cut sep l]
      dsimp only
      cases (cut1 sep l).2.2 <;> rfl
theorem cut1_len (sep : UInt8) (l : List UInt8) (h : (cut1 sep l).2.2 = true) : (cut1 sep l).2.1.length < l.length := by
  have := (cut1_spec sep l).2.1 h
  have h2 := congrArg List.length this
  simp at h2
  omega
theorem pitems_zero (lo hi : Nat) : ∀ (ps : List (List UInt8)) (acc : Nat), ps ≠ [] → pitems lo hi ps acc = 0 ∨ (pitems lo hi ps acc ≠ 0 ∧ ∀ p ∈ ps, pitem p lo hi ≠ 0)
  | [], _, h => absurd rfl h
  | p :: ps, acc, _ => by
    rw [pitems]
    by_cases hp : pitem p lo hi = 0
    · rw [if_pos hp]; exact .inl rfl
    · rw [if_neg hp]
      cases ps with
      | nil =>
        right
        rw [pitems]
        refine ⟨fun h => hp ?_, by simpa using hp⟩
        have := Nat.or_eq_zero_iff.1 h; exact this.2
      | cons q qs =>
        rcases pitems_zero lo hi (q :: qs) (acc ||| pitem p lo hi) (by simp) with h | ⟨h, k⟩
        · exact .inl h
        · refine .inr ⟨h, fun x hx => ?_⟩
          rcases List.mem_cons.1 hx with rfl | hx
          · exact hp
          · exact k x hx
theorem rfld_is (lo hi : Nat) : ∀ (f : Nat) (l : List UInt8) (x : Nat), l.length < f → rfld lo hi f l x = if pitems lo hi (pieces 44 l) x = 0 then none else some (pitems lo hi (pieces 44 l) x)
  | 0, l, x, h => by omega
  | f + 1, l, x, h => by
    obtain ⟨s1, s2, s3⟩ := cut1_spec 44 l
    have hlen := cut1_len 44 l
    rw [pieces_cut, rfld]
    generalize hq : cut1 44 l = q at *
    obtain ⟨p, r, two⟩ := q
    dsimp only at *
    cases two with
    | false =>
      obtain rfl := s3 rfl
      obtain ⟨g1, g2⟩ := ritem_is l [] lo hi s1 (.inl rfl)
      rw [List.append_nil] at g1 g2
      simp only [Bool.false_eq_true, if_false, pitems]
      by_cases hz : pitem l lo hi = 0
      · rw [if_pos hz, if_pos rfl]
        by_cases hc : (ritem l).1 < lo ∨ (hi : Int) < (ritem l).2.1 ∨ (ritem l).2.1 < (ritem l).1
        · rw [if_pos hc]
        · rw [if_neg hc]
          rcases g2 hz with k | k | k | ⟨y, r', k, k2⟩
          · exact absurd (.inl k) hc
          · exact absurd (.inr (.inl k)) hc
          · exact absurd (.inr (.inr k)) hc
          · rw [k]; dsimp only; rw [if_neg k2]
      · obtain ⟨a1, a2, a3, a4, a5⟩ := g1 hz
        rw [if_neg hz, if_neg (by omega), a4]
        dsimp only
        rw [← a5, if_neg]
        intro h0
        exact hz (Nat.or_eq_zero_iff.1 h0).2
    | true =>
      have hl := s2 rfl
      obtain ⟨g1, g2⟩ := ritem_is p (44 :: r) lo hi s1 (.inr ⟨r, rfl⟩)
      rw [← hl] at g1 g2
      simp only [if_true, pitems]
      by_cases hz : pitem p lo hi = 0
      · rw [if_pos hz, if_pos rfl]
        by_cases hc : (ritem l).1 < lo ∨ (hi : Int) < (ritem l).2.1 ∨ (ritem l).2.1 < (ritem l).1
        · rw [if_pos hc]
        · rw [if_neg hc]
          rcases g2 hz with k | k | k | ⟨y, r', k, k2⟩
          · exact absurd (.inl k) hc
          · exact absurd (.inr (.inl k)) hc
          · exact absurd (.inr (.inr k)) hc
          · rw [k]; dsimp only; rw [if_neg k2]
      · obtain ⟨a1, a2, a3, a4, a5⟩ := g1 hz
        rw [if_neg hz, if_neg (by omega), a4]
        dsimp only
        rw [if_pos rfl, ← a5]
        exact rfld_is lo hi f r _ (by have := hlen rfl; omega)
/-- The reference's field. -/
theorem pfield_ref (l : List UInt8) (lo hi : Nat) (h : l ≠ [42]) : rfld lo hi (l.length + 1) l 0 = if pfield l lo hi = 0 then none else some (pfield l lo hi) := by
  rw [rfld_is lo hi _ l 0 (by omega), pfield, if_neg h]
end Go.Proofs.YtdpaiaeaamokeaaDoor.Cron
