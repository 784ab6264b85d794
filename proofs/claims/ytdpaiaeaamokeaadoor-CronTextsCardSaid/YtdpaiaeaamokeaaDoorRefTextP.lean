/- The reference's ways to read and to write an expression, step by step: plain lists of bytes, no program in sight. -/
import Derived.Test.YtdpaiaeaamokeaaDoorCronRefP
import Derived.Test.YtdpaiaeaamokeaaDoorCronBack
namespace Go.Proofs.YtdpaiaeaamokeaaDoor.Cron
open Go.RowKit Go

/-! ### Numbers -/
theorem rnum_no (c : UInt8) (r : List UInt8) (h : isDig c = false) : rnum (c :: r) = (-1, c :: r) := by
  cases r with
  | nil => simp [rnum, h]
  | cons d r => simp [rnum, h]
theorem rnum_one (c : UInt8) (r : List UInt8) (h : isDig c = true) (hr : NoDig r) : rnum (c :: r) = (((c.toNat - 48 : Nat) : Int), r) := by
  rcases hr with rfl | ⟨d, r, rfl, hd⟩
  · simp [rnum, h]
  · simp [rnum, h, hd]
theorem rnum_two (c d : UInt8) (r : List UInt8) (h : isDig c = true) (hd : isDig d = true) : rnum (c :: d :: r) = (((10 * (c.toNat - 48) + (d.toNat - 48) : Nat) : Int), r) := by simp [rnum, h, hd]
theorem drop_one (s : ByteArray) (k : Nat) (h : k < s.size) : s.data.toList.drop k = s[k] :: s.data.toList.drop (k + 1) := by
  rw [List.drop_eq_getElem_cons (by rw [Array.length_toList]; exact h)]; rfl
theorem drop_end (s : ByteArray) (k : Nat) (h : s.size ≤ k) : s.data.toList.drop k = [] := List.drop_of_length_le (by rw [Array.length_toList]; exact h)
theorem drop_nil (s : ByteArray) (k : Nat) (h : s.data.toList.drop k = []) : s.size ≤ k := by
  have := congrArg List.length h
  rw [List.length_drop, Array.length_toList] at this
  simp at this; omega
/-- A number at a place: it, and where it ends. -/
def NumAt (s : ByteArray) (at0 k : Nat) (n : Int) : Prop := (rnum (s.data.toList.drop at0)).1 = n ∧ s.data.toList.drop k = (rnum (s.data.toList.drop at0)).2
theorem numAt_none (s : ByteArray) (a : Nat) (h : s.size ≤ a ∨ ∃ (h : a < s.size), isDig s[a] = false) : NumAt s a a (-1) := by
  unfold NumAt
  rcases h with h | ⟨h, hd⟩
  · rw [drop_end s a h]; exact ⟨rfl, rfl⟩
  · rw [drop_one s a h, rnum_no _ _ hd]; exact ⟨rfl, rfl⟩
theorem numAt_one (s : ByteArray) (a : Nat) (h : a < s.size) (hd : isDig s[a] = true) (h2 : s.size ≤ a + 1 ∨ ∃ (h : a + 1 < s.size), isDig s[a + 1] = false) : NumAt s a (a + 1) ((s[a].toNat : Int) - 48) := by
  unfold NumAt
  have hc := (isDig_iff _).1 hd
  rw [drop_one s a h, rnum_one _ _ hd (by
    rcases h2 with h2 | ⟨h2, hd2⟩
    · exact .inl (drop_end s _ h2)
    · exact .inr ⟨_, _, drop_one s _ h2, hd2⟩)]
  exact ⟨by show ((s[a].toNat - 48 : Nat) : Int) = _; omega, rfl⟩
theorem numAt_two (s : ByteArray) (a : Nat) (h : a < s.size) (hd : isDig s[a] = true) (h2 : a + 1 < s.size) (hd2 : isDig s[a + 1] = true) : NumAt s a (a + 2) (10 * ((s[a].toNat : Int) - 48) + ((s[a + 1].toNat : Int) - 48)) := by
  unfold NumAt
  have hc := (isDig_iff _).1 hd
  have hc2 := (isDig_iff _).1 hd2
  rw [drop_one s a h, drop_one s (a + 1) h2, rnum_two _ _ _ hd hd2]
  exact ⟨by show ((10 * (s[a].toNat - 48) + (s[a + 1].toNat - 48) : Nat) : Int) = _; omega, rfl⟩
theorem numAt_range (s : ByteArray) (a k : Nat) (n : Int) (h : NumAt s a k n) : -1 ≤ n ∧ n ≤ 99 := by
  have key : ∀ l : List UInt8, -1 ≤ (rnum l).1 ∧ (rnum l).1 ≤ 99 := by
    intro l
    match l with
    | [] => simp [rnum]
    | [c] =>
      simp only [rnum]
      split
      · rename_i h; have := (isDig_iff c).1 h; dsimp only; omega
      · dsimp only; omega
    | c :: d :: r =>
      simp only [rnum]
      split
      · rename_i h; have := (isDig_iff c).1 h
        split
        · rename_i h2; have := (isDig_iff d).1 h2; dsimp only; omega
        · dsimp only; omega
      · dsimp only; omega
  rw [← h.1]; exact key _

/-! ### Sets, item by item -/
theorem span_more (a i : Nat) (h : a ≤ i) (hi : i ≤ 62) : (2 ^ i - 2 ^ a) ||| 2 ^ i = 2 ^ (i + 1) - 2 ^ a := by
  have key : ∀ i : Nat, i < 63 → ∀ a : Nat, a < 63 → a ≤ i → (2 ^ i - 2 ^ a) ||| 2 ^ i = 2 ^ (i + 1) - 2 ^ a := by decide +kernel
  exact key i (by omega) a (by omega) h
/-- A field from a place on. -/
def rat (lo hi : Nat) (l : List UInt8) (x : Nat) : Option Nat := rfld lo hi (l.length + 1) l x
theorem ritem_one (l t : List UInt8) (n : Int) (h1 : (rnum l).1 = n) (h2 : t = (rnum l).2) (h3 : t.head? ≠ some 45) : ritem l = (n, n, t) := by
  unfold ritem
  rw [← h2, h1]
  cases t with
  | nil => rfl
  | cons c r => dsimp only; rw [if_neg (by simpa using h3)]
theorem ritem_two (l t r : List UInt8) (n m : Int) (h1 : (rnum l).1 = n) (h2 : 45 :: t = (rnum l).2) (h3 : (rnum t).1 = m) (h4 : r = (rnum t).2) : ritem l = (n, m, r) := by
  unfold ritem
  rw [← h2, h1]
  dsimp only
  rw [if_pos rfl, h3, h4]
theorem rat_bad (lo hi : Nat) (l : List UInt8) (x : Nat) (a b : Int) (t : List UInt8) (h : ritem l = (a, b, t)) (hb : a < lo ∨ (hi : Int) < b ∨ b < a) : rat lo hi l x = none := by
  unfold rat
  rw [rfld, h, if_pos hb]
theorem rat_end (lo hi : Nat) (l : List UInt8) (x : Nat) (a b : Int) (h : ritem l = (a, b, [])) (hb : ¬ (a < lo ∨ (hi : Int) < b ∨ b < a)) : rat lo hi l x = some (x ||| spanN a.toNat b.toNat) := by
  unfold rat
  rw [rfld, h, if_neg hb]
theorem rat_other (lo hi : Nat) (l : List UInt8) (x : Nat) (a b : Int) (c : UInt8) (r : List UInt8) (h : ritem l = (a, b, c :: r)) (hb : ¬ (a < lo ∨ (hi : Int) < b ∨ b < a)) (hc : c ≠ 44) : rat lo hi l x = none := by
  unfold rat
  rw [rfld, h, if_neg hb]
  dsimp only
  rw [if_neg hc]
theorem ritem_len (l : List UInt8) : (ritem l).2.2.length ≤ l.length := by
  have h1 := rnum_len l
  unfold ritem
  split
  · simp
  · rename_i c r hc
    rw [hc] at h1
    split
    · have := rnum_len r; simp at h1 ⊢; omega
    · exact h1
theorem rat_more (lo hi : Nat) (l : List UInt8) (x : Nat) (a b : Int) (r : List UInt8) (h : ritem l = (a, b, 44 :: r)) (hb : ¬ (a < lo ∨ (hi : Int) < b ∨ b < a)) : rat lo hi l x = rat lo hi r (x ||| spanN a.toNat b.toNat) := by
  have hl := ritem_len l
  rw [h] at hl
  simp at hl
  unfold rat
  rw [rfld, h, if_neg hb]
  dsimp only
  rw [if_pos rfl, rfld_is lo hi _ r _ (by omega), rfld_is lo hi _ r _ (by omega)]
/-- A field as the reference reads it. -/
theorem rat_field (l : List UInt8) (lo hi : Nat) (h : l ≠ [42]) : rat lo hi l 0 = if pfield l lo hi = 0 then none else some (pfield l lo hi) := pfield_ref l lo hi h

/-! ### Fields between blanks, byte by byte -/
theorem fold_take (s : ByteArray) (k : Nat) (h : k < s.size) : fold (s.data.toList.take (k + 1)) = fstep (fold (s.data.toList.take k)) s[k] := by
  have : s.data.toList.take (k + 1) = s.data.toList.take k ++ [s[k]] := by
    rw [List.take_succ_eq_append_getElem (by rw [Array.length_toList]; exact h)]; rfl
  unfold fold
  rw [this, List.foldl_append]; rfl
theorem ext_more (s : ByteArray) (a k : Nat) (h : a ≤ k) (hk : k < s.size) : (s.extract a (k + 1)).data.toList = (s.extract a k).data.toList ++ [s[k]] := by
  rw [Lib.extract_data, Lib.extract_data, show k + 1 - a = (k - a) + 1 by omega, List.take_succ_eq_append_getElem (by rw [List.length_drop, Array.length_toList]; show k - a < s.size - a; omega)]
  congr 1
  rw [List.getElem_drop]
  have e : a + (k - a) = k := by omega
  have key : ∀ j (hj : j < s.data.toList.length), j = k → [s.data.toList[j]] = [s[k]] := by
    intro j hj e; subst e; rfl
  exact key _ _ e
theorem ext_one (s : ByteArray) (k : Nat) (hk : k < s.size) : (s.extract k (k + 1)).data.toList = [s[k]] := by
  rw [ext_more s k k (Nat.le_refl _) hk, Lib.extract_data, Nat.sub_self]; simp
theorem fld_blank (s : ByteArray) (k : Nat) (h : k < s.size) (hb : isBlank s[k] = true) (bs : List (List UInt8)) (i : Bool) (hf : fold (s.data.toList.take k) = (bs, i)) : fold (s.data.toList.take (k + 1)) = (bs, false) := by
  rw [fold_take s k h, hf, fstep, if_pos hb]
theorem fld_new (s : ByteArray) (k : Nat) (h : k < s.size) (hb : isBlank s[k] = false) (bs : List (List UInt8)) (hf : fold (s.data.toList.take k) = (bs, false)) : fold (s.data.toList.take (k + 1)) = (bs ++ [(s.extract k (k + 1)).data.toList], true) := by
  rw [fold_take s k h, hf, fstep, hb, ext_one s k h]; rfl
theorem fld_more (s : ByteArray) (a k : Nat) (h : k < s.size) (ha : a ≤ k) (hb : isBlank s[k] = false) (bs : List (List UInt8)) (hf : fold (s.data.toList.take k) = (bs ++ [(s.extract a k).data.toList], true)) : fold (s.data.toList.take (k + 1)) = (bs ++ [(s.extract a (k + 1)).data.toList], true) := by
  rw [fold_take s k h, hf, fstep, hb, ext_more s a k ha h]; simp

/-! ### Runs, joined -/
theorem join_snoc (sep : List UInt8) : ∀ (a : List (List UInt8)) (x : List UInt8), a ≠ [] → Lib.join (a ++ [x]) sep = Lib.join a sep ++ sep ++ x
  | [], _, h => absurd rfl h
  | [p], x, _ => by simp [Lib.join]
  | p :: q :: a, x, _ => by
    have := join_snoc sep (q :: a) x (by simp)
    rw [List.cons_append, List.cons_append, join_cons2, ← List.cons_append, this, join_cons2]
    simp
/-- So much of a field's text is there: the runs that are written, those that are left. -/
def RunsTo (b lo hi i : Nat) (T : List UInt8) : Prop := ∃ ds : List (List UInt8), ds ++ rRuns b hi i = rRuns b hi lo ∧ T = Lib.join ds [44] ∧ (T = [] ↔ ds = [])
theorem runsTo_start (b lo hi : Nat) : RunsTo b lo hi lo [] := ⟨[], rfl, rfl, by simp⟩
theorem runsTo_no (b lo hi i : Nat) (T : List UInt8) (h : RunsTo b lo hi i T) (hi' : i ≤ hi) (hb : b.testBit i = false) : RunsTo b lo hi (i + 1) T := by
  obtain ⟨ds, h1, h2⟩ := h
  exact ⟨ds, by rw [← rRuns_no b hi i hi' hb]; exact h1, h2⟩
theorem runsTo_yes (b lo hi i E : Nat) (T : List UInt8) (h : RunsTo b lo hi i T) (hi' : i ≤ hi) (hb : b.testBit i = true) (hE : rEnd b hi i = E) : RunsTo b lo hi (E + 1) ((if T = [] then [] else T ++ [44]) ++ runTxt i E) := by
  obtain ⟨ds, h1, h2, h3⟩ := h
  refine ⟨ds ++ [runTxt i E], ?_, ?_, ?_⟩
  · rw [← h1, rRuns_yes b hi i hi' hb, hE]; simp
  · by_cases hT : T = []
    · rw [if_pos hT, h3.1 hT]; simp [Lib.join]
    · rw [if_neg hT, join_snoc _ _ _ (fun k => hT (h3.2 k)), h2]
  · have := runTxt_pos i E
    simp [this]
theorem runsTo_end (b lo hi i : Nat) (T : List UInt8) (h : RunsTo b lo hi i T) (hi' : hi < i) : T = toldL b lo hi := by
  obtain ⟨ds, h1, h2, -⟩ := h
  rw [rRuns_end b hi i hi', List.append_nil] at h1
  rw [h2, h1]; rfl
theorem runsTo_len (b lo hi i : Nat) (T : List UInt8) (h : RunsTo b lo hi i T) (hh : hi ≤ 62) : T.length ≤ 400 := by
  obtain ⟨ds, h1, h2, -⟩ := h
  have hl := rRuns_len b hi lo
  have h3 := join_len [44] 5 ds (fun x hx => (hl.2 x (by rw [← h1]; simp [hx])).1)
  have h4 := congrArg List.length h1
  simp at h3 h4
  rw [h2]
  omega
end Go.Proofs.YtdpaiaeaamokeaaDoor.Cron
