/- Joined: RefTextP, RefFieldC, RefFldC, RefFields, RefParse. -/
import Derived.OwnWalk
import Derived.Test.YtdpaiaeaamokeaaDoorCronRefP
import Derived.Test.YtdpaiaeaamokeaaDoorCronD
import Derived.Test.YtdpaiaeaamokeaaDoorCronA
import Derived.Test.YtdpaiaeaamokeaaDoorCronB
import Derived.Test.YtdpaiaeaamokeaaDoorCronF
namespace Go.Proofs.YtdpaiaeaamokeaaDoor.Cron
open Go.RowKit Go

/-! ### Numbers -/
theorem rnum_no (c : UInt8) (r : List UInt8) (h : isDig c = false) : rnum (c :: r) = (-1, c :: r) := by
  cases r with
  | nil => simp [rnum, h]
  | cons d r => simp [rnum, h]
theorem rnum_one (c : UInt8) (r : List UInt8) (h : isDig c = true) (hr : NoDig r) : rnum (c :: r) = (((c.toNat - 48 : Nat) : Int), r) := by
  rcases hr with rfl | ⟨d, r, rfl, hd⟩
  · simp [rnum, h]
  · simp [rnum, h, hd]
theorem rnum_two (c d : UInt8) (r : List UInt8) (h : isDig c = true) (hd : isDig d = true) : rnum (c :: d :: r) = (((10 * (c.toNat - 48) + (d.toNat - 48) : Nat) : Int), r) := by simp [rnum, h, hd]
theorem drop_one (s : ByteArray) (k : Nat) (h : k < s.size) : s.data.toList.drop k = s[k] :: s.data.toList.drop (k + 1) := by
  rw [List.drop_eq_getElem_cons (by rw [Array.length_toList]; exact h)]; rfl
theorem drop_end (s : ByteArray) (k : Nat) (h : s.size ≤ k) : s.data.toList.drop k = [] := List.drop_of_length_le (by rw [Array.length_toList]; exact h)
theorem drop_nil (s : ByteArray) (k : Nat) (h : s.data.toList.drop k = []) : s.size ≤ k := by
  have := congrArg List.length h
  rw [List.length_drop, Array.length_toList] at this
  simp at this; omega
/-- A number at a place: it, and where it ends. -/
def NumAt (s : ByteArray) (at0 k : Nat) (n : Int) : Prop := (rnum (s.data.toList.drop at0)).1 = n ∧ s.data.toList.drop k = (rnum (s.data.toList.drop at0)).2
theorem numAt_none (s : ByteArray) (a : Nat) (h : s.size ≤ a ∨ ∃ (h : a < s.size), isDig s[a] = false) : NumAt s a a (-1) := by
  unfold NumAt
  rcases h with h | ⟨h, hd⟩
  · rw [drop_end s a h]; exact ⟨rfl, rfl⟩
  · rw [drop_one s a h, rnum_no _ _ hd]; exact ⟨rfl, rfl⟩
theorem numAt_one (s : ByteArray) (a : Nat) (h : a < s.size) (hd : isDig s[a] = true) (h2 : s.size ≤ a + 1 ∨ ∃ (h : a + 1 < s.size), isDig s[a + 1] = false) : NumAt s a (a + 1) ((s[a].toNat : Int) - 48) := by
  unfold NumAt
  have hc := (isDig_iff _).1 hd
  rw [drop_one s a h, rnum_one _ _ hd (by
    rcases h2 with h2 | ⟨h2, hd2⟩
    · exact .inl (drop_end s _ h2)
    · exact .inr ⟨_, _, drop_one s _ h2, hd2⟩)]
  exact ⟨by show ((s[a].toNat - 48 : Nat) : Int) = _; omega, rfl⟩
theorem numAt_two (s : ByteArray) (a : Nat) (h : a < s.size) (hd : isDig s[a] = true) (h2 : a + 1 < s.size) (hd2 : isDig s[a + 1] = true) : NumAt s a (a + 2) (10 * ((s[a].toNat : Int) - 48) + ((s[a + 1].toNat : Int) - 48)) := by
  unfold NumAt
  have hc := (isDig_iff _).1 hd
  have hc2 := (isDig_iff _).1 hd2
  rw [drop_one s a h, drop_one s (a + 1) h2, rnum_two _ _ _ hd hd2]
  exact ⟨by show ((10 * (s[a].toNat - 48) + (s[a + 1].toNat - 48) : Nat) : Int) = _; omega, rfl⟩
theorem numAt_range (s : ByteArray) (a k : Nat) (n : Int) (h : NumAt s a k n) : -1 ≤ n ∧ n ≤ 99 := by
  have key : ∀ l : List UInt8, -1 ≤ (rnum l).1 ∧ (rnum l).1 ≤ 99 := by
    intro l
    match l with
    | [] => simp [rnum]
    | [c] =>
      simp only [rnum]
      split
      · rename_i h; have := (isDig_iff c).1 h; dsimp only; omega
      · dsimp only; omega
    | c :: d :: r =>
      simp only [rnum]
      split
      · rename_i h; have := (isDig_iff c).1 h
        split
        · rename_i h2; have := (isDig_iff d).1 h2; dsimp only; omega
        · dsimp only; omega
      · dsimp only; omega
  rw [← h.1]; exact key _

/-! ### Sets, item by item -/
theorem span_more (a i : Nat) (h : a ≤ i) (hi : i ≤ 62) : (2 ^ i - 2 ^ a) ||| 2 ^ i = 2 ^ (i + 1) - 2 ^ a := by
  have key : ∀ i : Nat, i < 63 → ∀ a : Nat, a < 63 → a ≤ i → (2 ^ i - 2 ^ a) ||| 2 ^ i = 2 ^ (i + 1) - 2 ^ a := by decide +kernel
  exact key i (by omega) a (by omega) h
/-- A field from a place on. -/
def rat (lo hi : Nat) (l : List UInt8) (x : Nat) : Option Nat := rfld lo hi (l.length + 1) l x
theorem ritem_one (l t : List UInt8) (n : Int) (h1 : (rnum l).1 = n) (h2 : t = (rnum l).2) (h3 : t.head? ≠ some 45) : ritem l = (n, n, t) := by
  unfold ritem
  rw [← h2, h1]
  cases t with
  | nil => rfl
  | cons c r => dsimp only; rw [if_neg (by simpa using h3)]
theorem ritem_two (l t r : List UInt8) (n m : Int) (h1 : (rnum l).1 = n) (h2 : 45 :: t = (rnum l).2) (h3 : (rnum t).1 = m) (h4 : r = (rnum t).2) : ritem l = (n, m, r) := by
  unfold ritem
  rw [← h2, h1]
  dsimp only
  rw [if_pos rfl, h3, h4]
theorem rat_bad (lo hi : Nat) (l : List UInt8) (x : Nat) (a b : Int) (t : List UInt8) (h : ritem l = (a, b, t)) (hb : a < lo ∨ (hi : Int) < b ∨ b < a) : rat lo hi l x = none := by
  unfold rat
  rw [rfld, h, if_pos hb]
theorem rat_end (lo hi : Nat) (l : List UInt8) (x : Nat) (a b : Int) (h : ritem l = (a, b, [])) (hb : ¬ (a < lo ∨ (hi : Int) < b ∨ b < a)) : rat lo hi l x = some (x ||| spanN a.toNat b.toNat) := by
  unfold rat
  rw [rfld, h, if_neg hb]
theorem rat_other (lo hi : Nat) (l : List UInt8) (x : Nat) (a b : Int) (c : UInt8) (r : List UInt8) (h : ritem l = (a, b, c :: r)) (hb : ¬ (a < lo ∨ (hi : Int) < b ∨ b < a)) (hc : c ≠ 44) : rat lo hi l x = none := by
  unfold rat
  rw [rfld, h, if_neg hb]
  dsimp only
  rw [if_neg hc]
theorem ritem_len (l : List UInt8) : (ritem l).2.2.length ≤ l.length := by
  have h1 := rnum_len l
  unfold ritem
  split
  · simp
  · rename_i c r hc
    rw [hc] at h1
    split
    · have := rnum_len r; simp at h1 ⊢; omega
    · exact h1
theorem rat_more (lo hi : Nat) (l : List UInt8) (x : Nat) (a b : Int) (r : List UInt8) (h : ritem l = (a, b, 44 :: r)) (hb : ¬ (a < lo ∨ (hi : Int) < b ∨ b < a)) : rat lo hi l x = rat lo hi r (x ||| spanN a.toNat b.toNat) := by
  have hl := ritem_len l
  rw [h] at hl
  simp at hl
  unfold rat
  rw [rfld, h, if_neg hb]
  dsimp only
  rw [if_pos rfl, rfld_is lo hi _ r _ (by omega), rfld_is lo hi _ r _ (by omega)]
/-- A field as the reference reads it. -/
theorem rat_field (l : List UInt8) (lo hi : Nat) (h : l ≠ [42]) : rat lo hi l 0 = if pfield l lo hi = 0 then none else some (pfield l lo hi) := pfield_ref l lo hi h

/-! ### Fields between blanks, byte by byte -/
theorem fold_take (s : ByteArray) (k : Nat) (h : k < s.size) : fold (s.data.toList.take (k + 1)) = fstep (fold (s.data.toList.take k)) s[k] := by
  have : s.data.toList.take (k + 1) = s.data.toList.take k ++ [s[k]] := by
    rw [List.take_succ_eq_append_getElem (by rw [Array.length_toList]; exact h)]; rfl
  unfold fold
  rw [this, List.foldl_append]; rfl
theorem ext_more (s : ByteArray) (a k : Nat) (h : a ≤ k) (hk : k < s.size) : (s.extract a (k + 1)).data.toList = (s.extract a k).data.toList ++ [s[k]] := by
  rw [Lib.extract_data, Lib.extract_data, show k + 1 - a = (k - a) + 1 by omega, List.take_succ_eq_append_getElem (by rw [List.length_drop, Array.length_toList]; show k - a < s.size - a; omega)]
  congr 1
  rw [List.getElem_drop]
  have e : a + (k - a) = k := by omega
  have key : ∀ j (hj : j < s.data.toList.length), j = k → [s.data.toList[j]] = [s[k]] := by
    intro j hj e; subst e; rfl
  exact key _ _ e
theorem ext_one (s : ByteArray) (k : Nat) (hk : k < s.size) : (s.extract k (k + 1)).data.toList = [s[k]] := by
  rw [ext_more s k k (Nat.le_refl _) hk, Lib.extract_data, Nat.sub_self]; simp
theorem fld_blank (s : ByteArray) (k : Nat) (h : k < s.size) (hb : isBlank s[k] = true) (bs : List (List UInt8)) (i : Bool) (hf : fold (s.data.toList.take k) = (bs, i)) : fold (s.data.toList.take (k + 1)) = (bs, false) := by
  rw [fold_take s k h, hf, fstep, if_pos hb]
theorem fld_new (s : ByteArray) (k : Nat) (h : k < s.size) (hb : isBlank s[k] = false) (bs : List (List UInt8)) (hf : fold (s.data.toList.take k) = (bs, false)) : fold (s.data.toList.take (k + 1)) = (bs ++ [(s.extract k (k + 1)).data.toList], true) := by
  rw [fold_take s k h, hf, fstep, hb, ext_one s k h]; rfl
theorem fld_more (s : ByteArray) (a k : Nat) (h : k < s.size) (ha : a ≤ k) (hb : isBlank s[k] = false) (bs : List (List UInt8)) (hf : fold (s.data.toList.take k) = (bs ++ [(s.extract a k).data.toList], true)) : fold (s.data.toList.take (k + 1)) = (bs ++ [(s.extract a (k + 1)).data.toList], true) := by
  rw [fold_take s k h, hf, fstep, hb, ext_more s a k ha h]; simp

/-! ### Runs, joined -/
theorem join_snoc (sep : List UInt8) : ∀ (a : List (List UInt8)) (x : List UInt8), a ≠ [] → Lib.join (a ++ [x]) sep = Lib.join a sep ++ sep ++ x
  | [], _, h => absurd rfl h
  | [p], x, _ => by simp [Lib.join]
  | p :: q :: a, x, _ => by
    have := join_snoc sep (q :: a) x (by simp)
    rw [List.cons_append, List.cons_append, join_cons2, ← List.cons_append, this, join_cons2]
    simp
/-- So much of a field's text is there: the runs that are written, those that are left. -/
def RunsTo (b lo hi i : Nat) (T : List UInt8) : Prop := ∃ ds : List (List UInt8), ds ++ rRuns b hi i = rRuns b hi lo ∧ T = Lib.join ds [44] ∧ (T = [] ↔ ds = [])
theorem runsTo_start (b lo hi : Nat) : RunsTo b lo hi lo [] := ⟨[], rfl, rfl, by simp⟩
theorem runsTo_no (b lo hi i : Nat) (T : List UInt8) (h : RunsTo b lo hi i T) (hi' : i ≤ hi) (hb : b.testBit i = false) : RunsTo b lo hi (i + 1) T := by
  obtain ⟨ds, h1, h2⟩ := h
  exact ⟨ds, by rw [← rRuns_no b hi i hi' hb]; exact h1, h2⟩
theorem runsTo_yes (b lo hi i E : Nat) (T : List UInt8) (h : RunsTo b lo hi i T) (hi' : i ≤ hi) (hb : b.testBit i = true) (hE : rEnd b hi i = E) : RunsTo b lo hi (E + 1) ((if T = [] then [] else T ++ [44]) ++ runTxt i E) := by
  obtain ⟨ds, h1, h2, h3⟩ := h
  refine ⟨ds ++ [runTxt i E], ?_, ?_, ?_⟩
  · rw [← h1, rRuns_yes b hi i hi' hb, hE]; simp
  · by_cases hT : T = []
    · rw [if_pos hT, h3.1 hT]; simp [Lib.join]
    · rw [if_neg hT, join_snoc _ _ _ (fun k => hT (h3.2 k)), h2]
  · have := runTxt_pos i E
    simp [this]
theorem runsTo_end (b lo hi i : Nat) (T : List UInt8) (h : RunsTo b lo hi i T) (hi' : hi < i) : T = toldL b lo hi := by
  obtain ⟨ds, h1, h2, -⟩ := h
  rw [rRuns_end b hi i hi', List.append_nil] at h1
  rw [h2, h1]; rfl
theorem runsTo_len (b lo hi i : Nat) (T : List UInt8) (h : RunsTo b lo hi i T) (hh : hi ≤ 62) : T.length ≤ 400 := by
  obtain ⟨ds, h1, h2, -⟩ := h
  have hl := rRuns_len b hi lo
  have h3 := join_len [44] 5 ds (fun x hx => (hl.2 x (by rw [← h1]; simp [hx])).1)
  have h4 := congrArg List.length h1
  simp at h3 h4
  rw [h2]
  omega
end Go.Proofs.YtdpaiaeaamokeaaDoor.Cron

namespace Go.Proofs.YtdpaiaeaamokeaaDoor.Cron
open Go.RowKit Go

set_option maxHeartbeats 1000000 in
set_option maxRecDepth 100000 in
theorem rnumber6_any (s : ByteArray) (a : Nat) (w : World) (ha : a ≤ s.size) (hs : s.size ≤ 1000000) :
    Calls Tryd.prog 91 #[.string s, .int .i64 a] w fun e w' => (∃ (n : Int) (k : Nat), e = .returned (.tuple #[.int .i64 n, .int .i64 k]) ∧ NumAt s a k n ∧ a ≤ k ∧ k ≤ s.size) ∧ w = w' := by
  go_enter Tryd.func91, Tryd.ntmps91
  go_wp2
  go_loopg [6, 7] 2 (fun gk v kv wr => ∃ (j : Nat) (n : Int), v = .int .i64 n ∧ kv = .int .i64 ((a + j : Nat) : Int) ∧ ((j = 0 ∧ n = 0) ∨ (j = 1 ∧ ∃ h : a < s.size, isDig s[a] = true ∧ n = (s[a].toNat : Int) - 48) ∨ (j = 2 ∧ ∃ (h : a < s.size) (h2 : a + 1 < s.size), isDig s[a] = true ∧ isDig s[a + 1] = true ∧ n = 10 * ((s[a].toNat : Int) - 48) + ((s[a + 1].toNat : Int) - 48))) ∧ gk = 2 - j ∧ wr = w)
  case atStart => exact ⟨0, 0, rfl, rfl, .inl ⟨rfl, rfl⟩, rfl, rfl⟩
  case round =>
    obtain ⟨j, n, rfl, rfl, hj, hgk, rfl⟩ := hrel
    have HG := Lib.hid hgk
    clear hgk
    rcases hj with ⟨rfl, rfl⟩ | ⟨rfl, h, hd, rfl⟩ | ⟨rfl, h, h2, hd, hd2, rfl⟩
    · by_cases hlt : a < s.size
      · have h1 : ((a + 0 : Nat) : Int) < (s.size : Int) := by omega
        by_cases hd : isDig s[a] = true
        · have hc := (isDig_iff _).1 hd
          have h2 : 48 ≤ (s[a].toNat : Int) := by omega
          have h3 : (s[a].toNat : Int) ≤ 57 := by omega
          have HD := Lib.hid hd
          clear hd
          go_wp2
          go_roundg (2 - 1)
          case measure => have := HG.out; omega
          case rel => exact ⟨1, _, rfl, by congr 1, .inr (.inl ⟨rfl, hlt, HD.out, by omega⟩), rfl, rfl⟩
        · have hb : isDig s[a] = false := by simpa using hd
          have HN := Lib.hid (numAt_none s a (.inr ⟨hlt, hb⟩))
          have hq : (s[a]).toNat < 48 ∨ 57 < (s[a]).toNat := by
            have := isDig_iff s[a]; rw [hb] at this; simp at this; omega
          have e1 : ((a : Int) == (a : Int)) = true := by simp
          clear hb hd
          rcases hq with hq | hq
          · have hc0 : ¬ (48 : Int) ≤ (s[a].toNat : Int) := by omega
            go_wp2
            go_ret2
            exact ⟨⟨-1, a, rfl, HN.out, Nat.le_refl _, ha⟩, rfl⟩
          · have hc0 : (48 : Int) ≤ (s[a].toNat : Int) := by omega
            have hc1 : ¬ (s[a].toNat : Int) ≤ 57 := by omega
            go_wp2
            go_ret2
            exact ⟨⟨-1, a, rfl, HN.out, Nat.le_refl _, ha⟩, rfl⟩
      · have h1 : ¬ ((a + 0 : Nat) : Int) < (s.size : Int) := by omega
        have HN := Lib.hid (numAt_none s a (.inl (by omega)))
        have e1 : ((a : Int) == (a : Int)) = true := by simp
        go_wp2
        go_ret2
        exact ⟨⟨-1, a, rfl, HN.out, Nat.le_refl _, ha⟩, rfl⟩
    · have HD := Lib.hid hd
      have hc := (isDig_iff _).1 hd
      have g1 : 48 ≤ (s[a].toNat : Int) := by omega
      have g2 : (s[a].toNat : Int) ≤ 57 := by omega
      have e1 : (((a + 1 : Nat) : Int) == (a : Int)) = false := by simp only [beq_eq_false_iff_ne]; omega
      have e2 : ((a : Int) + 1 == (a : Int)) = false := by simp only [beq_eq_false_iff_ne]; omega
      clear hd
      by_cases hlt : a + 1 < s.size
      · by_cases hd2 : isDig s[a + 1] = true
        · have hc2 := (isDig_iff _).1 hd2
          have h2 : 48 ≤ (s[a + 1].toNat : Int) := by omega
          have h3 : (s[a + 1].toNat : Int) ≤ 57 := by omega
          have HD2 := Lib.hid hd2
          clear hd2
          go_wp2
          go_roundg (2 - 2)
          case measure => have := HG.out; omega
          case rel => exact ⟨2, _, rfl, by congr 1, .inr (.inr ⟨rfl, h, hlt, HD.out, HD2.out, by omega⟩), rfl, rfl⟩
        · have hb : isDig s[a + 1] = false := by simpa using hd2
          have HN := Lib.hid (numAt_one s a h HD.out (.inr ⟨hlt, hb⟩))
          have hq : (s[a + 1]).toNat < 48 ∨ 57 < (s[a + 1]).toNat := by
            have := isDig_iff s[a + 1]; rw [hb] at this; simp at this; omega
          clear hb hd2
          rcases hq with hq | hq
          · have hc0 : ¬ (48 : Int) ≤ (s[a + 1].toNat : Int) := by omega
            go_wp2
            go_ret2
            exact ⟨⟨_, a + 1, rfl, HN.out, by omega, by omega⟩, rfl⟩
          · have hc0 : (48 : Int) ≤ (s[a + 1].toNat : Int) := by omega
            have hc1 : ¬ (s[a + 1].toNat : Int) ≤ 57 := by omega
            go_wp2
            go_ret2
            exact ⟨⟨_, a + 1, rfl, HN.out, by omega, by omega⟩, rfl⟩
      · have HN := Lib.hid (numAt_one s a h HD.out (.inl (by omega)))
        go_wp2
        go_ret2
        exact ⟨⟨_, a + 1, rfl, HN.out, by omega, by omega⟩, rfl⟩
    · have HN := Lib.hid (numAt_two s a h hd h2 hd2)
      have hc := (isDig_iff _).1 hd
      have hc2 := (isDig_iff _).1 hd2
      have g1 : 48 ≤ (s[a].toNat : Int) := by omega
      have g2 : (s[a].toNat : Int) ≤ 57 := by omega
      have g3 : 48 ≤ (s[a + 1].toNat : Int) := by omega
      have g4 : (s[a + 1].toNat : Int) ≤ 57 := by omega
      have e1 : (((a + 2 : Nat) : Int) == (a : Int)) = false := by simp only [beq_eq_false_iff_ne]; omega
      have e2 : ((a : Int) + 2 == (a : Int)) = false := by simp only [beq_eq_false_iff_ne]; omega
      clear hd hd2
      by_cases hlt : a + 2 < s.size
      · go_wp2
        go_ret2
        exact ⟨⟨_, a + 2, rfl, HN.out, by omega, by omega⟩, rfl⟩
      · go_wp2
        go_ret2
        exact ⟨⟨_, a + 2, rfl, HN.out, by omega, by omega⟩, rfl⟩

def loN (f : Int) : Nat := if f = 2 ∨ f = 3 then 1 else 0
def hiN (f : Int) : Nat := if f = 0 then 59 else if f = 1 then 23 else if f = 2 then 31 else if f = 3 then 12 else 6
theorem lohi (f : Int) : loN f ≤ 1 ∧ hiN f ≤ 59 ∧ 6 ≤ hiN f := by
  unfold loN hiN
  split <;> split <;> first | omega | (split <;> first | omega | (split <;> first | omega | (split <;> omega)))
theorem index_a5 (w : World) (cs : Array Value) (i : Nat) (k : IntKind) (v : Int) (hi : i < 5) (h : cs[i]? = some (.int k v)) :
    (Instr.index 126 (.agg cs) (.int .i64 i)).run Tryd.prog w = .ok (.int k v) w := by
  have hz := Tryd.underlying3
  have hi2 : (0 : Int) ≤ i ∧ (i : Int) < 5 := by omega
  simp [Instr.index, run_underlying Tryd.underlying126, asIntOf, hi2, go_sem, part, isAgg, run_underlying hz, h]
  intro k; omega
theorem lo_index (w : World) (f : Int) (hf : 0 ≤ f ∧ f < 5) :
    (Instr.index 126 (.agg #[.int .i64 0, .int .i64 0, .int .i64 1, .int .i64 1, .int .i64 0]) (.int .i64 f)).run Tryd.prog w = .ok (.int .i64 (loN f)) w := by
  have h5 : f = (0 : Nat) ∨ f = (1 : Nat) ∨ f = (2 : Nat) ∨ f = (3 : Nat) ∨ f = (4 : Nat) := by omega
  rcases h5 with rfl | rfl | rfl | rfl | rfl
  all_goals exact index_a5 w _ _ _ _ (by decide) rfl
theorem hi_index (w : World) (f : Int) (hf : 0 ≤ f ∧ f < 5) :
    (Instr.index 126 (.agg #[.int .i64 59, .int .i64 23, .int .i64 31, .int .i64 12, .int .i64 6]) (.int .i64 f)).run Tryd.prog w = .ok (.int .i64 (hiN f)) w := by
  have h5 : f = (0 : Nat) ∨ f = (1 : Nat) ∨ f = (2 : Nat) ∨ f = (3 : Nat) ∨ f = (4 : Nat) := by omega
  rcases h5 with rfl | rfl | rfl | rfl | rfl
  all_goals exact index_a5 w _ _ _ _ (by decide) rfl
set_option maxRecDepth 100000 in
theorem rlo_any (f : Int) (w : World) (hf : 0 ≤ f ∧ f < 5) : Calls Tryd.prog 63 #[.int .i64 f] w fun e w' => e = .returned (.int .i64 (loN f)) ∧ w = w' := by
  have hx := fun w => lo_index w f hf
  generalize ((loN f : Nat) : Int) = n at *
  go_enter Tryd.func63, Tryd.ntmps63
  go_wp2
  go_ret
  exact ⟨rfl, rfl⟩
set_option maxRecDepth 100000 in
theorem rhi_any (f : Int) (w : World) (hf : 0 ≤ f ∧ f < 5) : Calls Tryd.prog 64 #[.int .i64 f] w fun e w' => e = .returned (.int .i64 (hiN f)) ∧ w = w' := by
  have hx := fun w => hi_index w f hf
  generalize ((hiN f : Nat) : Int) = n at *
  go_enter Tryd.func64, Tryd.ntmps64
  go_wp2
  go_ret
  exact ⟨rfl, rfl⟩

theorem pow_62 (k : Nat) (h : k ≤ 63) : 2 ^ k ≤ 9223372036854775808 := by
  have : 2 ^ k ≤ 2 ^ 63 := Nat.pow_le_pow_right (by omega) h
  omega
set_option maxHeartbeats 1000000 in
set_option maxRecDepth 100000 in
theorem rbits_any (a b : Nat) (w : World) (hab : a ≤ b) (hb : b ≤ 62) :
    Calls Tryd.prog 62 #[.int .i64 a, .int .i64 b] w fun e w' => e = .returned (.int .u64 (spanN a b : Nat)) ∧ w = w' := by
  go_enter Tryd.func62, Tryd.ntmps62
  go_wp2
  go_loopg [5, 6] (b + 1 - a) (fun gk v iv wr => ∃ i x : Nat, iv = .int .i64 i ∧ v = .int .u64 x ∧ a ≤ i ∧ i ≤ b + 1 ∧ x < 18446744073709551616 ∧ Hid (x = 2 ^ i - 2 ^ a) ∧ gk = b + 1 - i ∧ wr = w)
  case atStart => exact ⟨a, 0, rfl, rfl, by omega, by omega, by omega, by show _ = _; omega, rfl, rfl⟩
  case round =>
    obtain ⟨i, x, rfl, rfl, hi1, hi2, hx, HX, hgk, rfl⟩ := hrel
    have HG := Lib.hid hgk
    clear hgk
    by_cases hlt : i ≤ b
    · have h1 : (i : Int) ≤ (b : Int) := by omega
      have hp := pow_62 i (by omega)
      have e1 : IntKind.u64.wrap ((2 : Int) ^ i) = ((2 ^ i : Nat) : Int) := (wrap_pow i (by omega)).1
      have hor := bits_or_u64_nat x (2 ^ i) hx (by omega)
      have HN : Hid (x ||| 2 ^ i = 2 ^ (i + 1) - 2 ^ a) := by show _ = _; rw [HX.out]; exact span_more a i hi1 (by omega)
      have hxl : x ||| 2 ^ i < 18446744073709551616 := Nat.or_lt_two_pow (n := 64) hx (by omega)
      go_wp2
      go_roundg (b + 1 - (i + 1))
      case measure => have := HG.out; omega
      case rel => exact ⟨i + 1, x ||| 2 ^ i, rfl, by first | rfl | (congr 1; done) | (congr 1; rw [← hor]; rfl), by omega, by omega, hxl, HN, rfl, rfl⟩
    · have h1 : ¬ (i : Int) ≤ (b : Int) := by omega
      have HN : Hid (x = spanN a b) := by
        show _ = _
        rw [HX.out, show i = b + 1 by omega]; rfl
      go_wp2
      go_ret
      exact ⟨by rw [HN.out]; rfl, rfl⟩
theorem rbits_i (x y : Int) (w : World) (h : 0 ≤ x ∧ x ≤ y ∧ y ≤ 62) :
    Calls Tryd.prog 62 #[.int .i64 x, .int .i64 y] w fun e w' => e = .returned (.int .u64 (spanN x.toNat y.toNat : Nat)) ∧ w = w' := by
  have := rbits_any x.toNat y.toNat w (by omega) (by omega)
  rw [Int.toNat_of_nonneg (by omega), Int.toNat_of_nonneg (by omega)] at this
  exact this
end Go.Proofs.YtdpaiaeaamokeaaDoor.Cron

namespace Go.Proofs.YtdpaiaeaamokeaaDoor.Cron
open Go.RowKit Go

/-- What a field says: its bits, whether it is a star, whether it is one. -/
def RfPost (l : List UInt8) (lo hi : Nat) (e : Ending) : Prop := e = .returned (.tuple #[.int .u64 (pfield l lo hi : Nat), .bool (decide (l = [42])), .bool (decide (pfield l lo hi ≠ 0))])
theorem rf_bad (l : List UInt8) (lo hi : Nat) (h : l ≠ [42]) (hr : rat lo hi l 0 = none) : RfPost l lo hi (.returned (.tuple #[.int .u64 0, .bool false, .bool false])) := by
  rw [rat_field l lo hi h] at hr
  by_cases c : pfield l lo hi = 0
  · unfold RfPost; rw [c]; simp [h]
  · rw [if_neg c] at hr; cases hr
theorem rf_good (l : List UInt8) (lo hi x : Nat) (h : l ≠ [42]) (hr : rat lo hi l 0 = some x) : RfPost l lo hi (.returned (.tuple #[.int .u64 x, .bool false, .bool true])) := by
  rw [rat_field l lo hi h] at hr
  by_cases c : pfield l lo hi = 0
  · rw [if_pos c] at hr; cases hr
  · rw [if_neg c] at hr
    unfold RfPost; rw [Option.some.inj hr] at c ⊢; simp [h, c]
theorem ritem_at1 (s : ByteArray) (a k : Nat) (n : Int) (h : NumAt s a k n) (h2 : s.size ≤ k ∨ ∃ h : k < s.size, s[k].toNat ≠ 45) : ritem (s.data.toList.drop a) = (n, n, s.data.toList.drop k) := by
  refine ritem_one _ _ _ h.1 h.2 ?_
  rcases h2 with h2 | ⟨h2, h3⟩
  · rw [drop_end s k h2]; simp
  · rw [drop_one s k h2]
    simp only [List.head?_cons, ne_eq, Option.some.injEq]
    intro e; exact h3 (by rw [e]; rfl)
theorem ritem_at2 (s : ByteArray) (a k j : Nat) (n m : Int) (h : NumAt s a k n) (h2 : k < s.size) (h3 : s[k].toNat = 45) (h4 : NumAt s (k + 1) j m) : ritem (s.data.toList.drop a) = (n, m, s.data.toList.drop j) := by
  refine ritem_two _ (s.data.toList.drop (k + 1)) _ _ _ h.1 ?_ h4.1 h4.2
  rw [← h.2, drop_one s k h2, show s[k] = 45 from UInt8.toNat.inj (by simpa using h3)]

set_option maxHeartbeats 4000000 in
set_option maxRecDepth 100000 in
theorem rfield_any (s : ByteArray) (f : Int) (w : World) (hs : s.size ≤ 1000000) (hf : 0 ≤ f ∧ f < 5) :
    Calls Tryd.prog 59 #[.string s, .int .i64 f] w fun e w' => RfPost s.data.toList (loN f) (hiN f) e ∧ w = w' := by
  obtain ⟨lo, hlo⟩ : ∃ lo, loN f = lo := ⟨_, rfl⟩
  obtain ⟨hi, hhi⟩ : ∃ hi, hiN f = hi := ⟨_, rfl⟩
  have hb := lohi f
  rw [hlo, hhi] at hb ⊢
  have RL := fun w => rlo_any f w hf
  have RH := fun w => rhi_any f w hf
  rw [hlo] at RL
  rw [hhi] at RH
  have HRL := Lib.hid RL
  have HRH := Lib.hid RH
  clear RL RH hlo hhi
  by_cases hstar : s.data.toList = [42]
  · have hP : Hid (RfPost s.data.toList lo hi (.returned (.tuple #[.int .u64 (spanN lo hi : Nat), .bool true, .bool true]))) := by
      have := span_pos lo hi (by omega)
      show _ = _
      rw [pfield, if_pos hstar]; simp [hstar]; omega
    have hq : (s.toList == [42]) = true := by rw [Lib.toList_data, hstar]; rfl
    clear hstar
    go_enter Tryd.func59, Tryd.ntmps59
    go_wp2_with fail
    go_at_call 63
    refine (HRL.out _).mono ?_
    rintro x w1 ⟨rfl, rfl⟩
    go_wp2_with fail
    go_at_call 64
    refine (HRH.out _).mono ?_
    rintro x w1 ⟨rfl, rfl⟩
    go_wp2_with fail
    go_at_call 62
    refine (rbits_any lo hi _ (by omega) (by omega)).mono ?_
    rintro x w1 ⟨rfl, rfl⟩
    go_wp2
    go_ret3
    exact ⟨hP.out, rfl⟩
  · have HS := Lib.hid hstar
    have hq : (s.toList == [42]) = false := by rw [Lib.toList_data]; simpa using hstar
    clear hstar
    go_enter Tryd.func59, Tryd.ntmps59
    go_wp2
    go_loopg [7, 8] (s.size + 1) (fun gk v av wr => ∃ a x : Nat, av = .int .i64 a ∧ v = .int .u64 x ∧ a ≤ s.size ∧ x < 18446744073709551616 ∧ Hid (rat lo hi (s.data.toList.drop a) x = rat lo hi s.data.toList 0) ∧ gk = s.size + 1 - a ∧ wr = w)
    case atStart => exact ⟨0, 0, rfl, rfl, by omega, by omega, rfl, rfl, rfl⟩
    case round =>
      obtain ⟨a, x, rfl, rfl, ha, hx, HR, hgk, rfl⟩ := hrel
      have HG := Lib.hid hgk
      clear hgk
      go_wp2_with fail
      go_at_call 91
      refine (rnumber6_any s a _ ha hs).mono ?_
      rintro y w1 ⟨⟨n, k, rfl, hN, hak, hk⟩, rfl⟩
      have hnr := numAt_range s a k n hN
      have HN := Lib.hid hN
      clear hN
      by_cases hm : ∃ h : k < s.size, s[k].toNat = 45
      · obtain ⟨hm1, hm2⟩ := hm
        have g1 : (k : Int) < (s.size : Int) := by omega
        have g2 : ((s[k].toNat : Int) == 45) = true := by simp only [beq_iff_eq]; omega
        go_wp2_with fail
        go_at_call 91
        rw [show (k : Int) + 1 = ((k + 1 : Nat) : Int) by omega]
        refine (rnumber6_any s (k + 1) _ (by omega) hs).mono ?_
        rintro y w1 ⟨⟨m, j, rfl, hM, hkj, hj⟩, rfl⟩
        have hmr := numAt_range s (k + 1) j m hM
        have HI := Lib.hid (ritem_at2 s a k j n m HN.out hm1 hm2 hM)
        have haj : a ≤ j := by omega
        clear hM HN g1 g2 hm1 hm2 hkj hak hk
        by_cases hbad : n < (lo : Int) ∨ (hi : Int) < m ∨ m < n
        · have HF : Hid (RfPost s.data.toList lo hi (.returned (.tuple #[.int .u64 0, .bool false, .bool false]))) := rf_bad _ _ _ HS.out (by rw [← HR.out]; exact rat_bad lo hi _ x _ _ _ HI.out hbad)
          have hcs : n < (lo : Int) ∨ (¬ n < (lo : Int) ∧ (hi : Int) < m) ∨ (¬ n < (lo : Int) ∧ ¬ (hi : Int) < m ∧ m < n) := by omega
          clear hbad
          rcases hcs with c1 | ⟨c1, c2⟩ | ⟨c1, c2, c3⟩
          · go_wp2_with fail
            go_at_call 63
            refine (HRL.out _).mono ?_
            rintro y w2 ⟨rfl, rfl⟩
            go_wp2
            go_ret3
            exact ⟨HF.out, rfl⟩
          · go_wp2_with fail
            go_at_call 63
            refine (HRL.out _).mono ?_
            rintro y w2 ⟨rfl, rfl⟩
            go_wp2_with fail
            go_at_call 64
            refine (HRH.out _).mono ?_
            rintro y w2 ⟨rfl, rfl⟩
            go_wp2
            go_ret3
            exact ⟨HF.out, rfl⟩
          · go_wp2_with fail
            go_at_call 63
            refine (HRL.out _).mono ?_
            rintro y w2 ⟨rfl, rfl⟩
            go_wp2_with fail
            go_at_call 64
            refine (HRH.out _).mono ?_
            rintro y w2 ⟨rfl, rfl⟩
            go_wp2
            go_ret3
            exact ⟨HF.out, rfl⟩
        have c1 : ¬ n < (lo : Int) := by omega
        have c2 : ¬ (hi : Int) < m := by omega
        have c3 : ¬ m < n := by omega
        have HB := Lib.hid hbad
        have hsl := span_lt n.toNat m.toNat (by omega)
        have hor := bits_or_u64_nat x (spanN n.toNat m.toNat) hx hsl
        have hxl : x ||| spanN n.toNat m.toNat < 18446744073709551616 := Nat.or_lt_two_pow (n := 64) hx hsl
        clear hbad
        by_cases hend : j = s.size
        · have HF : Hid (RfPost s.data.toList lo hi (.returned (.tuple #[.int .u64 ((x ||| spanN n.toNat m.toNat : Nat)), .bool false, .bool true]))) := rf_good _ _ _ _ HS.out (by
            rw [← HR.out]
            exact rat_end lo hi _ x n m (by rw [HI.out, drop_end s _ (by omega)]) HB.out)
          have e1 : ((j : Int) == (s.size : Int)) = true := by simp only [beq_iff_eq]; omega
          clear hend
          go_wp2_with fail
          go_at_call 63
          refine (HRL.out _).mono ?_
          rintro y w2 ⟨rfl, rfl⟩
          go_wp2_with fail
          go_at_call 64
          refine (HRH.out _).mono ?_
          rintro y w2 ⟨rfl, rfl⟩
          go_wp2_with fail
          go_at_call 62
          refine (rbits_i n m _ (by omega)).mono ?_
          rintro y w2 ⟨rfl, rfl⟩
          go_wp2
          go_ret3
          exact ⟨HF.out, rfl⟩
        · have hjl : j < s.size := by omega
          have hji : (j : Int) < (s.size : Int) := by omega
          have e1 : ((j : Int) == (s.size : Int)) = false := by simp only [beq_eq_false_iff_ne]; omega
          by_cases hc : s[j].toNat = 44
          · have HN : Hid (rat lo hi (s.data.toList.drop (j + 1)) (x ||| spanN n.toNat m.toNat) = rat lo hi s.data.toList 0) := by
              show _ = _
              rw [← HR.out]
              exact (rat_more lo hi _ x n m _ (by rw [HI.out, drop_one s j hjl, show s[j] = 44 from UInt8.toNat.inj (by simpa using hc)]) HB.out).symm
            have e2 : ((s[j].toNat : Int) == 44) = true := by simp only [beq_iff_eq]; omega
            clear hc hend
            go_wp2_with fail
            go_at_call 63
            refine (HRL.out _).mono ?_
            rintro y w2 ⟨rfl, rfl⟩
            go_wp2_with fail
            go_at_call 64
            refine (HRH.out _).mono ?_
            rintro y w2 ⟨rfl, rfl⟩
            go_wp2_with fail
            go_at_call 62
            refine (rbits_i n m _ (by omega)).mono ?_
            rintro y w2 ⟨rfl, rfl⟩
            go_wp2
            go_roundg (s.size + 1 - (j + 1))
            case measure => have := HG.out; omega
            case rel => exact ⟨j + 1, x ||| spanN n.toNat m.toNat, rfl, by first | rfl | (rw [← hor]; rfl), by omega, hxl, HN, rfl, rfl⟩
          · have HF : Hid (RfPost s.data.toList lo hi (.returned (.tuple #[.int .u64 0, .bool false, .bool false]))) := rf_bad _ _ _ HS.out (by
              rw [← HR.out]
              exact rat_other lo hi _ x n m _ _ (by rw [HI.out, drop_one s j hjl]) HB.out (fun e => hc (by rw [e]; rfl)))
            have e2 : ((s[j].toNat : Int) == 44) = false := by simp only [beq_eq_false_iff_ne]; omega
            clear hc hend
            go_wp2_with fail
            go_at_call 63
            refine (HRL.out _).mono ?_
            rintro y w2 ⟨rfl, rfl⟩
            go_wp2_with fail
            go_at_call 64
            refine (HRH.out _).mono ?_
            rintro y w2 ⟨rfl, rfl⟩
            go_wp2_with fail
            go_at_call 62
            refine (rbits_i n m _ (by omega)).mono ?_
            rintro y w2 ⟨rfl, rfl⟩
            go_wp2
            go_ret3
            exact ⟨HF.out, rfl⟩
      · have HI := Lib.hid (ritem_at1 s a k n HN.out (by
          by_cases c : k < s.size
          · exact .inr ⟨c, fun e => hm ⟨c, e⟩⟩
          · exact .inl (by omega)))
        have hg : ¬ (k : Int) < (s.size : Int) ∨ ((k : Int) < (s.size : Int) ∧ ∃ h : k < s.size, ((s[k].toNat : Int) == 45) = false) := by
          by_cases c : k < s.size
          · exact .inr ⟨by omega, c, by simp only [beq_eq_false_iff_ne]; exact fun e => hm ⟨c, by omega⟩⟩
          · exact .inl (by omega)
        clear hm HN
        rcases hg with g1 | ⟨g1, g2, g3⟩
        · skip
          by_cases hbad : n < (lo : Int) ∨ (hi : Int) < n ∨ n < n
          · have HF : Hid (RfPost s.data.toList lo hi (.returned (.tuple #[.int .u64 0, .bool false, .bool false]))) := rf_bad _ _ _ HS.out (by rw [← HR.out]; exact rat_bad lo hi _ x _ _ _ HI.out hbad)
            have hcs : n < (lo : Int) ∨ (¬ n < (lo : Int) ∧ (hi : Int) < n) ∨ (¬ n < (lo : Int) ∧ ¬ (hi : Int) < n ∧ n < n) := by omega
            clear hbad
            rcases hcs with c1 | ⟨c1, c2⟩ | ⟨c1, c2, c3⟩
            · go_wp2_with fail
              go_at_call 63
              refine (HRL.out _).mono ?_
              rintro y w2 ⟨rfl, rfl⟩
              go_wp2
              go_ret3
              exact ⟨HF.out, rfl⟩
            · go_wp2_with fail
              go_at_call 63
              refine (HRL.out _).mono ?_
              rintro y w2 ⟨rfl, rfl⟩
              go_wp2_with fail
              go_at_call 64
              refine (HRH.out _).mono ?_
              rintro y w2 ⟨rfl, rfl⟩
              go_wp2
              go_ret3
              exact ⟨HF.out, rfl⟩
            · omega
          have c1 : ¬ n < (lo : Int) := by omega
          have c2 : ¬ (hi : Int) < n := by omega
          have c3 : ¬ n < n := by omega
          have HB := Lib.hid hbad
          have hsl := span_lt n.toNat n.toNat (by omega)
          have hor := bits_or_u64_nat x (spanN n.toNat n.toNat) hx hsl
          have hxl : x ||| spanN n.toNat n.toNat < 18446744073709551616 := Nat.or_lt_two_pow (n := 64) hx hsl
          clear hbad
          by_cases hend : k = s.size
          · have HF : Hid (RfPost s.data.toList lo hi (.returned (.tuple #[.int .u64 ((x ||| spanN n.toNat n.toNat : Nat)), .bool false, .bool true]))) := rf_good _ _ _ _ HS.out (by
              rw [← HR.out]
              exact rat_end lo hi _ x n n (by rw [HI.out, drop_end s _ (by omega)]) HB.out)
            have e1 : ((k : Int) == (s.size : Int)) = true := by simp only [beq_iff_eq]; omega
            clear hend
            go_wp2_with fail
            go_at_call 63
            refine (HRL.out _).mono ?_
            rintro y w2 ⟨rfl, rfl⟩
            go_wp2_with fail
            go_at_call 64
            refine (HRH.out _).mono ?_
            rintro y w2 ⟨rfl, rfl⟩
            go_wp2_with fail
            go_at_call 62
            refine (rbits_i n n _ (by omega)).mono ?_
            rintro y w2 ⟨rfl, rfl⟩
            go_wp2
            go_ret3
            exact ⟨HF.out, rfl⟩
          · omega
        · skip
          by_cases hbad : n < (lo : Int) ∨ (hi : Int) < n ∨ n < n
          · have HF : Hid (RfPost s.data.toList lo hi (.returned (.tuple #[.int .u64 0, .bool false, .bool false]))) := rf_bad _ _ _ HS.out (by rw [← HR.out]; exact rat_bad lo hi _ x _ _ _ HI.out hbad)
            have hcs : n < (lo : Int) ∨ (¬ n < (lo : Int) ∧ (hi : Int) < n) ∨ (¬ n < (lo : Int) ∧ ¬ (hi : Int) < n ∧ n < n) := by omega
            clear hbad
            rcases hcs with c1 | ⟨c1, c2⟩ | ⟨c1, c2, c3⟩
            · go_wp2_with fail
              go_at_call 63
              refine (HRL.out _).mono ?_
              rintro y w2 ⟨rfl, rfl⟩
              go_wp2
              go_ret3
              exact ⟨HF.out, rfl⟩
            · go_wp2_with fail
              go_at_call 63
              refine (HRL.out _).mono ?_
              rintro y w2 ⟨rfl, rfl⟩
              go_wp2_with fail
              go_at_call 64
              refine (HRH.out _).mono ?_
              rintro y w2 ⟨rfl, rfl⟩
              go_wp2
              go_ret3
              exact ⟨HF.out, rfl⟩
            · omega
          have c1 : ¬ n < (lo : Int) := by omega
          have c2 : ¬ (hi : Int) < n := by omega
          have c3 : ¬ n < n := by omega
          have HB := Lib.hid hbad
          have hsl := span_lt n.toNat n.toNat (by omega)
          have hor := bits_or_u64_nat x (spanN n.toNat n.toNat) hx hsl
          have hxl : x ||| spanN n.toNat n.toNat < 18446744073709551616 := Nat.or_lt_two_pow (n := 64) hx hsl
          clear hbad
          by_cases hend : k = s.size
          · have HF : Hid (RfPost s.data.toList lo hi (.returned (.tuple #[.int .u64 ((x ||| spanN n.toNat n.toNat : Nat)), .bool false, .bool true]))) := rf_good _ _ _ _ HS.out (by
              rw [← HR.out]
              exact rat_end lo hi _ x n n (by rw [HI.out, drop_end s _ (by omega)]) HB.out)
            have e1 : ((k : Int) == (s.size : Int)) = true := by simp only [beq_iff_eq]; omega
            clear hend
            go_wp2_with fail
            go_at_call 63
            refine (HRL.out _).mono ?_
            rintro y w2 ⟨rfl, rfl⟩
            go_wp2_with fail
            go_at_call 64
            refine (HRH.out _).mono ?_
            rintro y w2 ⟨rfl, rfl⟩
            go_wp2_with fail
            go_at_call 62
            refine (rbits_i n n _ (by omega)).mono ?_
            rintro y w2 ⟨rfl, rfl⟩
            go_wp2
            go_ret3
            exact ⟨HF.out, rfl⟩
          · have hjl : k < s.size := by omega
            have hji : (k : Int) < (s.size : Int) := by omega
            have e1 : ((k : Int) == (s.size : Int)) = false := by simp only [beq_eq_false_iff_ne]; omega
            by_cases hc : s[k].toNat = 44
            · have HN : Hid (rat lo hi (s.data.toList.drop (k + 1)) (x ||| spanN n.toNat n.toNat) = rat lo hi s.data.toList 0) := by
                show _ = _
                rw [← HR.out]
                exact (rat_more lo hi _ x n n _ (by rw [HI.out, drop_one s k hjl, show s[k] = 44 from UInt8.toNat.inj (by simpa using hc)]) HB.out).symm
              have e2 : ((s[k].toNat : Int) == 44) = true := by simp only [beq_iff_eq]; omega
              clear hc hend
              go_wp2_with fail
              go_at_call 63
              refine (HRL.out _).mono ?_
              rintro y w2 ⟨rfl, rfl⟩
              go_wp2_with fail
              go_at_call 64
              refine (HRH.out _).mono ?_
              rintro y w2 ⟨rfl, rfl⟩
              go_wp2_with fail
              go_at_call 62
              refine (rbits_i n n _ (by omega)).mono ?_
              rintro y w2 ⟨rfl, rfl⟩
              go_wp2
              go_roundg (s.size + 1 - (k + 1))
              case measure => have := HG.out; omega
              case rel => exact ⟨k + 1, x ||| spanN n.toNat n.toNat, rfl, by first | rfl | (rw [← hor]; rfl), by omega, hxl, HN, rfl, rfl⟩
            · have HF : Hid (RfPost s.data.toList lo hi (.returned (.tuple #[.int .u64 0, .bool false, .bool false]))) := rf_bad _ _ _ HS.out (by
                rw [← HR.out]
                exact rat_other lo hi _ x n n _ _ (by rw [HI.out, drop_one s k hjl]) HB.out (fun e => hc (by rw [e]; rfl)))
              have e2 : ((s[k].toNat : Int) == 44) = false := by simp only [beq_eq_false_iff_ne]; omega
              clear hc hend
              go_wp2_with fail
              go_at_call 63
              refine (HRL.out _).mono ?_
              rintro y w2 ⟨rfl, rfl⟩
              go_wp2_with fail
              go_at_call 64
              refine (HRH.out _).mono ?_
              rintro y w2 ⟨rfl, rfl⟩
              go_wp2_with fail
              go_at_call 62
              refine (rbits_i n n _ (by omega)).mono ?_
              rintro y w2 ⟨rfl, rfl⟩
              go_wp2
              go_ret3
              exact ⟨HF.out, rfl⟩
end Go.Proofs.YtdpaiaeaamokeaaDoor.Cron

namespace Go.Proofs.YtdpaiaeaamokeaaDoor.Cron
open Go.RowKit Go

theorem one_newC (W : World) (v : Value) (t : TypeId) : ∀ j u, [v][j]? = some u → (W.alloc (.cells #[v] t)).cell? ((⟨W.heap.size, 0, none⟩ : Addr).add j) = some u := by
  intro j u hj
  match j, hj with
  | 0, hj =>
    simp at hj; subst hj
    simp [Addr.add]
theorem one_strC (S : ByteArray) : ∀ u ∈ [Value.string S], u.oneCell' = true := by intro u hu; simp at hu; subst hu; rfl
/-- So far the text's fields are read. -/
def FS (s : ByteArray) (i : Nat) (bs : List ByteArray) (fv : Value) : Prop :=
  (fv = .int .i64 (-1) ∧ i ≤ s.size ∧ Hid (fold (s.data.toList.take i) = (bs.map (·.data.toList), false))) ∨
  (∃ a : Nat, fv = .int .i64 a ∧ a ≤ i ∧ i ≤ s.size ∧ Hid (fold (s.data.toList.take i) = (bs.map (·.data.toList) ++ [(s.extract a i).data.toList], true))) ∨
  (i = s.size + 1 ∧ fv = .int .i64 (-1) ∧ Hid (bs.map (·.data.toList) = flds s.data.toList))
theorem fs_end (s : ByteArray) (i : Nat) (hi : i = s.size) (bs : List (List UInt8)) (b : Bool) (h : fold (s.data.toList.take i) = (bs, b)) : bs = flds s.data.toList := by
  rw [take_all s i (by omega)] at h
  unfold flds; rw [h]

def FieldsPost (B : Nat) (s : ByteArray) (x : Ending) (w' : World) : Prop :=
  ∃ (v : Value) (bs : List ByteArray), x = .returned v ∧ w'.ownsRow B 9 1 v bs.length (bs.map Value.string) ∧ bs.map (·.data.toList) = flds s.data.toList ∧ bs.length ≤ s.size + 1 ∧ ∀ b ∈ bs, b.size ≤ s.size

set_option maxHeartbeats 2000000 in
set_option maxRecDepth 100000 in
theorem rfields_any (s : ByteArray) (w : World) (hs : s.size ≤ 1000000) :
    Calls Tryd.prog 58 #[.string s] w fun e w' => FieldsPost w.heap.size s e w' ∧ Below w.heap.size w w' := by
  obtain ⟨i0, hi0, hz0, hz1, hz2⟩ := info_parts Tryd.infoStr
  go_enter Tryd.func58, Tryd.ntmps58
  go_wp2
  go_loopg [3, 4, 5] (s.size + 1) (fun gk v fv iv wr => ∃ (i : Nat) (bs : List ByteArray), iv = .int .i64 i ∧ FS s i bs fv ∧ bs.length ≤ i ∧ wr.ownsRow w.heap.size 9 1 v bs.length (bs.map Value.string) ∧ Below w.heap.size w wr ∧ Hid (∀ b ∈ bs, b.size ≤ s.size) ∧ gk = s.size + 1 - i)
  case atStart => exact ⟨0, [], rfl, .inl ⟨rfl, by omega, rfl⟩, by simp, World.ownsRow_nil _ _ _ _, Below.refl _ _, Lib.hid (fun b hb => by cases hb), rfl⟩
  case round =>
    obtain ⟨i, bs, rfl, hfs, hbl, hown, hbel, HA, hgk⟩ := hrel
    have HG := Lib.hid hgk
    have HO := Lib.hid hown
    clear hgk hown
    rcases hfs with ⟨rfl, hi, HF⟩ | ⟨a, rfl, hai, hi, HF⟩ | ⟨rfl, rfl, HF⟩
    · have hii : (i : Int) ≤ (s.size : Int) := by omega
      by_cases he : i = s.size
      · have e0 : ((i : Int) == (s.size : Int)) = true := by simp only [beq_iff_eq]; omega
        have HN : FS s (i + 1) bs (.int .i64 (-1)) := .inr (.inr ⟨by omega, rfl, fs_end s i he _ _ HF.out⟩)
        clear he
        go_wp2
        go_roundg (s.size + 1 - (i + 1))
        case measure => have := HG.out; omega
        case rel => exact ⟨i + 1, bs, rfl, HN, by omega, HO.out, hbel, HA, rfl⟩
      · have hlt : i < s.size := by omega
        have hlti : (i : Int) < (s.size : Int) := by omega
        have e0 : ((i : Int) == (s.size : Int)) = false := by simp only [beq_eq_false_iff_ne]; omega
        by_cases hb : isBlank s[i] = true
        · have HN : FS s (i + 1) bs (.int .i64 (-1)) := .inl ⟨rfl, by omega, fld_blank s i hlt hb _ _ HF.out⟩
          have hcs : (s[i].toNat : Int) = 32 ∨ (s[i].toNat : Int) = 9 := by
            simp only [isBlank, decide_eq_true_eq] at hb; omega
          have hpk : ((s[i].toNat : Int) == 32) = true ∨ (((s[i].toNat : Int) == 32) = false ∧ ((s[i].toNat : Int) == 9) = true) := by
            rcases hcs with h | h <;> simp [h]
          clear hcs hb he
          rcases hpk with p1 | ⟨p1, p2⟩
          · skip
            go_wp2
            go_roundg (s.size + 1 - (i + 1))
            case measure => have := HG.out; omega
            case rel => exact ⟨i + 1, bs, rfl, HN, by omega, HO.out, hbel, HA, rfl⟩
          · skip
            go_wp2
            go_roundg (s.size + 1 - (i + 1))
            case measure => have := HG.out; omega
            case rel => exact ⟨i + 1, bs, rfl, HN, by omega, HO.out, hbel, HA, rfl⟩
        · have hb' : isBlank s[i] = false := by simpa using hb
          have HN : FS s (i + 1) bs (.int .i64 i) := .inr (.inl ⟨i, rfl, by omega, by omega, fld_new s i hlt hb' _ HF.out⟩)
          have p1 : ((s[i].toNat : Int) == 32) = false := by
            simp only [isBlank, decide_eq_false_iff_not] at hb'; simp only [beq_eq_false_iff_ne]; omega
          have p2 : ((s[i].toNat : Int) == 9) = false := by
            simp only [isBlank, decide_eq_false_iff_not] at hb'; simp only [beq_eq_false_iff_ne]; omega
          clear hb hb' he
          go_wp2
          go_roundg (s.size + 1 - (i + 1))
          case measure => have := HG.out; omega
          case rel => exact ⟨i + 1, bs, rfl, HN, by omega, HO.out, hbel, HA, rfl⟩
    · have hii : (i : Int) ≤ (s.size : Int) := by omega
      have ha0 : (0 : Int) ≤ (a : Int) := by omega
      have ha1 : ¬ (a : Int) < 0 := by omega
      have k1 : (a : Int) ≤ (i : Int) := by omega
      have HZ : Hid ((s.extract a i).size ≤ s.size) := by show _ ≤ _; simp; omega
      by_cases he : i = s.size
      · have e0 : ((i : Int) == (s.size : Int)) = true := by simp only [beq_iff_eq]; omega
        have HN : FS s (i + 1) (bs ++ [s.extract a i]) (.int .i64 (-1)) := .inr (.inr ⟨by omega, rfl, by show _ = _; rw [List.map_append]; exact fs_end s i he _ _ HF.out⟩)
        clear he
        go_wp2_with (at_builtin; refine wpList_append_lies _ rfl _ _ 85 rfl w.heap.size 9 i0 (.string ⟨#[]⟩) 1 16 Tryd.underlying85 hi0 hz0 hz1 hz2 rfl (by decide) _ _ _ rfl (HO.out.alloc _) ⟨wr.heap.size, 0, none⟩ 1 1 [.string (s.extract a i)] rfl rfl (one_newC _ _ _) (one_strC _) (by decide) (by unfold maxLen; omega) (by omega) (by have := hbel.size; simp; omega) _ rfl ?_)
        intro g cap w1 hown3 hgrow hat hgl
        obtain ⟨hb3, -⟩ := own_grown (Nat.le_refl _) HO.out hbel hgrow
        clear hgrow hat hgl HO hbel
        go_wp2
        go_roundg (s.size + 1 - (i + 1))
        case measure => have := HG.out; omega
        case rel =>
          refine ⟨i + 1, bs ++ [s.extract a i], rfl, HN, by simp; omega, ?_, hb3, ?_, rfl⟩
          · rw [List.length_append, List.map_append]; exact hown3
          · intro b hb
            rcases List.mem_append.1 hb with hb | hb
            · exact HA.out b hb
            · simp at hb; subst hb; exact HZ.out
      · have hlt : i < s.size := by omega
        have hlti : (i : Int) < (s.size : Int) := by omega
        have e0 : ((i : Int) == (s.size : Int)) = false := by simp only [beq_eq_false_iff_ne]; omega
        by_cases hb : isBlank s[i] = true
        · have HN : FS s (i + 1) (bs ++ [s.extract a i]) (.int .i64 (-1)) := .inl ⟨rfl, by omega, by show _ = _; rw [List.map_append]; exact fld_blank s i hlt hb _ _ HF.out⟩
          have hcs : (s[i].toNat : Int) = 32 ∨ (s[i].toNat : Int) = 9 := by
            simp only [isBlank, decide_eq_true_eq] at hb; omega
          have hpk : ((s[i].toNat : Int) == 32) = true ∨ (((s[i].toNat : Int) == 32) = false ∧ ((s[i].toNat : Int) == 9) = true) := by
            rcases hcs with h | h <;> simp [h]
          clear hcs hb he
          rcases hpk with p1 | ⟨p1, p2⟩
          · skip
            go_wp2_with (at_builtin; refine wpList_append_lies _ rfl _ _ 85 rfl w.heap.size 9 i0 (.string ⟨#[]⟩) 1 16 Tryd.underlying85 hi0 hz0 hz1 hz2 rfl (by decide) _ _ _ rfl (HO.out.alloc _) ⟨wr.heap.size, 0, none⟩ 1 1 [.string (s.extract a i)] rfl rfl (one_newC _ _ _) (one_strC _) (by decide) (by unfold maxLen; omega) (by omega) (by have := hbel.size; simp; omega) _ rfl ?_)
            intro g cap w1 hown3 hgrow hat hgl
            obtain ⟨hb3, -⟩ := own_grown (Nat.le_refl _) HO.out hbel hgrow
            clear hgrow hat hgl HO hbel
            go_wp2
            go_roundg (s.size + 1 - (i + 1))
            case measure => have := HG.out; omega
            case rel =>
              refine ⟨i + 1, bs ++ [s.extract a i], rfl, HN, by simp; omega, ?_, hb3, ?_, rfl⟩
              · rw [List.length_append, List.map_append]; exact hown3
              · intro b hb
                rcases List.mem_append.1 hb with hb | hb
                · exact HA.out b hb
                · simp at hb; subst hb; exact HZ.out
          · skip
            go_wp2_with (at_builtin; refine wpList_append_lies _ rfl _ _ 85 rfl w.heap.size 9 i0 (.string ⟨#[]⟩) 1 16 Tryd.underlying85 hi0 hz0 hz1 hz2 rfl (by decide) _ _ _ rfl (HO.out.alloc _) ⟨wr.heap.size, 0, none⟩ 1 1 [.string (s.extract a i)] rfl rfl (one_newC _ _ _) (one_strC _) (by decide) (by unfold maxLen; omega) (by omega) (by have := hbel.size; simp; omega) _ rfl ?_)
            intro g cap w1 hown3 hgrow hat hgl
            obtain ⟨hb3, -⟩ := own_grown (Nat.le_refl _) HO.out hbel hgrow
            clear hgrow hat hgl HO hbel
            go_wp2
            go_roundg (s.size + 1 - (i + 1))
            case measure => have := HG.out; omega
            case rel =>
              refine ⟨i + 1, bs ++ [s.extract a i], rfl, HN, by simp; omega, ?_, hb3, ?_, rfl⟩
              · rw [List.length_append, List.map_append]; exact hown3
              · intro b hb
                rcases List.mem_append.1 hb with hb | hb
                · exact HA.out b hb
                · simp at hb; subst hb; exact HZ.out
        · have hb' : isBlank s[i] = false := by simpa using hb
          have HN : FS s (i + 1) bs (.int .i64 a) := .inr (.inl ⟨a, rfl, by omega, by omega, fld_more s a i hlt hai hb' _ HF.out⟩)
          have p1 : ((s[i].toNat : Int) == 32) = false := by
            simp only [isBlank, decide_eq_false_iff_not] at hb'; simp only [beq_eq_false_iff_ne]; omega
          have p2 : ((s[i].toNat : Int) == 9) = false := by
            simp only [isBlank, decide_eq_false_iff_not] at hb'; simp only [beq_eq_false_iff_ne]; omega
          clear hb hb' he
          go_wp2
          go_roundg (s.size + 1 - (i + 1))
          case measure => have := HG.out; omega
          case rel => exact ⟨i + 1, bs, rfl, HN, by omega, HO.out, hbel, HA, rfl⟩
    · have hii : ¬ ((s.size + 1 : Nat) : Int) ≤ (s.size : Int) := by omega
      go_wp2
      go_ret
      exact ⟨⟨_, bs, rfl, HO.out, HF.out, hbl, HA.out⟩, hbel⟩
end Go.Proofs.YtdpaiaeaamokeaaDoor.Cron

namespace Go.Proofs.YtdpaiaeaamokeaaDoor.Cron
open Go.RowKit Go

theorem cells_set {W : World} {q : Nat} {A : Array Value} (h : ∀ o, W.cell? ⟨q, o, none⟩ = A[o]?) (i : Nat) (v : Value) (hi : i < A.size) : ∀ o, (W.setCell ⟨q, i, none⟩ v).cell? ⟨q, o, none⟩ = (A.setIfInBounds i v)[o]? := by
  intro o
  by_cases e : i = o
  · subst e
    rw [cell_same _ _ _ _ (by rw [h]; simp [hi]), Array.getElem?_setIfInBounds]
    simp [hi]
  · rw [World.cell?_setCell_other _ _ _ _ (by simp [e]), h, Array.getElem?_setIfInBounds]
    simp [e]
theorem rpar_ret (b : Nat) (tmps : Array Value) (wf : World) (u0 u1 u2 u3 u4 u5 u6 : Value) (n : Int) {post : Ending → World → Prop} (h2 : tmps[2]?.getD undef = .pointer (some ⟨b, 0, none⟩)) (h3 : tmps[3]?.getD undef = .int .i64 n)
    (S7 : wf.cell? ⟨b, 0, none⟩ = some u0 ∧ wf.cell? ⟨b, 1, none⟩ = some u1 ∧ wf.cell? ⟨b, 2, none⟩ = some u2 ∧ wf.cell? ⟨b, 3, none⟩ = some u3 ∧ wf.cell? ⟨b, 4, none⟩ = some u4 ∧ wf.cell? ⟨b, 5, none⟩ = some u5 ∧ wf.cell? ⟨b, 6, none⟩ = some u6)
    (hp : post (.returned (.tuple #[.agg #[u0, u1, u2, u3, u4, u5, u6], .int .i64 n])) wf) : bodyPost Tryd.prog Tryd.f17 post .ret ⟨tmps, []⟩ wf := by
  obtain ⟨s0, s1, s2, s3, s4, s5, s6⟩ := S7
  exact bodyPost_ret (v := .tuple #[.agg #[u0, u1, u2, u3, u4, u5, u6], .int .i64 n]) (by simp [results, Tryd.results17, go_sem, h2, h3, s0, s1, s2, s3, s4, s5, s6]) rfl hp

set_option maxHeartbeats 4000000 in
set_option maxRecDepth 100000 in
theorem rparse_short (s : ByteArray) (w : World) (hs : s.size ≤ 100) :
    Calls Tryd.prog 17 #[.string s] w fun e w' => ParPost s e ∧ Below w.heap.size w w' := by
  go_enter Tryd.func17, Tryd.ntmps17
  go_wp2_with fail
  go_at_call 58
  refine (rfields_any s _ (by omega)).mono ?_
  rintro e w2 ⟨⟨v, bs, rfl, hown, hfl, hbl, hbz⟩, hb2⟩
  have HB := Lib.hid (keepN hb2)
  have HFr := Lib.hid (keepF hb2)
  have hz2 := size1 hb2
  have hbel : Below w.heap.size w w2 := ((Below.refl _ _).alloc (Nat.le_refl _) _).trans (hb2.mono (by simp))
  clear hb2
  obtain ⟨ao5, cap5, rfl⟩ : ∃ ao cap, v = .slice ao bs.length cap := by
    rcases hown.2 with ⟨h, h0⟩ | ⟨g, cap, cur, h, -⟩
    · exact ⟨none, 0, by rw [h, h0]⟩
    · exact ⟨_, cap, h⟩
  by_cases h5 : bs.length = 5
  case neg =>
    have h5i : ((bs.length : Int) == 5) = false := by simp only [beq_eq_false_iff_ne]; omega
    have HP : Hid (pres s = (zeroEx, 25)) := by
      show _ = _
      exact pres_none s hs (pex_not5 (by rw [← hfl]; simpa using h5))
    have hBx := HB.out
    have HFx := HFr.out
    have hbelx := hbel
    clear hown hfl hbl hbz h5 hbel
    generalize bs.length = n at *
    go_wp2
    have S7 := set7_cells hBx (u0 := .int .u64 0) (u1 := .int .u64 0) (u2 := .int .u64 0) (u3 := .int .u64 0) (u4 := .int .u64 0) (u5 := .bool false) (u6 := .bool false) _ rfl
    exact rpar_ret w.heap.size _ _ _ _ _ _ _ _ _ _ rfl rfl S7 ⟨by show _ = _; rw [HP.out]; rfl, zset7 hbelx⟩
  match bs, h5, hown, hfl, hbl, hbz with
  | [b0, b1, b2, b3, b4], _, hown, hfl, hbl, hbz =>
    obtain ⟨g, cap, hgv, hgB, hgl⟩ := hown.form (by simp)
    cases hgv
    have z0 : b0.size ≤ s.size := hbz b0 (by simp)
    have z1 : b1.size ≤ s.size := hbz b1 (by simp)
    have z2 : b2.size ≤ s.size := hbz b2 (by simp)
    have z3 : b3.size ≤ s.size := hbz b3 (by simp)
    have z4 : b4.size ≤ s.size := hbz b4 (by simp)
    have c0 : w2.cell? ⟨g, 0, none⟩ = some (.string b0) := hown.cellAt 0 (by simp)
    have c1 : w2.cell? ⟨g, 1, none⟩ = some (.string b1) := hown.cellAt 1 (by simp)
    have c2 : w2.cell? ⟨g, 2, none⟩ = some (.string b2) := hown.cellAt 2 (by simp)
    have c3 : w2.cell? ⟨g, 3, none⟩ = some (.string b3) := hown.cellAt 3 (by simp)
    have c4 : w2.cell? ⟨g, 4, none⟩ = some (.string b4) := hown.cellAt 4 (by simp)
    have HBL := Lib.hid hbel
    obtain ⟨p0, hp0⟩ : ∃ p0, pfield b0.data.toList 0 59 = p0 := ⟨_, rfl⟩
    obtain ⟨p1, hp1⟩ : ∃ p1, pfield b1.data.toList 0 23 = p1 := ⟨_, rfl⟩
    obtain ⟨p2, hp2⟩ : ∃ p2, pfield b2.data.toList 1 31 = p2 := ⟨_, rfl⟩
    obtain ⟨p3, hp3⟩ : ∃ p3, pfield b3.data.toList 1 12 = p3 := ⟨_, rfl⟩
    obtain ⟨p4, hp4⟩ : ∃ p4, pfield b4.data.toList 0 6 = p4 := ⟨_, rfl⟩
    have HX : Hid (pex s.data.toList = if p0 = 0 ∨ p1 = 0 ∨ p2 = 0 ∨ p3 = 0 ∨ p4 = 0 then none else some ⟨p0, p1, p2, p3, p4, decide (b2.data.toList = [42]), decide (b4.data.toList = [42])⟩) := by
      show _ = _
      have := pex_five (l := s.data.toList) hfl.symm
      rw [this, hp0, hp1, hp2, hp3, hp4]
    have e0 := Lib.hid hp0
    have e1 := Lib.hid hp1
    have e2 := Lib.hid hp2
    have e3 := Lib.hid hp3
    have e4 := Lib.hid hp4
    clear hown hfl hbl hbz hbel hp0 hp1 hp2 hp3 hp4
    simp only [List.length_cons, List.length_nil]
    go_wp2
    have hq0 : w2.heap.size ≤ w2.heap.size := Nat.le_refl _
    have ha0 := alloc_new w2 #[.int .u64 0, .int .u64 0, .int .u64 0, .int .u64 0, .int .u64 0, .bool false, .bool false] 40
    have haF : ∀ o, (w2.alloc (.cells #[.int .u64 0, .int .u64 0, .int .u64 0, .int .u64 0, .int .u64 0, .bool false, .bool false] 40)).frozen? ⟨w2.heap.size, o, none⟩ = false := fun o => World.frozen?_alloc_at _ _ _ o rfl
    have haB : Below w2.heap.size w2 (w2.alloc (.cells #[.int .u64 0, .int .u64 0, .int .u64 0, .int .u64 0, .int .u64 0, .bool false, .bool false] 40)) := bmore (Below.refl _ _) _
    generalize w2.alloc (.cells #[.int .u64 0, .int .u64 0, .int .u64 0, .int .u64 0, .int .u64 0, .bool false, .bool false] 40) = w3 at *
    have hq : w2.heap.size ≤ w2.heap.size := Nat.le_refl _
    go_loopg [6] 5 (fun gk iv wr => ∃ (f x0 x1 x2 x3 x4 : Nat) (ya yb : Bool), iv = .int .i64 f ∧ f ≤ 5 ∧ (∀ o, wr.cell? ⟨w2.heap.size, o, none⟩ = (#[.int .u64 x0, .int .u64 x1, .int .u64 x2, .int .u64 x3, .int .u64 x4, .bool ya, .bool yb] : Array Value)[o]?) ∧ (∀ o, wr.frozen? ⟨w2.heap.size, o, none⟩ = false) ∧ Below w2.heap.size w2 wr ∧
      (0 < f → x0 = p0 ∧ p0 ≠ 0) ∧ (1 < f → x1 = p1 ∧ p1 ≠ 0) ∧ (2 < f → x2 = p2 ∧ p2 ≠ 0) ∧ (3 < f → x3 = p3 ∧ p3 ≠ 0) ∧ (4 < f → x4 = p4 ∧ p4 ≠ 0) ∧ (2 < f → ya = decide (b2.data.toList = [42])) ∧ (4 < f → yb = decide (b4.data.toList = [42])) ∧ gk = 5 - f)
    case atStart => exact ⟨0, 0, 0, 0, 0, 0, false, false, rfl, by omega, ha0, haF, haB, by omega, by omega, by omega, by omega, by omega, by omega, by omega, rfl⟩
    case round =>
      clear ha0 haF haB
      obtain ⟨f, x0, x1, x2, x3, x4, ya, yb, rfl, hf, hcl, hfz, hb, hx0, hx1, hx2, hx3, hx4, hya, hyb, hgk⟩ := hrel
      have HG := Lib.hid hgk
      clear hgk
      have h6 : f = 0 ∨ f = 1 ∨ f = 2 ∨ f = 3 ∨ f = 4 ∨ f = 5 := by omega
      rcases h6 with rfl | rfl | rfl | rfl | rfl | rfl
      · skip
        have hcell : wr.cell? ⟨g, 0, none⟩ = some (.string b0) := (keep0 hb hgl _).trans c0
        go_wp2_with fail
        go_at_call 59
        refine (rfield_any b0 0 _ (by omega) (by omega)).mono ?_
        rintro y w4 ⟨hy, rfl⟩
        unfold RfPost at hy
        rw [show pfield b0.data.toList (loN 0) (hiN 0) = p0 from e0.out] at hy
        by_cases hp : p0 = 0
        · have HP : Hid (pres s = (zeroEx, 25)) := by show _ = _; exact pres_none s hs (by rw [HX.out, if_pos (by omega)])
          have hBx := fun o => (keep0 hb hz2 o).trans (HB.out o)
          have HFx := fun o => (keepF0 hb hz2 o).trans (HFr.out o)
          have hbelx := bthen HBL.out hb
          rw [show (decide (p0 ≠ 0)) = false by simp [hp]] at hy
          subst hy
          clear hp hcl hfz hb hcell
          go_wp2
          have S7 := set7_cells hBx (u0 := .int .u64 0) (u1 := .int .u64 0) (u2 := .int .u64 0) (u3 := .int .u64 0) (u4 := .int .u64 0) (u5 := .bool false) (u6 := .bool false) _ rfl
          exact rpar_ret w.heap.size _ _ _ _ _ _ _ _ _ _ rfl rfl S7 ⟨by show _ = _; rw [HP.out]; rfl, zset7 hbelx⟩
        · have E0 := hp
          have HC := Lib.hid hcl
          have hsome : ∀ o, o < 7 → (wr.cell? ⟨w2.heap.size, o, none⟩).isSome = true := by
            intro o ho
            rw [HC.out o]
            simp [ho]
          have HSM := Lib.hid hsome
          rw [show (decide (p0 ≠ 0)) = true by simp [hp]] at hy
          subst hy
          clear hp hcell
          clear hsome
          go_wp2
          go_roundg (5 - 1)
          case measure => have := HG.out; omega
          case rel =>
            exact ⟨1, p0, x1, x2, x3, x4, ya, yb, rfl, by omega, cells_set hcl 0 (.int .u64 p0) (by simp), fun o => by simp only [World.frozen?_setCell]; exact hfz o, bset hb hq (a := ⟨w2.heap.size, 0, none⟩) _, by intro; exact ⟨rfl, E0⟩, by intro; exact hx1 (by omega), by intro; exact hx2 (by omega), by intro; exact hx3 (by omega), by intro; exact hx4 (by omega), by intro; first | rfl | exact hya (by omega), by intro; first | rfl | exact hyb (by omega), rfl⟩
      · skip
        have hcell : wr.cell? ⟨g, 1, none⟩ = some (.string b1) := (keep0 hb hgl _).trans c1
        go_wp2_with fail
        go_at_call 59
        refine (rfield_any b1 1 _ (by omega) (by omega)).mono ?_
        rintro y w4 ⟨hy, rfl⟩
        unfold RfPost at hy
        rw [show pfield b1.data.toList (loN 1) (hiN 1) = p1 from e1.out] at hy
        by_cases hp : p1 = 0
        · have HP : Hid (pres s = (zeroEx, 25)) := by show _ = _; exact pres_none s hs (by rw [HX.out, if_pos (by omega)])
          have hBx := fun o => (keep0 hb hz2 o).trans (HB.out o)
          have HFx := fun o => (keepF0 hb hz2 o).trans (HFr.out o)
          have hbelx := bthen HBL.out hb
          rw [show (decide (p1 ≠ 0)) = false by simp [hp]] at hy
          subst hy
          clear hp hcl hfz hb hcell
          go_wp2
          have S7 := set7_cells hBx (u0 := .int .u64 0) (u1 := .int .u64 0) (u2 := .int .u64 0) (u3 := .int .u64 0) (u4 := .int .u64 0) (u5 := .bool false) (u6 := .bool false) _ rfl
          exact rpar_ret w.heap.size _ _ _ _ _ _ _ _ _ _ rfl rfl S7 ⟨by show _ = _; rw [HP.out]; rfl, zset7 hbelx⟩
        · have E1 := hp
          have HC := Lib.hid hcl
          have hsome : ∀ o, o < 7 → (wr.cell? ⟨w2.heap.size, o, none⟩).isSome = true := by
            intro o ho
            rw [HC.out o]
            simp [ho]
          have HSM := Lib.hid hsome
          rw [show (decide (p1 ≠ 0)) = true by simp [hp]] at hy
          subst hy
          clear hp hcell
          clear hsome
          go_wp2
          go_roundg (5 - 2)
          case measure => have := HG.out; omega
          case rel =>
            exact ⟨2, x0, p1, x2, x3, x4, ya, yb, rfl, by omega, cells_set hcl 1 (.int .u64 p1) (by simp), fun o => by simp only [World.frozen?_setCell]; exact hfz o, bset hb hq (a := ⟨w2.heap.size, 1, none⟩) _, by intro; exact hx0 (by omega), by intro; exact ⟨rfl, E1⟩, by intro; exact hx2 (by omega), by intro; exact hx3 (by omega), by intro; exact hx4 (by omega), by intro; first | rfl | exact hya (by omega), by intro; first | rfl | exact hyb (by omega), rfl⟩
      · skip
        have hcell : wr.cell? ⟨g, 2, none⟩ = some (.string b2) := (keep0 hb hgl _).trans c2
        go_wp2_with fail
        go_at_call 59
        refine (rfield_any b2 2 _ (by omega) (by omega)).mono ?_
        rintro y w4 ⟨hy, rfl⟩
        unfold RfPost at hy
        rw [show pfield b2.data.toList (loN 2) (hiN 2) = p2 from e2.out] at hy
        by_cases hp : p2 = 0
        · have HP : Hid (pres s = (zeroEx, 25)) := by show _ = _; exact pres_none s hs (by rw [HX.out, if_pos (by omega)])
          have hBx := fun o => (keep0 hb hz2 o).trans (HB.out o)
          have HFx := fun o => (keepF0 hb hz2 o).trans (HFr.out o)
          have hbelx := bthen HBL.out hb
          rw [show (decide (p2 ≠ 0)) = false by simp [hp]] at hy
          subst hy
          clear hp hcl hfz hb hcell
          go_wp2
          have S7 := set7_cells hBx (u0 := .int .u64 0) (u1 := .int .u64 0) (u2 := .int .u64 0) (u3 := .int .u64 0) (u4 := .int .u64 0) (u5 := .bool false) (u6 := .bool false) _ rfl
          exact rpar_ret w.heap.size _ _ _ _ _ _ _ _ _ _ rfl rfl S7 ⟨by show _ = _; rw [HP.out]; rfl, zset7 hbelx⟩
        · have E2 := hp
          have HC := Lib.hid hcl
          have hsome : ∀ o, o < 7 → (wr.cell? ⟨w2.heap.size, o, none⟩).isSome = true := by
            intro o ho
            rw [HC.out o]
            simp [ho]
          have HSM := Lib.hid hsome
          rw [show (decide (p2 ≠ 0)) = true by simp [hp]] at hy
          subst hy
          clear hp hcell
          clear hsome
          go_wp2
          go_roundg (5 - 3)
          case measure => have := HG.out; omega
          case rel =>
            exact ⟨3, x0, x1, p2, x3, x4, (decide (b2.data.toList = [42])), yb, rfl, by omega, cells_set (cells_set hcl 2 (.int .u64 p2) (by simp)) 5 (.bool (decide (b2.data.toList = [42]))) (by simp), fun o => by simp only [World.frozen?_setCell]; exact hfz o, bset (bset hb hq (a := ⟨w2.heap.size, 2, none⟩) _) hq (a := ⟨w2.heap.size, 5, none⟩) _, by intro; exact hx0 (by omega), by intro; exact hx1 (by omega), by intro; exact ⟨rfl, E2⟩, by intro; exact hx3 (by omega), by intro; exact hx4 (by omega), by intro; first | rfl | exact hya (by omega), by intro; first | rfl | exact hyb (by omega), rfl⟩
      · skip
        have hcell : wr.cell? ⟨g, 3, none⟩ = some (.string b3) := (keep0 hb hgl _).trans c3
        go_wp2_with fail
        go_at_call 59
        refine (rfield_any b3 3 _ (by omega) (by omega)).mono ?_
        rintro y w4 ⟨hy, rfl⟩
        unfold RfPost at hy
        rw [show pfield b3.data.toList (loN 3) (hiN 3) = p3 from e3.out] at hy
        by_cases hp : p3 = 0
        · have HP : Hid (pres s = (zeroEx, 25)) := by show _ = _; exact pres_none s hs (by rw [HX.out, if_pos (by omega)])
          have hBx := fun o => (keep0 hb hz2 o).trans (HB.out o)
          have HFx := fun o => (keepF0 hb hz2 o).trans (HFr.out o)
          have hbelx := bthen HBL.out hb
          rw [show (decide (p3 ≠ 0)) = false by simp [hp]] at hy
          subst hy
          clear hp hcl hfz hb hcell
          go_wp2
          have S7 := set7_cells hBx (u0 := .int .u64 0) (u1 := .int .u64 0) (u2 := .int .u64 0) (u3 := .int .u64 0) (u4 := .int .u64 0) (u5 := .bool false) (u6 := .bool false) _ rfl
          exact rpar_ret w.heap.size _ _ _ _ _ _ _ _ _ _ rfl rfl S7 ⟨by show _ = _; rw [HP.out]; rfl, zset7 hbelx⟩
        · have E3 := hp
          have HC := Lib.hid hcl
          have hsome : ∀ o, o < 7 → (wr.cell? ⟨w2.heap.size, o, none⟩).isSome = true := by
            intro o ho
            rw [HC.out o]
            simp [ho]
          have HSM := Lib.hid hsome
          rw [show (decide (p3 ≠ 0)) = true by simp [hp]] at hy
          subst hy
          clear hp hcell
          clear hsome
          go_wp2
          go_roundg (5 - 4)
          case measure => have := HG.out; omega
          case rel =>
            exact ⟨4, x0, x1, x2, p3, x4, ya, yb, rfl, by omega, cells_set hcl 3 (.int .u64 p3) (by simp), fun o => by simp only [World.frozen?_setCell]; exact hfz o, bset hb hq (a := ⟨w2.heap.size, 3, none⟩) _, by intro; exact hx0 (by omega), by intro; exact hx1 (by omega), by intro; exact hx2 (by omega), by intro; exact ⟨rfl, E3⟩, by intro; exact hx4 (by omega), by intro; first | rfl | exact hya (by omega), by intro; first | rfl | exact hyb (by omega), rfl⟩
      · skip
        have hcell : wr.cell? ⟨g, 4, none⟩ = some (.string b4) := (keep0 hb hgl _).trans c4
        go_wp2_with fail
        go_at_call 59
        refine (rfield_any b4 4 _ (by omega) (by omega)).mono ?_
        rintro y w4 ⟨hy, rfl⟩
        unfold RfPost at hy
        rw [show pfield b4.data.toList (loN 4) (hiN 4) = p4 from e4.out] at hy
        by_cases hp : p4 = 0
        · have HP : Hid (pres s = (zeroEx, 25)) := by show _ = _; exact pres_none s hs (by rw [HX.out, if_pos (by omega)])
          have hBx := fun o => (keep0 hb hz2 o).trans (HB.out o)
          have HFx := fun o => (keepF0 hb hz2 o).trans (HFr.out o)
          have hbelx := bthen HBL.out hb
          rw [show (decide (p4 ≠ 0)) = false by simp [hp]] at hy
          subst hy
          clear hp hcl hfz hb hcell
          go_wp2
          have S7 := set7_cells hBx (u0 := .int .u64 0) (u1 := .int .u64 0) (u2 := .int .u64 0) (u3 := .int .u64 0) (u4 := .int .u64 0) (u5 := .bool false) (u6 := .bool false) _ rfl
          exact rpar_ret w.heap.size _ _ _ _ _ _ _ _ _ _ rfl rfl S7 ⟨by show _ = _; rw [HP.out]; rfl, zset7 hbelx⟩
        · have E4 := hp
          have HC := Lib.hid hcl
          have hsome : ∀ o, o < 7 → (wr.cell? ⟨w2.heap.size, o, none⟩).isSome = true := by
            intro o ho
            rw [HC.out o]
            simp [ho]
          have HSM := Lib.hid hsome
          rw [show (decide (p4 ≠ 0)) = true by simp [hp]] at hy
          subst hy
          clear hp hcell
          clear hsome
          go_wp2
          go_roundg (5 - 5)
          case measure => have := HG.out; omega
          case rel =>
            exact ⟨5, x0, x1, x2, x3, p4, ya, (decide (b4.data.toList = [42])), rfl, by omega, cells_set (cells_set hcl 4 (.int .u64 p4) (by simp)) 6 (.bool (decide (b4.data.toList = [42]))) (by simp), fun o => by simp only [World.frozen?_setCell]; exact hfz o, bset (bset hb hq (a := ⟨w2.heap.size, 4, none⟩) _) hq (a := ⟨w2.heap.size, 6, none⟩) _, by intro; exact hx0 (by omega), by intro; exact hx1 (by omega), by intro; exact hx2 (by omega), by intro; exact hx3 (by omega), by intro; exact ⟨rfl, E4⟩, by intro; first | rfl | exact hya (by omega), by intro; first | rfl | exact hyb (by omega), rfl⟩
      · obtain ⟨rfl, k0⟩ := hx0 (by omega)
        obtain ⟨rfl, k1⟩ := hx1 (by omega)
        obtain ⟨rfl, k2⟩ := hx2 (by omega)
        obtain ⟨rfl, k3⟩ := hx3 (by omega)
        obtain ⟨rfl, k4⟩ := hx4 (by omega)
        have HYA := Lib.hid (hya (by omega))
        have HYB := Lib.hid (hyb (by omega))
        have HP : Hid (pres s = (⟨x0, x1, x2, x3, x4, ya, yb⟩, 0)) := by show _ = _; exact pres_some s _ hs (by rw [HX.out, if_neg (by omega), HYA.out, HYB.out])
        have hBx := fun o => (keep0 hb hz2 o).trans (HB.out o)
        have HFx := fun o => (keepF0 hb hz2 o).trans (HFr.out o)
        have hbelx := bthen HBL.out hb
        have d0 := hcl 0
        have d1 := hcl 1
        have d2 := hcl 2
        have d3 := hcl 3
        have d4 := hcl 4
        have d5 := hcl 5
        have d6 := hcl 6
        simp at d0 d1 d2 d3 d4 d5 d6
        clear hcl hfz hb hx0 hx1 hx2 hx3 hx4 hya hyb k0 k1 k2 k3 k4
        go_wp2
        have S7 := set7_cells hBx (u0 := .int .u64 x0) (u1 := .int .u64 x1) (u2 := .int .u64 x2) (u3 := .int .u64 x3) (u4 := .int .u64 x4) (u5 := .bool ya) (u6 := .bool yb) _ rfl
        exact rpar_ret w.heap.size _ _ _ _ _ _ _ _ _ _ rfl rfl S7 ⟨by show _ = _; rw [HP.out]; rfl, zset7 hbelx⟩
set_option maxRecDepth 100000 in
theorem rparse_any (s : ByteArray) (w : World) (hs : s.size ≤ 9223372036854775807) :
    Calls Tryd.prog 17 #[.string s] w fun e w' => ParPost s e ∧ Below w.heap.size w w' := by
  by_cases h : s.size ≤ 100
  · exact rparse_short s w h
  · have HP : Hid (pres s = (zeroEx, 5)) := by show _ = _; rw [pres, if_pos (by omega)]
    have h1 : (100 : Int) < (s.size : Int) := by omega
    go_enter Tryd.func17, Tryd.ntmps17
    go_wp2
    exact rpar_ret w.heap.size _ _ _ _ _ _ _ _ _ _ rfl rfl ⟨alloc_new _ _ _ 0, alloc_new _ _ _ 1, alloc_new _ _ _ 2, alloc_new _ _ _ 3, alloc_new _ _ _ 4, alloc_new _ _ _ 5, alloc_new _ _ _ 6⟩ ⟨by show _ = _; rw [HP.out]; rfl, (Below.refl _ _).alloc (Nat.le_refl _) _⟩
end Go.Proofs.YtdpaiaeaamokeaaDoor.Cron

