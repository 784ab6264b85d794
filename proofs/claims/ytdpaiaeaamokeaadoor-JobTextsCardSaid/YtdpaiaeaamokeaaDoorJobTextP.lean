/- A job's text is no longer than what was read; what jobs' and runs' texts say: plain lists of bytes, no program in sight. -/
import Derived.Test.YtdpaiaeaamokeaaDoorJobC
namespace Go.Proofs.YtdpaiaeaamokeaaDoor.Job
open Go.RowKit Go Go.Proofs.YtdpaiaeaamokeaaDoor.Cron

/-! ### The shortest way to write a set -/
def bnd (b i : Nat) : Bool := b.testBit i && (decide (i = 0) || !b.testBit (i - 1) || !b.testBit (i + 1))
def wt (n : Nat) : Nat := (dec2 n).length + 1
def Sm (g : Nat → Nat) : Nat → Nat → Nat
  | 0, _ => 0
  | f + 1, n => g n + Sm g f (n + 1)
theorem sm_add (g : Nat → Nat) : ∀ f k n, Sm g (f + k) n = Sm g f n + Sm g k (n + f)
  | 0, k, n => by rw [Nat.zero_add, Sm]; simp
  | f + 1, k, n => by
    rw [show f + 1 + k = (f + k) + 1 by omega, Sm, Sm, sm_add g f k (n + 1), show n + 1 + f = n + (f + 1) by omega, Nat.add_assoc]
theorem sm_mono (g h : Nat → Nat) (hg : ∀ i, g i ≤ h i) : ∀ f n, Sm g f n ≤ Sm h f n
  | 0, _ => Nat.le_refl _
  | f + 1, n => by
    rw [Sm, Sm]
    have := hg n
    have := sm_mono g h hg f (n + 1)
    omega
theorem sm_sum (g h : Nat → Nat) : ∀ f n, Sm (fun i => g i + h i) f n = Sm g f n + Sm h f n
  | 0, _ => rfl
  | f + 1, n => by rw [Sm, Sm, Sm, sm_sum g h f (n + 1)]; omega
theorem sm_gone (x c : Nat) : ∀ f n, x < n → Sm (fun i => if i = x then c else 0) f n = 0
  | 0, _, _ => rfl
  | f + 1, n, h => by rw [Sm, sm_gone x c f (n + 1) (by omega), if_neg (by omega)]
theorem sm_point (x c : Nat) : ∀ f n, Sm (fun i => if i = x then c else 0) f n ≤ c
  | 0, _ => by rw [Sm]; omega
  | f + 1, n => by
    rw [Sm]
    by_cases h : n = x
    · rw [if_pos h, sm_gone x c f (n + 1) (by omega)]; omega
    · rw [if_neg h]
      have := sm_point x c f (n + 1)
      omega
def Wt (b i : Nat) : Nat := if bnd b i then wt i else 0
theorem wt_or (a c i : Nat) : Wt (a ||| c) i ≤ Wt a i + Wt c i := by
  unfold Wt bnd
  simp only [Nat.testBit_or]
  cases a.testBit i <;> cases c.testBit i <;> cases a.testBit (i - 1) <;> cases c.testBit (i - 1) <;> cases a.testBit (i + 1) <;> cases c.testBit (i + 1) <;> cases decide (i = 0) <;> simp
theorem wt_span (x y i : Nat) (h : x ≤ y) : Wt (spanN x y) i ≤ (if i = x then wt x else 0) + (if i = y then (if x < y then wt y else 0) else 0) := by
  unfold Wt bnd
  rw [span_test x y _ h, span_test x y _ h, span_test x y _ h]
  by_cases c : x ≤ i ∧ i ≤ y
  · by_cases e : i = x
    · subst e; rw [if_pos rfl]; split <;> omega
    · by_cases e2 : i = y
      · subst e2
        have hxi : x < i := by omega
        rw [if_neg e, if_pos rfl, if_pos hxi]; split <;> omega
      · have h1 : decide (i = 0) = false := decide_eq_false (by omega)
        have h2 : decide (x ≤ i - 1 ∧ i - 1 ≤ y) = true := decide_eq_true (by omega)
        have h3 : decide (x ≤ i + 1 ∧ i + 1 ≤ y) = true := decide_eq_true (by omega)
        rw [h1, h2, h3]; simp
  · have : decide (x ≤ i ∧ i ≤ y) = false := by simpa using c
    rw [this]; simp
theorem runEnd_stop (b hi : Nat) : ∀ f n, runEnd b hi f n < n + f → b.testBit (runEnd b hi f n + 1) = false
  | 0, n, h => by rw [runEnd] at h; omega
  | f + 1, n, h => by
    rw [runEnd] at h ⊢
    split
    · rename_i hb
      rw [if_pos hb] at h
      exact runEnd_stop b hi f (n + 1) (by omega)
    · rename_i hb
      simpa using hb
theorem rEnd_last (b hi n : Nat) (h : n ≤ hi) (hb : ∀ i, b.testBit i = true → i ≤ hi) : b.testBit (rEnd b hi n + 1) = false := by
  by_cases c : rEnd b hi n < hi
  · unfold rEnd at c ⊢
    exact runEnd_stop b hi _ n (by omega)
  · cases hc : b.testBit (rEnd b hi n + 1) with
    | false => rfl
    | true =>
      have := hb _ hc
      have := rEnd_bd b hi n h
      omega
theorem rEnd_on (b hi n : Nat) (hn : b.testBit n = true) (h : n ≤ hi) : b.testBit (rEnd b hi n) = true := by
  by_cases e : rEnd b hi n = n
  · rw [e]; exact hn
  · have := rEnd_bd b hi n h
    unfold rEnd at e this ⊢
    exact rEnd_bits b hi _ n _ (by omega) (Nat.le_refl _)
theorem runs_wt (b hi : Nat) (hb : ∀ i, b.testBit i = true → i ≤ hi) : ∀ f n, (n = 0 ∨ b.testBit (n - 1) = false ∨ b.testBit n = false) → hi + 1 - n ≤ f →
    ((runsL b hi f n).map (fun x => x.length + 1)).sum ≤ Sm (Wt b) (hi + 1 - n) n
  | 0, n, _, h => by rw [runsL]; simp
  | f + 1, n, hp, h => by
    rw [runsL]
    by_cases hn : hi < n
    · rw [if_pos hn]; simp
    · rw [if_neg hn]
      by_cases hbit : b.testBit n = true
      · rw [if_pos hbit]
        have bd := rEnd_bd b hi n (by omega)
        have hl := rEnd_last b hi n (by omega) hb
        have ho := rEnd_on b hi n hbit (by omega)
        generalize rEnd b hi n = E at *
        have ih := runs_wt b hi hb f (E + 1) (.inr (.inr hl)) (by omega)
        rw [List.map_cons, List.sum_cons, show hi + 1 - n = (E + 1 - n) + (hi + 1 - (E + 1)) by omega, sm_add, show n + (E + 1 - n) = E + 1 by omega]
        have hw1 : Wt b n = wt n := by
          have : bnd b n = true := by
            unfold bnd
            rw [hbit]
            rcases hp with hp | hp | hp
            · simp [hp]
            · simp [hp]
            · rw [hp] at hbit; cases hbit
          unfold Wt; rw [if_pos this]
        have hw2 : Wt b E = wt E := by
          have : bnd b E = true := by unfold bnd; rw [ho, hl]; simp
          unfold Wt; rw [if_pos this]
        have hone : (runTxt n E).length + 1 ≤ Sm (Wt b) (E + 1 - n) n := by
          unfold runTxt
          by_cases c : n < E
          · rw [if_pos c, show E + 1 - n = 1 + ((E - n - 1) + 1) by omega, sm_add, sm_add, show n + 1 + (E - n - 1) = E by omega, Sm, Sm, Sm, Sm, hw1, hw2]
            simp [wt]; omega
          · rw [if_neg c, show E + 1 - n = 1 by omega, Sm, Sm, hw1]
            simp [wt]
        omega
      · have hbit' : b.testBit n = false := by simpa using hbit
        rw [if_neg hbit]
        have ih := runs_wt b hi hb f (n + 1) (.inr (.inl (by simpa using hbit'))) (by omega)
        rw [show hi + 1 - n = (hi + 1 - (n + 1)) + 1 by omega, Sm]
        omega
theorem join_sum (s : UInt8) : ∀ xs : List (List UInt8), xs ≠ [] → (Lib.join xs [s]).length + 1 = (xs.map (fun x => x.length + 1)).sum
  | [], h => absurd rfl h
  | [x], _ => by simp [Lib.join]
  | x :: y :: r, _ => by
    have := join_sum s (y :: r) (by simp)
    rw [join_cons2, List.map_cons, List.sum_cons, ← this]
    simp; omega
theorem toldL_wt (b lo hi : Nat) (hb : InBd b lo hi) : (toldL b lo hi).length + 1 ≤ Sm (Wt b) (hi + 1) 0 + 1 ∧ (rRuns b hi lo ≠ [] → (toldL b lo hi).length + 1 ≤ Sm (Wt b) (hi + 1) 0) := by
  by_cases hlo : lo ≤ hi + 1
  · have h1 := runs_wt b hi (fun i h => (hb i h).2) (hi + 1 - lo) lo (by
      by_cases c : lo = 0
      · exact .inl c
      · refine .inr (.inl ?_)
        cases hc : b.testBit (lo - 1) with
        | false => rfl
        | true => have := (hb _ hc).1; omega) (Nat.le_refl _)
    have h2 := sm_add (Wt b) lo (hi + 1 - lo) 0
    rw [show lo + (hi + 1 - lo) = hi + 1 by omega, Nat.zero_add] at h2
    have key : rRuns b hi lo ≠ [] → (toldL b lo hi).length + 1 ≤ Sm (Wt b) (hi + 1) 0 := by
      intro hne
      have := join_sum 44 (rRuns b hi lo) hne
      unfold toldL
      rw [this]
      unfold rRuns
      omega
    refine ⟨?_, key⟩
    by_cases c : rRuns b hi lo = []
    · unfold toldL; rw [c]; simp [Lib.join]
    · have := key c; omega
  · have e : rRuns b hi lo = [] := rRuns_end b hi lo (by omega)
    refine ⟨?_, fun h => absurd e h⟩
    unfold toldL; rw [e]; simp [Lib.join]
theorem pnum_len (p : List UInt8) (n : Nat) (h : pnum p = n) : (dec2 n).length ≤ p.length := by
  unfold pnum at h
  split at h
  · omega
  · rename_i hl
    split at h
    · rename_i ha
      have hv : dval p = n := by omega
      have := dval_lt p ha
      unfold dec2
      split
      · simp; omega
      · match p, hl, this with
        | [], hl, _ => simp at hl
        | [c], _, this => simp at this; omega
        | [c, d], _, _ => simp
        | c :: d :: x :: r, hl, _ => simp at hl
    · omega
theorem pitem_wt (p : List UInt8) (lo hi : Nat) (h : pitem p lo hi ≠ 0) (k : Nat) : Sm (Wt (pitem p lo hi)) k 0 ≤ p.length + 1 := by
  obtain ⟨s1, s2, s3⟩ := cut1_spec 45 p
  unfold pitem at h ⊢
  dsimp only at h ⊢
  generalize cut1 45 p = q at *
  obtain ⟨p1, p2, two⟩ := q
  dsimp only at *
  have main : ∀ (x y : Nat), x ≤ y → wt x + (if x < y then wt y else 0) ≤ p.length + 1 → Sm (Wt (spanN x y)) k 0 ≤ p.length + 1 := by
    intro x y hxy hl
    have h1 := sm_mono _ _ (fun i => wt_span x y i hxy) k 0
    rw [sm_sum] at h1
    have h2 := sm_point x (wt x) k 0
    have h3 := sm_point y (if x < y then wt y else 0) k 0
    omega
  cases two with
  | false =>
    obtain rfl := s3 rfl
    simp only [Bool.false_eq_true, if_false] at h ⊢
    split at h
    · exact absurd rfl h
    · rename_i hc
      rw [if_neg hc]
      have hr := pnum_range p
      have := pnum_len p (pnum p).toNat (by omega)
      exact main _ _ (Nat.le_refl _) (by rw [if_neg (by omega)]; unfold wt; omega)
  | true =>
    have hp := s2 rfl
    simp only [if_true] at h ⊢
    split at h
    · exact absurd rfl h
    · rename_i hc
      rw [if_neg hc]
      have a := pnum_len p1 (pnum p1).toNat (by omega)
      have b := pnum_len p2 (pnum p2).toNat (by omega)
      have hl := congrArg List.length hp
      simp at hl
      refine main _ _ (by omega) ?_
      unfold wt
      split <;> omega
theorem pitems_wt (lo hi k : Nat) : ∀ (ps : List (List UInt8)) (acc : Nat), (∀ p ∈ ps, pitem p lo hi ≠ 0) → Sm (Wt (pitems lo hi ps acc)) k 0 ≤ Sm (Wt acc) k 0 + (ps.map (fun x => x.length + 1)).sum
  | [], acc, _ => by rw [pitems]; simp
  | p :: ps, acc, h => by
    have hp := h p (by simp)
    rw [pitems, if_neg hp, List.map_cons, List.sum_cons]
    have h1 := pitems_wt lo hi k ps (acc ||| pitem p lo hi) (fun q hq => h q (by simp [hq]))
    have h2 := sm_mono _ _ (fun i => wt_or acc (pitem p lo hi) i) k 0
    rw [sm_sum] at h2
    have h3 := pitem_wt p lo hi hp k
    omega
theorem wt_zero : ∀ k n, Sm (Wt 0) k n = 0
  | 0, _ => rfl
  | k + 1, n => by rw [Sm, wt_zero k (n + 1)]; simp [Wt, bnd]
theorem field_le (l : List UInt8) (lo hi : Nat) (hlh : lo ≤ hi) (h4 : hi < 64) (h0 : pfield l lo hi ≠ 0) (h : l ≠ [42]) : (toldL (pfield l lo hi) lo hi).length ≤ l.length := by
  have hb := pfield_bd l lo hi hlh
  have h1 := (toldL_wt _ lo hi hb).2 (by
    intro e
    have := toldL_ne _ lo hi hb h0 h4
    exact this (by unfold toldL; rw [e]; rfl))
  have h2 := h0
  rw [pfield, if_neg h] at h1 h2 ⊢
  have hall := (pitems_zero lo hi (pieces 44 l) 0 (Cron.pieces_ne 44 l)).resolve_left h2
  have h3 := pitems_wt lo hi (hi + 1) (pieces 44 l) 0 hall.2
  rw [wt_zero] at h3
  have h5 := join_sum 44 (pieces 44 l) (Cron.pieces_ne 44 l)
  rw [join_pieces] at h5
  omega
theorem star_le (l : List UInt8) (lo hi : Nat) (all : Bool) (hlh : lo ≤ hi) (h4 : hi < 64) (h0 : pfield l lo hi ≠ 0) (h : all = false → l ≠ [42]) : (starL all (pfield l lo hi) lo hi).length ≤ l.length := by
  cases all with
  | true =>
    have : l ≠ [] := by
      rintro rfl
      apply h0
      rw [pfield, if_neg (by simp), pieces, pitems]
      have hz : pitem [] lo hi = 0 := by
        unfold pitem
        exact if_pos (Or.inl (by show (-1 : Int) < lo; omega))
      rw [if_pos hz]
    cases l with
    | nil => exact absurd rfl this
    | cons c r => simp [starL]
  | false =>
    have e : starL false (pfield l lo hi) lo hi = toldL (pfield l lo hi) lo hi := by simp [starL]
    rw [e]
    exact field_le l lo hi hlh h4 h0 (h rfl)
theorem fold_len (l : List UInt8) : ((fold l).1.map List.length).sum + (fold l).1.length ≤ l.length + (if (fold l).2 then 1 else 0) := by
  have key : ∀ (m : List UInt8) (st : List (List UInt8) × Bool) (k : Nat), (st.2 = true → st.1 ≠ []) → (st.1.map List.length).sum + st.1.length ≤ k + (if st.2 then 1 else 0) →
      ((m.foldl fstep st).1.map List.length).sum + (m.foldl fstep st).1.length ≤ (k + m.length) + (if (m.foldl fstep st).2 then 1 else 0) := by
    intro m
    induction m with
    | nil => intro st k _ h; exact h
    | cons c m ih =>
      intro st k hne h
      rw [List.foldl_cons]
      have := ih (fstep st c) (k + 1) ?_ ?_
      · rw [List.length_cons]; rw [show k + (m.length + 1) = k + 1 + m.length by omega]; exact this
      · unfold fstep
        split
        · simp
        · split <;> simp
      · obtain ⟨bs, i⟩ := st
        unfold fstep
        dsimp only at *
        split
        · cases i <;> simp at h ⊢ <;> omega
        · cases i with
          | true =>
            obtain ⟨cs, x, rfl⟩ : ∃ cs x, bs = cs ++ [x] := ⟨bs.dropLast, bs.getLast (hne rfl), (List.dropLast_concat_getLast (hne rfl)).symm⟩
            simp at h ⊢
            omega
          | false =>
            simp at h ⊢
            omega
  have := key l ([], false) 0 (by simp) (by simp)
  rw [Nat.zero_add] at this
  exact this
theorem pex_len (l : List UInt8) (e : Ex) (h : pex l = some e) : (textL e).length ≤ l.length := by
  have hl := fold_len l
  unfold pex flds at h
  split at h
  · rename_i a b c d f hf
    split at h
    · cases h
    · rename_i hz
      simp only [not_or] at hz
      obtain ⟨z1, z2, z3, z4, z5⟩ := hz
      obtain rfl := Option.some.inj h
      rw [hf] at hl
      have k1 := star_le a 0 59 (decide (pfield a 0 59 = spanN 0 59)) (by omega) (by omega) z1 (by
        intro k e; rw [e, pfield, if_pos rfl] at k; simp at k)
      have k2 := star_le b 0 23 (decide (pfield b 0 23 = spanN 0 23)) (by omega) (by omega) z2 (by
        intro k e; rw [e, pfield, if_pos rfl] at k; simp at k)
      have k3 := star_le c 1 31 (decide (c = [42])) (by omega) (by omega) z3 (by intro k; simpa using k)
      have k4 := star_le d 1 12 (decide (pfield d 1 12 = spanN 1 12)) (by omega) (by omega) z4 (by
        intro k e; rw [e, pfield, if_pos rfl] at k; simp at k)
      have k5 := star_le f 0 6 (decide (f = [42])) (by omega) (by omega) z5 (by intro k; simpa using k)
      have hj := join_sum 32 [starL (decide (pfield a 0 59 = spanN 0 59)) (pfield a 0 59) 0 59, starL (decide (pfield b 0 23 = spanN 0 23)) (pfield b 0 23) 0 23, starL (decide (c = [42])) (pfield c 1 31) 1 31, starL (decide (pfield d 1 12 = spanN 1 12)) (pfield d 1 12) 1 12, starL (decide (f = [42])) (pfield f 0 6) 0 6] (by simp)
      have hj2 : (textL ⟨pfield a 0 59, pfield b 0 23, pfield c 1 31, pfield d 1 12, pfield f 0 6, decide (c = [42]), decide (f = [42])⟩).length + 1 = _ := hj
      simp only [List.map_cons, List.map_nil, List.sum_cons, List.sum_nil] at hj2
      simp at hl
      split at hl <;> omega
  · cases h
theorem pres_fitJ (s : ByteArray) (e : Ex) (h : pres s = (e, 0)) : ExFit e ∧ (textL e).length ≤ 100 := by
  unfold pres at h
  split at h
  · simp at h
  · rename_i hs
    split at h
    · simp at h
    · rename_i e' he
      simp at h
      subst h
      refine ⟨pex_fit _ _ he, ?_⟩
      have := pex_len _ _ he
      have h2 : s.data.toList.length = s.size := by rw [Array.length_toList]; rfl
      omega
/-- An expression's text, read, is the expression. -/
theorem pres_back (s T : ByteArray) (e : Ex) (h : pres s = (e, 0)) (hT : T.data.toList = textL e) : pres T = (e, 0) := by
  obtain ⟨a, b⟩ := pres_fitJ s e h
  have h2 : T.data.toList.length = T.size := by rw [Array.length_toList]; rfl
  exact pres_some T e (by rw [hT] at h2; omega) (by rw [hT]; exact text_parse e a)

/-! ### Jobs -/
noncomputable def chk (nm cr : ByteArray) (p dl kp : Int) : Int := if nameB nm = true ∧ 0 ≤ p ∧ p ≤ 2 ∧ 1 ≤ dl ∧ dl ≤ 10080 ∧ 0 ≤ kp ∧ kp ≤ 20 then (pres cr).2 else 26
theorem chk_zero {nm cr : ByteArray} {p dl kp : Int} (h : chk nm cr p dl kp = 0) : (nameB nm = true ∧ 0 ≤ p ∧ p ≤ 2 ∧ 1 ≤ dl ∧ dl ≤ 10080 ∧ 0 ≤ kp ∧ kp ≤ 20) ∧ (pres cr).2 = 0 := by
  unfold chk at h
  split at h
  · rename_i hc; exact ⟨hc, h⟩
  · cases h
/-- A text is a job's. -/
def JP (s nm cr : ByteArray) (p dl kp : Int) (sus : Bool) : Prop :=
  sp 5 [] s.data.toList = [nm.data.toList, Lib.itoa p, Lib.itoa dl, Lib.itoa kp, Lib.itoa (if sus then 1 else 0), cr.data.toList] ∧ chk nm cr p dl kp = 0 ∧ encL nm.data.toList (pres cr).1 p dl kp sus = s.data.toList
theorem sp_app (m : Nat) (a b : List UInt8) (ha : ∀ c ∈ a, c ≠ 32) : sp (m + 1) [] (a ++ 32 :: b) = a :: sp m [] b := by
  rw [sp_cut, cut1_app 32 a b ha]
  simp
theorem enc_sp (nm : List UInt8) (e : Ex) (p dl kp : Int) (sus : Bool) (hn : ∀ c ∈ nm, c ≠ 32) : sp 5 [] (encL nm e p dl kp sus) = [nm, Lib.itoa p, Lib.itoa dl, Lib.itoa kp, Lib.itoa (if sus then 1 else 0), textL e] := by
  have e1 : encL nm e p dl kp sus = nm ++ 32 :: (Lib.itoa p ++ 32 :: (Lib.itoa dl ++ 32 :: (Lib.itoa kp ++ 32 :: (Lib.itoa (if sus then 1 else 0) ++ 32 :: textL e)))) := by
    unfold encL minL
    simp [Lib.join]
  rw [e1, sp_app 4 _ _ hn, sp_app 3 _ _ (itoa_free p), sp_app 2 _ _ (itoa_free dl), sp_app 1 _ _ (itoa_free kp), sp_app 0 _ _ (itoa_free _), sp_zero]
  rfl
theorem bytes_ext {a b : ByteArray} (h : a.data.toList = b.data.toList) : a = b := ByteArray.ext (Array.toList_inj.1 h)
theorem itoa_inj {a b : Int} (ha : -1000000000000000000 < a ∧ a < 1000000000000000000) (hb : -1000000000000000000 < b ∧ b < 1000000000000000000) (h : Lib.itoa a = Lib.itoa b) : a = b := by
  have h1 := jnum_itoa a ha.1 ha.2
  rw [h, jnum_itoa b hb.1 hb.2] at h1
  exact (Option.some.inj h1).symm
theorem JP.uniq {s nm cr nm' cr' : ByteArray} {p dl kp p' dl' kp' : Int} {sus sus' : Bool} (h : JP s nm cr p dl kp sus) (h' : JP s nm' cr' p' dl' kp' sus') : nm = nm' ∧ cr = cr' ∧ p = p' ∧ dl = dl' ∧ kp = kp' ∧ sus = sus' := by
  obtain ⟨a, b, -⟩ := h
  obtain ⟨a', b', -⟩ := h'
  obtain ⟨⟨_, r1, r2, r3, r4, r5, r6⟩, _⟩ := chk_zero b
  obtain ⟨⟨_, q1, q2, q3, q4, q5, q6⟩, _⟩ := chk_zero b'
  rw [a] at a'
  simp only [List.cons.injEq] at a'
  obtain ⟨e1, e2, e3, e4, e5, e6, -⟩ := a'
  refine ⟨bytes_ext e1, bytes_ext e6, itoa_inj (by omega) (by omega) e2, itoa_inj (by omega) (by omega) e3, itoa_inj (by omega) (by omega) e4, ?_⟩
  have := itoa_inj (by split <;> omega) (by split <;> omega) e5
  cases sus <;> cases sus' <;> simp at this ⊢
/-- What may be, is a job's text. -/
theorem JP_enc (nm cr T U : ByteArray) (p dl kp : Int) (sus : Bool) (h : chk nm cr p dl kp = 0) (hT : T.data.toList = encL nm.data.toList (pres cr).1 p dl kp sus) (hU : U.data.toList = textL (pres cr).1) : JP T nm U p dl kp sus ∧ pres U = ((pres cr).1, 0) := by
  obtain ⟨⟨r0, r1, r2, r3, r4, r5, r6⟩, hc⟩ := chk_zero h
  have hp : pres U = ((pres cr).1, 0) := pres_back cr U _ (by rw [← hc]) hU
  refine ⟨⟨?_, ?_, ?_⟩, hp⟩
  · rw [hT, enc_sp _ _ _ _ _ _ (name_free nm r0), hU]
  · unfold chk; rw [if_pos ⟨r0, r1, r2, r3, r4, r5, r6⟩, hp]
  · rw [hp, hT]
/-- Pieces that say a job. -/
theorem JP_of (s W0 W1 W2 W3 W4 W5 : ByteArray) (p dl kp : Int) (sus : Bool) (hs : sp 5 [] s.data.toList = [W0.data.toList, W1.data.toList, W2.data.toList, W3.data.toList, W4.data.toList, W5.data.toList])
    (h1 : jnum W1.data.toList = some p) (h2 : jnum W2.data.toList = some dl) (h3 : jnum W3.data.toList = some kp) (hc : chk W0 W5 p dl kp = 0) (he : encL W0.data.toList (pres W5).1 p dl kp sus = s.data.toList) : JP s W0 W5 p dl kp sus := by
  obtain ⟨⟨r0, -⟩, -⟩ := chk_zero hc
  have hsp := enc_sp W0.data.toList (pres W5).1 p dl kp sus (name_free W0 r0)
  rw [he, hs] at hsp
  simp only [List.cons.injEq] at hsp
  refine ⟨?_, hc, he⟩
  rw [hs, hsp.2.1, hsp.2.2.1, hsp.2.2.2.1, hsp.2.2.2.2.1]
def JobPost (s : ByteArray) (x : Ending) : Prop :=
  (∃ nm cr p dl kp sus, JP s nm cr p dl kp sus ∧ x = .returned (.tuple #[jobV nm cr p dl kp sus, .int .i64 0])) ∨ ((¬ ∃ nm cr p dl kp sus, JP s nm cr p dl kp sus) ∧ x = .returned (.tuple #[jobV ⟨#[]⟩ ⟨#[]⟩ 0 0 0 false, .int .i64 11]))
theorem JobPost.uniq {s : ByteArray} {x y : Ending} (h : JobPost s x) (h' : JobPost s y) : x = y := by
  rcases h with ⟨nm, cr, p, dl, kp, sus, hj, rfl⟩ | ⟨hn, rfl⟩
  · rcases h' with ⟨nm', cr', p', dl', kp', sus', hj', rfl⟩ | ⟨hn', rfl⟩
    · obtain ⟨rfl, rfl, rfl, rfl, rfl, rfl⟩ := hj.uniq hj'
      rfl
    · exact absurd ⟨_, _, _, _, _, _, hj⟩ hn'
  · rcases h' with ⟨nm', cr', p', dl', kp', sus', hj', rfl⟩ | ⟨hn', rfl⟩
    · exact absurd ⟨_, _, _, _, _, _, hj'⟩ hn
    · rfl
/-- The numbers of a job's pieces. -/
theorem JP_nums {s nm cr : ByteArray} {p dl kp : Int} {sus : Bool} (W0 W1 W2 W3 W4 W5 : ByteArray) (h : JP s nm cr p dl kp sus) (hs : sp 5 [] s.data.toList = [W0.data.toList, W1.data.toList, W2.data.toList, W3.data.toList, W4.data.toList, W5.data.toList]) :
    nm = W0 ∧ cr = W5 ∧ jnum W1.data.toList = some p ∧ jnum W2.data.toList = some dl ∧ jnum W3.data.toList = some kp ∧ jnum W4.data.toList = some (if sus then 1 else 0) ∧ (W4.data.toList = [49] ↔ sus = true) := by
  obtain ⟨a, b, -⟩ := h
  obtain ⟨⟨_, r1, r2, r3, r4, r5, r6⟩, _⟩ := chk_zero b
  rw [hs] at a
  simp only [List.cons.injEq] at a
  obtain ⟨e1, e2, e3, e4, e5, e6, -⟩ := a
  refine ⟨(bytes_ext e1).symm, (bytes_ext e6).symm, by rw [e2]; exact jnum_itoa p (by omega) (by omega), by rw [e3]; exact jnum_itoa dl (by omega) (by omega), by rw [e4]; exact jnum_itoa kp (by omega) (by omega), by rw [e5]; exact jnum_itoa _ (by split <;> omega) (by split <;> omega), ?_⟩
  rw [e5]
  cases sus
  · have : Lib.itoa 0 = [48] := by rw [show Lib.itoa 0 = dec2 0 from itoa_small 0 (by omega)]; rfl
    simp [this]
  · have : Lib.itoa 1 = [49] := by rw [show Lib.itoa 1 = dec2 1 from itoa_small 1 (by omega)]; rfl
    simp [this]

/-! ### Runs -/
theorem cut_list (s : ByteArray) : (cutN s).data.toList = (cut1 32 s.data.toList).1 := rfl
theorem run_pieces (s : ByteArray) (a b c : Int) : told (cutR s) = some [a, b, c] ↔ ∃ w1 w2 w3, sp 3 [] s.data.toList = [(cutN s).data.toList, w1, w2, w3] ∧ jnum w1 = some a ∧ jnum w2 = some b ∧ jnum w3 = some c := by
  constructor
  · intro h
    obtain ⟨h1, ha, hb, hc⟩ := told_back _ a b c h
    have hr := run_back s a b c h
    have hf := (cut1_spec 32 s.data.toList).1
    have e1 : s.data.toList = (cutN s).data.toList ++ 32 :: (Lib.itoa a ++ 32 :: (Lib.itoa b ++ 32 :: Lib.itoa c)) := by
      rw [← hr]; unfold runL minL; simp [Lib.join]
    refine ⟨Lib.itoa a, Lib.itoa b, Lib.itoa c, ?_, jnum_itoa a ha.1 ha.2, jnum_itoa b hb.1 hb.2, jnum_itoa c hc.1 hc.2⟩
    have e2 := sp_app 2 (cutN s).data.toList (Lib.itoa a ++ 32 :: (Lib.itoa b ++ 32 :: Lib.itoa c)) hf
    rw [← e1] at e2
    rw [e2, sp_app 1 _ _ (itoa_free a), sp_app 0 _ _ (itoa_free b), sp_zero]
    rfl
  · rintro ⟨w1, w2, w3, h, h1, h2, h3⟩
    obtain ⟨i1, -⟩ := itoa_jnum w1 a h1
    obtain ⟨i2, -⟩ := itoa_jnum w2 b h2
    obtain ⟨i3, r3⟩ := itoa_jnum w3 c h3
    have g1 := itoa_jnum w1 a h1
    have g2 := itoa_jnum w2 b h2
    rw [sp_cut] at h
    split at h
    · simp only [List.nil_append, List.cons.injEq] at h
      obtain ⟨-, h⟩ := h
      have hR : (cut1 32 s.data.toList).2.1 = cutR s := rfl
      rw [hR] at h
      have hm : cutR s = minL [a, b, c] := by
        rw [sp_cut] at h
        have c1 := cut1_spec 32 (cutR s)
        split at h
        · rename_i t1
          simp only [List.nil_append, List.cons.injEq] at h
          obtain ⟨k1, h⟩ := h
          rw [sp_cut] at h
          have c2 := cut1_spec 32 (cut1 32 (cutR s)).2.1
          split at h
          · rename_i t2
            simp only [List.nil_append, List.cons.injEq] at h
            obtain ⟨k2, h⟩ := h
            rw [sp_zero] at h
            simp only [List.nil_append, List.cons.injEq, and_true] at h
            rw [c1.2.1 t1, c2.2.1 t2, k1, k2, h, ← i1, ← i2, ← i3]
            unfold minL; simp [Lib.join]
          · simp at h
        · simp at h
      rw [hm]
      exact told_minL a b c g1.2 g2.2 r3
    · simp at h
theorem PrunPost.uniq {s : ByteArray} {x y : Ending} (h : PrunPost s x) (h' : PrunPost s y) : x = y := by
  rcases h with ⟨a, b, c, ⟨h1, h2⟩, rfl⟩ | ⟨hn, rfl⟩
  · rcases h' with ⟨a', b', c', ⟨h1', h2'⟩, rfl⟩ | ⟨hn', rfl⟩
    · rw [h1] at h1'
      simp only [Option.some.injEq, List.cons.injEq] at h1'
      obtain ⟨rfl, rfl, rfl, -⟩ := h1'
      rfl
    · exact absurd ⟨_, _, _, h1, h2⟩ hn'
  · rcases h' with ⟨a', b', c', h1', rfl⟩ | ⟨hn', rfl⟩
    · exact absurd ⟨_, _, _, h1'⟩ hn
    · rfl
end Go.Proofs.YtdpaiaeaamokeaaDoor.Job
