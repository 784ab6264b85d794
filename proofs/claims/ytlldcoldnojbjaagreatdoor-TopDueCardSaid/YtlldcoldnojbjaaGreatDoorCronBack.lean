/- An expression's text, read again, is the expression: plain lists of bytes, no program in sight. -/
import Derived.Test.YtlldcoldnojbjaaGreatDoorCronRuns
import Derived.Test.YtlldcoldnojbjaaGreatDoorCronFld
namespace Go.Proofs.YtlldcoldnojbjaaGreatDoor.Cron
open Go.RowKit Go

/-! ### Runs, read -/
theorem dec2_num : ∀ n, n < 100 → pnum (dec2 n) = n := by decide +kernel
theorem dec2_free : ∀ n, n < 100 → ∀ c ∈ dec2 n, c ≠ 45 ∧ c ≠ 44 ∧ c ≠ 42 ∧ isBlank c = false := by decide +kernel
theorem cut1_app (sep : UInt8) : ∀ a b : List UInt8, (∀ c ∈ a, c ≠ sep) → cut1 sep (a ++ sep :: b) = (a, b, true)
  | [], b, _ => by simp [cut1]
  | c :: a, b, h => by
    rw [List.cons_append, cut1, if_neg (h c (by simp)), cut1_app sep a b (fun d hd => h d (by simp [hd]))]
theorem cut1_none (sep : UInt8) : ∀ a : List UInt8, (∀ c ∈ a, c ≠ sep) → cut1 sep a = (a, [], false)
  | [], _ => by simp [cut1]
  | c :: a, h => by
    rw [cut1, if_neg (h c (by simp)), cut1_none sep a (fun d hd => h d (by simp [hd]))]
theorem pitem_run (n e lo hi : Nat) (h1 : lo ≤ n) (h2 : n ≤ e) (h3 : e ≤ hi) (h4 : hi < 100) : pitem (runTxt n e) lo hi = spanN n e := by
  unfold runTxt pitem
  by_cases hne : n < e
  · rw [if_pos hne, cut1_app 45 _ _ (fun c hc => (dec2_free n (by omega) c hc).1)]
    dsimp only
    rw [if_pos rfl, dec2_num n (by omega), dec2_num e (by omega), if_neg (by omega)]; rfl
  · obtain rfl : n = e := by omega
    rw [if_neg hne, cut1_none 45 _ (fun c hc => (dec2_free n (by omega) c hc).1)]
    dsimp only
    simp only [Bool.false_eq_true, if_false]
    rw [dec2_num n (by omega), if_neg (by omega)]; rfl
theorem runTxt_free (n e : Nat) (h : n < 100) (h2 : e < 100) : ∀ c ∈ runTxt n e, c ≠ 44 ∧ c ≠ 42 ∧ isBlank c = false := by
  intro c hc
  unfold runTxt at hc
  split at hc
  · rcases List.mem_append.1 hc with hc | hc
    · exact (dec2_free n h c hc).2
    · rcases List.mem_cons.1 hc with rfl | hc
      · decide
      · exact (dec2_free e h2 c hc).2
  · exact (dec2_free n h c hc).2
theorem runsL_free (b hi : Nat) (hh : hi < 100) : ∀ f n, ∀ x ∈ runsL b hi f n, ∀ c ∈ x, c ≠ 44 ∧ c ≠ 42 ∧ isBlank c = false
  | 0, n => by simp [runsL]
  | f + 1, n => by
    rw [runsL]
    split
    · simp
    · split
      · intro x hx
        rcases List.mem_cons.1 hx with rfl | hx
        · have := rEnd_bd b hi n (by omega)
          exact runTxt_free _ _ (by omega) (by omega)
        · exact runsL_free b hi hh f _ x hx
      · exact runsL_free b hi hh f _
theorem pieces_none (sep : UInt8) : ∀ a : List UInt8, (∀ c ∈ a, c ≠ sep) → pieces sep a = [a]
  | [], _ => rfl
  | c :: a, h => by rw [pieces, if_neg (h c (by simp)), pieces_none sep a (fun d hd => h d (by simp [hd]))]
theorem pieces_app (sep : UInt8) : ∀ a b : List UInt8, (∀ c ∈ a, c ≠ sep) → pieces sep (a ++ sep :: b) = a :: pieces sep b
  | [], b, _ => by simp [pieces]
  | c :: a, b, h => by rw [List.cons_append, pieces, if_neg (h c (by simp)), pieces_app sep a b (fun d hd => h d (by simp [hd]))]
theorem join_cons2 (x y : List UInt8) (r : List (List UInt8)) (sep : List UInt8) : Lib.join (x :: y :: r) sep = x ++ (sep ++ Lib.join (y :: r) sep) := by simp [Lib.join]
theorem join_single (x sep : List UInt8) : Lib.join [x] sep = x := by simp [Lib.join]
theorem pieces_join (sep : UInt8) : ∀ xs : List (List UInt8), xs ≠ [] → (∀ x ∈ xs, ∀ c ∈ x, c ≠ sep) → pieces sep (Lib.join xs [sep]) = xs
  | [], h, _ => absurd rfl h
  | [x], _, h => by rw [join_single]; exact pieces_none sep x (h x (by simp))
  | x :: y :: r, _, h => by
    rw [join_cons2, List.singleton_append, pieces_app sep x _ (h x (by simp)), pieces_join sep (y :: r) (by simp) (fun z hz => h z (by simp at hz ⊢; right; exact hz))]
theorem rEnd_bits (b hi : Nat) : ∀ f n, ∀ i, n < i → i ≤ runEnd b hi f n → b.testBit i = true
  | 0, n, i, h1, h2 => by rw [runEnd] at h2; omega
  | f + 1, n, i, h1, h2 => by
    rw [runEnd] at h2
    split at h2
    · rename_i hb
      by_cases e : i = n + 1
      · subst e; exact hb
      · exact rEnd_bits b hi f (n + 1) i (by omega) h2
    · omega
theorem pitems_runs (b lo hi : Nat) (h4 : hi < 64) : ∀ f n acc, lo ≤ n → hi + 1 - n ≤ f → ∀ i, (pitems lo hi (runsL b hi f n) acc).testBit i = (acc.testBit i || (decide (n ≤ i) && decide (i ≤ hi) && b.testBit i))
  | 0, n, acc, h1, h2, i => by
    rw [runsL, pitems]
    by_cases c : n ≤ i
    · have : ¬ i ≤ hi := by omega
      simp [this]
    · simp [c]
  | f + 1, n, acc, h1, h2, i => by
    rw [runsL]
    by_cases hn : hi < n
    · rw [if_pos hn, pitems]
      by_cases c : n ≤ i
      · have : ¬ i ≤ hi := by omega
        simp [this]
      · simp [c]
    · rw [if_neg hn]
      by_cases hb : b.testBit n = true
      · have bd := rEnd_bd b hi n (by omega)
        rw [if_pos hb, pitems, pitem_run n _ lo hi h1 bd.1 bd.2 (by omega), if_neg (by have := span_pos n (rEnd b hi n) bd.1; omega),
          pitems_runs b lo hi h4 f (rEnd b hi n + 1) _ (by omega) (by omega) i, Nat.testBit_or, span_test n _ i bd.1]
        by_cases c1 : n ≤ i
        · by_cases c2 : i ≤ rEnd b hi n
          · have hbi : b.testBit i = true := by
              by_cases e : i = n
              · subst e; exact hb
              · exact rEnd_bits b hi _ n i (by omega) c2
            have : i ≤ hi := by omega
            simp [c1, c2, hbi, this]
          · have c3 : rEnd b hi n + 1 ≤ i := by omega
            simp [c1, c2, c3]
        · have c3 : ¬ rEnd b hi n + 1 ≤ i := by omega
          simp [c1, c3]
      · have hb' : b.testBit n = false := by simpa using hb
        rw [if_neg hb, pitems_runs b lo hi h4 f (n + 1) acc (by omega) (by omega) i]
        by_cases e : i = n
        · subst e
          simp [hb']
        · by_cases c1 : n ≤ i
          · have : n + 1 ≤ i := by omega
            simp [c1, this]
          · have : ¬ n + 1 ≤ i := by omega
            simp [c1, this]
/-- A set that lies within bounds. -/
def InBd (b lo hi : Nat) : Prop := ∀ i, b.testBit i = true → lo ≤ i ∧ i ≤ hi
theorem toldL_parse (b lo hi : Nat) (h4 : hi < 64) (hb : InBd b lo hi) (h0 : b ≠ 0) : pfield (toldL b lo hi) lo hi = b := by
  have hp := pitems_runs b lo hi h4 (hi + 1 - lo) lo 0 (Nat.le_refl _) (Nat.le_refl _)
  have he : pitems lo hi (rRuns b hi lo) 0 = b := by
    apply Nat.eq_of_testBit_eq
    intro i
    unfold rRuns
    rw [hp i, Nat.zero_testBit, Bool.false_or]
    cases hi' : b.testBit i with
    | false => simp
    | true => have := hb i hi'; simp [this.1, this.2]
  have hne : rRuns b hi lo ≠ [] := by
    intro e; rw [e, pitems] at he; exact h0 he.symm
  have hfree := runsL_free b hi (by omega) (hi + 1 - lo) lo
  have hx : toldL b lo hi ≠ [42] := by
    intro e
    unfold toldL at e
    match hr : rRuns b hi lo, hne with
    | x :: r, _ =>
      rw [hr] at e
      have hx0 := (rRuns_len b hi lo).2 x (by rw [hr]; simp)
      have hm : x.head? = some 42 := by
        cases r with
        | nil => rw [join_single] at e; rw [e]; rfl
        | cons y r => 
          rw [join_cons2] at e
          cases x with
          | nil => exact absurd rfl hx0.2
          | cons c x => simp at e
      cases x with
      | nil => exact absurd rfl hx0.2
      | cons c x =>
        simp at hm
        exact (hfree (c :: x) (by unfold rRuns at hr; rw [hr]; simp) c (by simp)).2.1 hm
  rw [pfield, if_neg hx, toldL, pieces_join 44 _ hne (fun x hx c hc => (hfree x hx c hc).1), he]
theorem toldL_ne (b lo hi : Nat) (hb : InBd b lo hi) (h0 : b ≠ 0) (h4 : hi < 64) : toldL b lo hi ≠ [] := by
  intro e
  have := toldL_parse b lo hi h4 hb h0
  rw [e, pfield, if_neg (by simp), pieces, pitems] at this
  have hz : pitem [] lo hi = 0 := by
    unfold pitem
    exact if_pos (Or.inl (by show (-1 : Int) < lo; omega))
  rw [if_pos hz] at this
  exact h0 this.symm
theorem join_free (sep : List UInt8) (P : UInt8 → Prop) (hs : ∀ c ∈ sep, P c) : ∀ xs : List (List UInt8), (∀ x ∈ xs, ∀ c ∈ x, P c) → ∀ c ∈ Lib.join xs sep, P c
  | [], _ => by simp [Lib.join]
  | [x], h => by rw [join_single]; exact h x (by simp)
  | x :: y :: r, h => by
    rw [join_cons2]
    intro c hc
    rcases List.mem_append.1 hc with hc | hc
    · exact h x (by simp) c hc
    · rcases List.mem_append.1 hc with hc | hc
      · exact hs c hc
      · exact join_free sep P hs (y :: r) (fun z hz => h z (by simp at hz ⊢; right; exact hz)) c hc
theorem toldL_blank (b lo hi : Nat) (h4 : hi < 100) : ∀ c ∈ toldL b lo hi, isBlank c = false :=
  join_free [44] (fun c => isBlank c = false) (by decide) _ (fun x hx c hc => (runsL_free b hi h4 _ _ x hx c hc).2.2)

/-! ### What is read lies within bounds -/
theorem pitem_bd (l : List UInt8) (lo hi : Nat) : InBd (pitem l lo hi) lo hi := by
  intro i h
  unfold pitem at h
  dsimp only at h
  generalize (if (cut1 45 l).2.2 = true then pnum (cut1 45 l).2.1 else pnum (cut1 45 l).1) = y at h
  generalize pnum (cut1 45 l).1 = x at h
  split at h
  · rw [Nat.zero_testBit] at h; cases h
  · rw [span_test _ _ _ (by omega)] at h
    simp at h; omega
theorem pitems_bd (lo hi : Nat) : ∀ (ps : List (List UInt8)) (acc : Nat), InBd acc lo hi → InBd (pitems lo hi ps acc) lo hi
  | [], acc, h => by rw [pitems]; exact h
  | p :: ps, acc, h => by
    rw [pitems]
    split
    · intro i hi'; rw [Nat.zero_testBit] at hi'; cases hi'
    · refine pitems_bd lo hi ps _ (fun i hi' => ?_)
      rw [Nat.testBit_or, Bool.or_eq_true] at hi'
      rcases hi' with k | k
      · exact h i k
      · exact pitem_bd p lo hi i k
theorem span_bd (lo hi : Nat) (h : lo ≤ hi) : InBd (spanN lo hi) lo hi := by
  intro i k
  rw [span_test lo hi i h] at k
  simpa using k
theorem pfield_bd (l : List UInt8) (lo hi : Nat) (h : lo ≤ hi) : InBd (pfield l lo hi) lo hi := by
  unfold pfield
  split
  · exact span_bd lo hi h
  · exact pitems_bd lo hi _ 0 (fun i k => by rw [Nat.zero_testBit] at k; cases k)

/-! ### The whole text -/
def starL (all : Bool) (b lo hi : Nat) : List UInt8 := if all then [42] else toldL b lo hi
/-- An expression's text. -/
def textL (e : Ex) : List UInt8 :=
  Lib.join [starL (decide (e.mi = spanN 0 59)) e.mi 0 59, starL (decide (e.ho = spanN 0 23)) e.ho 0 23, starL e.ad e.da 1 31, starL (decide (e.mo = spanN 1 12)) e.mo 1 12, starL e.aw e.wk 0 6] [32]
/-- What a text that is an expression may give. -/
structure ExFit (e : Ex) : Prop where
  mi : InBd e.mi 0 59 ∧ e.mi ≠ 0
  ho : InBd e.ho 0 23 ∧ e.ho ≠ 0
  da : InBd e.da 1 31 ∧ e.da ≠ 0
  mo : InBd e.mo 1 12 ∧ e.mo ≠ 0
  wk : InBd e.wk 0 6 ∧ e.wk ≠ 0
  ad : e.ad = true → e.da = spanN 1 31
  aw : e.aw = true → e.wk = spanN 0 6
theorem pex_fit (l : List UInt8) (e : Ex) (h : pex l = some e) : ExFit e := by
  unfold pex at h
  split at h
  · rename_i a b c d f _
    split at h
    · cases h
    · rename_i hz
      simp only [not_or] at hz
      obtain rfl := Option.some.inj h
      refine ⟨⟨pfield_bd a _ _ (by omega), hz.1⟩, ⟨pfield_bd b _ _ (by omega), hz.2.1⟩, ⟨pfield_bd c _ _ (by omega), hz.2.2.1⟩, ⟨pfield_bd d _ _ (by omega), hz.2.2.2.1⟩, ⟨pfield_bd f _ _ (by omega), hz.2.2.2.2⟩, fun k => ?_, fun k => ?_⟩
      · have : c = [42] := by simpa using k
        show pfield c 1 31 = _
        rw [pfield, if_pos this]
      · have : f = [42] := by simpa using k
        show pfield f 0 6 = _
        rw [pfield, if_pos this]
  · cases h
theorem starL_ok (all : Bool) (b lo hi : Nat) (h : lo ≤ hi) (h4 : hi < 64) (hb : InBd b lo hi) (h0 : b ≠ 0) (ha : all = true → b = spanN lo hi) :
    starL all b lo hi ≠ [] ∧ (∀ c ∈ starL all b lo hi, isBlank c = false) ∧ pfield (starL all b lo hi) lo hi = b ∧ decide (starL all b lo hi = [42]) = all := by
  cases all with
  | true =>
    refine ⟨by simp [starL], by simp [starL]; decide, ?_, by simp [starL]⟩
    rw [starL, if_pos rfl, pfield, if_pos rfl, ha rfl]
  | false =>
    have e : starL false b lo hi = toldL b lo hi := by simp [starL]
    rw [e]
    refine ⟨toldL_ne b lo hi hb h0 h4, toldL_blank b lo hi (by omega), toldL_parse b lo hi h4 hb h0, ?_⟩
    rw [decide_eq_false_iff_not]
    intro k
    have h5 := toldL_parse b lo hi h4 hb h0
    have h6 : ∀ c ∈ toldL b lo hi, c ≠ 42 := by
      intro c hc
      have := join_free [44] (fun c => c ≠ 42) (by decide) (rRuns b hi lo) (fun x hx c hc => (runsL_free b hi (by omega) _ _ x hx c hc).2.1) c hc
      exact this
    rw [k] at h6
    exact h6 42 (by simp) rfl
theorem flds_five (a b c d e : List UInt8) (ha : a ≠ [] ∧ ∀ x ∈ a, isBlank x = false) (hb : b ≠ [] ∧ ∀ x ∈ b, isBlank x = false) (hc : c ≠ [] ∧ ∀ x ∈ c, isBlank x = false) (hd : d ≠ [] ∧ ∀ x ∈ d, isBlank x = false) (he : e ≠ [] ∧ ∀ x ∈ e, isBlank x = false) :
    flds (Lib.join [a, b, c, d, e] [32]) = [a, b, c, d, e] := by
  have hs : ∀ (st : List (List UInt8) × Bool) (r : List UInt8), (32 :: r).foldl fstep st = r.foldl fstep (st.1, false) := by
    intro st r
    rw [List.foldl_cons]
    congr 1
  rw [join_cons2, join_cons2, join_cons2, join_cons2, join_single]
  simp only [List.singleton_append]
  unfold flds fold
  rw [List.foldl_append, fold_new a [] ha.1 ha.2, hs, List.foldl_append, fold_new b _ hb.1 hb.2, hs, List.foldl_append, fold_new c _ hc.1 hc.2, hs, List.foldl_append, fold_new d _ hd.1 hd.2, hs, fold_new e _ he.1 he.2]
  rfl
theorem text_parse (e : Ex) (h : ExFit e) : pex (textL e) = some e := by
  obtain ⟨⟨m1, m2⟩, ⟨o1, o2⟩, ⟨d1, d2⟩, ⟨n1, n2⟩, ⟨w1, w2⟩, ha, hw⟩ := h
  obtain ⟨a1, a2, a3, -⟩ := starL_ok (decide (e.mi = spanN 0 59)) e.mi 0 59 (by omega) (by omega) m1 m2 (by simp)
  obtain ⟨b1, b2, b3, -⟩ := starL_ok (decide (e.ho = spanN 0 23)) e.ho 0 23 (by omega) (by omega) o1 o2 (by simp)
  obtain ⟨c1, c2, c3, c4⟩ := starL_ok e.ad e.da 1 31 (by omega) (by omega) d1 d2 ha
  obtain ⟨e1, e2, e3, -⟩ := starL_ok (decide (e.mo = spanN 1 12)) e.mo 1 12 (by omega) (by omega) n1 n2 (by simp)
  obtain ⟨f1, f2, f3, f4⟩ := starL_ok e.aw e.wk 0 6 (by omega) (by omega) w1 w2 hw
  unfold pex textL
  rw [flds_five _ _ _ _ _ ⟨a1, a2⟩ ⟨b1, b2⟩ ⟨c1, c2⟩ ⟨e1, e2⟩ ⟨f1, f2⟩]
  dsimp only
  rw [a3, b3, c3, e3, f3, c4, f4, if_neg (by simp [m2, o2, d2, n2, w2])]
end Go.Proofs.YtlldcoldnojbjaaGreatDoor.Cron
