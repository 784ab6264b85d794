/- JobBack, walked. -/
import Derived.Test.YtggcnbdpobbkaaaDoorJobParseRun
import Derived.Test.YtggcnbdpobbkaaaDoorJobLawNames
namespace Go.Proofs.YtggcnbdpobbkaaaDoor.Job
open Go.RowKit Go Go.Proofs.YtggcnbdpobbkaaaDoor.Cron Go.Proofs.YtggcnbdpobbkaaaDoor.Cal

theorem cut1_spec2 : ∀ l : List UInt8, ((cut1 32 l).2.2 = true → l = (cut1 32 l).1 ++ 32 :: (cut1 32 l).2.1) ∧ (∀ c ∈ (cut1 32 l).1, c ≠ 32) ∧ ((cut1 32 l).2.2 = false → (cut1 32 l).2.1 = [])
  | [] => by simp [cut1]
  | c :: l => by
    rw [cut1]
    by_cases h : c = 32
    · subst h; simp
    · rw [if_neg h]
      obtain ⟨a, b, d⟩ := cut1_spec2 l
      refine ⟨fun k => ?_, ?_, fun k => d k⟩
      · have := a k; simp; exact this
      · intro x hx
        simp at hx
        rcases hx with rfl | hx
        · exact h
        · exact b x hx
/-! ### What was written is read; what is read was so written -/
theorem itoa_free (n : Int) : ∀ c ∈ Lib.itoa n, c ≠ 32 := by
  have key : ∀ u : Nat, ∀ c ∈ Lib.decDigits u, c ≠ 32 := by
    intro u c hc e
    have := List.all_eq_true.1 (dec_dig u) c hc
    rw [e] at this
    exact absurd this (by decide)
  intro c hc
  unfold Lib.itoa at hc
  split at hc
  · rcases List.mem_cons.1 hc with rfl | hc
    · decide
    · exact key _ c hc
  · exact key _ c hc
theorem told_minL (a b c : Int) (ha : -1000000000000000000 < a ∧ a < 1000000000000000000) (hb : -1000000000000000000 < b ∧ b < 1000000000000000000) (hc : -1000000000000000000 < c ∧ c < 1000000000000000000) : told (minL [a, b, c]) = some [a, b, c] := by
  have hp : pieces 32 (minL [a, b, c]) = [Lib.itoa a, Lib.itoa b, Lib.itoa c] := by
    unfold minL
    rw [pieces_join 32 _ (by simp) (by
      intro x hx
      simp at hx
      rcases hx with rfl | rfl | rfl
      · exact itoa_free a
      · exact itoa_free b
      · exact itoa_free c)]
    rfl
  have hne : minL [a, b, c] ≠ [] := by
    intro e
    rw [e] at hp
    simp [pieces] at hp
  rw [told, if_neg hne, hp]
  exact jall_some _ _ (by simp [jnum_itoa a ha.1 ha.2, jnum_itoa b hb.1 hb.2, jnum_itoa c hc.1 hc.2])
theorem pieces_ne (sep : UInt8) : ∀ l : List UInt8, pieces sep l ≠ []
  | [] => by simp [pieces]
  | d :: r => by
    rw [pieces]
    split
    · simp
    · split <;> simp
theorem join_pieces (sep : UInt8) : ∀ l : List UInt8, Lib.join (pieces sep l) [sep] = l
  | [] => by simp [pieces, Lib.join]
  | c :: l => by
    have ih := join_pieces sep l
    rw [pieces]
    split
    · rename_i h
      subst h
      match hp : pieces c l with
      | [] => exact absurd hp (pieces_ne c l)
      | x :: r => rw [join_cons2, ← hp, ih]; rfl
    · match hp : pieces sep l with
      | [] => exact absurd hp (pieces_ne sep l)
      | x :: r =>
        rw [hp] at ih
        dsimp only
        cases r with
        | nil => rw [join_single] at ih ⊢; rw [ih]
        | cons y t => rw [join_cons2] at ih ⊢; rw [List.cons_append, ih]
theorem jall_itoa : ∀ (ps : List (List UInt8)) (ns : List Int), jall ps = some ns → ns.map Lib.itoa = ps ∧ ∀ n ∈ ns, -1000000000000000000 < n ∧ n < 1000000000000000000
  | [], ns, h => by simp [jall] at h; subst h; simp
  | p :: ps, ns, h => by
    rw [jall] at h
    cases hp : jnum p with
    | none => rw [hp] at h; cases h
    | some n =>
      cases hps : jall ps with
      | none => rw [hp, hps] at h; cases h
      | some ms =>
        rw [hp, hps] at h
        obtain rfl := Option.some.inj h
        obtain ⟨a, b⟩ := jall_itoa ps ms hps
        obtain ⟨c, d⟩ := itoa_jnum p n hp
        refine ⟨by rw [List.map_cons, a, c], fun m hm => ?_⟩
        rcases List.mem_cons.1 hm with rfl | hm
        · exact d
        · exact b m hm
theorem told_back (l : List UInt8) (a b c : Int) (h : told l = some [a, b, c]) : minL [a, b, c] = l ∧ (-1000000000000000000 < a ∧ a < 1000000000000000000) ∧ (-1000000000000000000 < b ∧ b < 1000000000000000000) ∧ -1000000000000000000 < c ∧ c < 1000000000000000000 := by
  unfold told at h
  split at h
  · cases h
  · obtain ⟨e, f⟩ := jall_itoa _ _ h
    refine ⟨?_, f a (by simp), f b (by simp), f c (by simp)⟩
    unfold minL
    rw [e, join_pieces]
/-- A text that is a run's is the run's text. -/
theorem run_back (s : ByteArray) (a b c : Int) (h : told (cutR s) = some [a, b, c]) : runL (cutN s).data.toList a b c = s.data.toList := by
  have h1 := (told_back _ a b c h).1
  have h2 := (cut1_spec2 s.data.toList)
  unfold runL
  rw [h1]
  have hc : (cut1 32 s.data.toList).2.2 = true := by
    cases hq : (cut1 32 s.data.toList).2.2 with
    | true => rfl
    | false =>
      exfalso
      have h3 := h2.2.2 hq
      have : cutR s = [] := h3
      rw [this] at h
      simp [told] at h
  have := h2.1 hc
  show (cut1 32 s.data.toList).1 ++ [32] ++ (cut1 32 s.data.toList).2.1 = _
  rw [List.append_assoc]
  exact this.symm
theorem name_size (N : ByteArray) (h : nameB N = true) : N.size ≤ 30 := ((nameB_iff N).1 h).2.2
theorem name_free (N : ByteArray) (h : nameB N = true) : ∀ c ∈ N.data.toList, c ≠ 32 := by
  intro c hc e
  subst e
  obtain ⟨i, hi, he⟩ := List.getElem_of_mem hc
  have hi2 : i < N.size := by rw [Array.length_toList] at hi; exact hi
  have := ((nameB_iff N).1 h).1 i hi2 hi2
  rw [show N[i] = 32 from he, nch_iff] at this
  simp at this
theorem prun_good (N S : ByteArray) (a b c : Int) (x : Ending) (hS : S.data.toList = runL N.data.toList a b c) (hN : nameB N = true) (ha : -1035593280 ≤ a ∧ a ≤ 4223371679) (hb : 0 ≤ b ∧ b ≤ 3) (hc : 0 ≤ c ∧ c ≤ 1073741823) (h : PrunPost S x) :
    x = .returned (.tuple #[runV N a b c, .int .i64 0]) := by
  have hcut : cut1 32 S.data.toList = (N.data.toList, minL [a, b, c], true) := by
    rw [hS]; unfold runL
    rw [List.append_assoc]
    exact cut1_app 32 _ _ (name_free N hN)
  have e1 : cutN S = N := by
    unfold cutN; rw [hcut]
  have e2 : cutR S = minL [a, b, c] := by unfold cutR; rw [hcut]
  have ht := told_minL a b c (by omega) (by omega) (by omega)
  rcases h with ⟨a', b', c', ⟨h1, -⟩, h2⟩ | ⟨h1, -⟩
  · rw [e2, ht] at h1
    simp only [Option.some.injEq, List.cons.injEq] at h1
    obtain ⟨rfl, rfl, rfl, -⟩ := h1
    rw [e1] at h2
    exact h2
  · exact absurd ⟨a, b, c, by rw [e2]; exact ht, by rw [e1]; exact hN, ha, hb, hc⟩ h1
theorem runL_len (N : ByteArray) (a b c : Int) (hN : N.size ≤ 30) (ha : -1035593280 ≤ a ∧ a ≤ 4223371679) (hb : 0 ≤ b ∧ b ≤ 3) (hc : 0 ≤ c ∧ c ≤ 1073741823) : (runL N.data.toList a b c).length ≤ 200 := by
  have h1 := minL_len [a, b, c] (by simp; omega)
  have h2 : N.data.toList.length = N.size := by rw [Array.length_toList]; rfl
  simp at h1
  simp [runL]
  omega

set_option maxHeartbeats 4000000 in
set_option maxRecDepth 100000 in
theorem back_walk (N : ByteArray) (wn : N.size ≤ 140737488351232) (a1 : Int) (w1 : (Lit.int .i64 a1).wf = true) (a2 : Int) (w2 : (Lit.int .i64 a2).wf = true) (a3 : Int) (w3 : (Lit.int .i64 a3).wf = true) (E : ByteArray) (we : E.size ≤ 140737488351232) (w : World) (hL : Laid w) (hP : Pow w) :
    Calls Tryd.prog 10 #[.string N, .int .i64 a1, .int .i64 a2, .int .i64 a3, .string E] w fun e w' => e = .returned (.bool true) ∧ Below w.heap.size w w' := by
  obtain ⟨a, ha⟩ : ∃ a, a1 % 5250000000 - 1035500000 = a := ⟨_, rfl⟩
  obtain ⟨b, hb⟩ : ∃ b, a2 % 4 = b := ⟨_, rfl⟩
  obtain ⟨c, hc⟩ : ∃ c, a3 % 1073741824 = c := ⟨_, rfl⟩
  have hab : -1035500000 ≤ a ∧ a ≤ 4214499999 := by omega
  have hbb : 0 ≤ b ∧ b ≤ 3 := by omega
  have hcb : 0 ≤ c ∧ c ≤ 1073741823 := by omega
  obtain ⟨k, hk⟩ : ∃ k, a1 % 5250000000 = k := ⟨_, rfl⟩
  have hka : k - 1035500000 = a := by omega
  have HK := Lib.hid hk
  have HB := Lib.hid hb
  have HC := Lib.hid hc
  clear ha hb hc hk
  obtain ⟨nb, hnb⟩ : ∃ nb, nameB N = nb := ⟨_, rfl⟩
  have HNB := Lib.hid hnb
  clear hnb
  go_enter Tryd.func10, Tryd.ntmps10
  go_wp2_with fail
  go_at_call 17
  refine (known17 _ hL hP).mono ?_
  rintro x wk0 ⟨rfl, hbel⟩
  go_wp2_with fail
  go_at_call 19
  refine (name_any N _ (by omega)).mono ?_
  rw [HNB.out]
  rintro x wn1 ⟨rfl, hbn⟩
  have hbel1 := bthen hbel hbn
  clear hbn hbel
  cases nb with
  | false =>
    go_wp2
    go_ret
    exact ⟨rfl, hbel1⟩
  | true =>
    have hNz := name_size N HNB.out
    by_cases hE : 50 < E.size
    · have h1 : (50 : Int) < (E.size : Int) := by omega
      go_wp2
      go_ret
      exact ⟨rfl, hbel1⟩
    have h1 : ¬ (50 : Int) < (E.size : Int) := by omega
    go_wp2_with fail
    go_at_call 18
    refine (within17 a1 5250000000 _ (by omega) (by omega)).mono ?_
    rw [HK.out]
    rintro x w4 ⟨rfl, rfl⟩
    go_wp2_with fail
    go_at_call 18
    refine (within17 a2 4 _ (by omega) (by omega)).mono ?_
    rw [HB.out]
    rintro x w5 ⟨rfl, rfl⟩
    go_wp2_with fail
    go_at_call 18
    refine (within17 a3 1073741824 _ (by omega) (by omega)).mono ?_
    rw [HC.out]
    rintro x w6 ⟨rfl, rfl⟩
    go_wp2_with fail
    go_at_call 36
    refine (encrun_any N a b c _ (hP.below (bmore hbel1 _)) (by omega) (by omega) (by omega) (by omega)).mono ?_
    rintro x w7 ⟨⟨S, rfl, hS⟩, hb7⟩
    have hr7 := keepN hb7
    have hz7 := size1 hb7
    have hbel7 := bthen (bmore hbel1 _) hb7
    have hSz : S.size ≤ 200 := by rw [size_of S _ hS]; exact runL_len N a b c hNz (by omega) hbb hcb
    have HS := Lib.hid hS
    clear hb7 hbel1 hS
    have hm7 := (hL.below hbel7).max
    go_wp2_with fail
    go_at_call 37
    refine (parserun_any S _ hm7 (by omega)).mono ?_
    rintro x w8 ⟨hx, hb8⟩
    have hx2 := prun_good N S a b c x HS.out HNB.out (by omega) hbb hcb hx
    unfold runV at hx2
    clear hx
    subst hx2
    have hr8 := fun o => (keep0 hb8 hz7 o).trans (hr7 o)
    have hz8 := Nat.lt_of_lt_of_le hz7 hb8.size
    have hbel8 := bthen hbel7 hb8
    clear hb8 hbel7 hr7 hz7 hm7
    have hq : ¬ 9223372036854775807 < S.size + E.size := by omega
    have hm8 := (hL.below (bmore hbel8 (.cells #[.string N, .int .i64 a, .int .i64 b, .int .i64 c] 64))).max
    go_wp2_with fail
    go_at_call 37
    refine (parserun_any (S ++ E) _ hm8 (by rw [ByteArray.size_append]; omega)).mono ?_
    rintro x w9 ⟨hx, hb9⟩
    have hr9 := fun o => (keep1 hb9 hz8 o).trans (hr8 o)
    have hx9 := keepN hb9
    have hz9 := size1 hb9
    have hbel9 := bthen (bmore hbel8 _) hb9
    have hz19 : wn1.heap.size < w9.heap.size := Nat.lt_trans hz8 hz9
    clear hb9 hbel8 hr8 hm8
    rcases hx with ⟨a', b', c', ⟨g1, g2, g3, g4, g5⟩, rfl⟩ | ⟨-, rfl⟩
    · have HRB := Lib.hid (run_back (S ++ E) a' b' c' g1)
      obtain ⟨M, hM⟩ : ∃ M, cutN (S ++ E) = M := ⟨_, rfl⟩
      rw [hM] at g2 HRB ⊢
      have hMz := name_size M g2
      clear g1 g2 hM
      unfold runV
      go_wp2_with fail
      go_at_call 36
      refine (encrun_any M a' b' c' _ (hP.below (bmore hbel9 _)) (by omega) (by omega) (by omega) (by omega)).mono ?_
      rintro x w10 ⟨⟨T, rfl, hT⟩, hb10⟩
      have hTT : (T.toList == (S ++ E).toList) = true := by
        rw [Lib.toList_data, Lib.toList_data, hT, HRB.out]; simp
      have hbel10 := bthen (bmore hbel9 _) hb10
      clear hb10 hbel9 hr9 hx9 hT
      go_wp2
      go_ret
      exact ⟨rfl, hbel10⟩
    · unfold runV
      go_wp2
      go_ret
      exact ⟨rfl, bmore hbel9 _⟩
end Go.Proofs.YtggcnbdpobbkaaaDoor.Job
