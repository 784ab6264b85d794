/- What is an expression's text is of bytes below 128. -/
import Derived.Test.YtlldcoldnojbjaaGreatDoorCronSpec
namespace Go.Proofs.YtlldcoldnojbjaaGreatDoor.Cron

theorem pnum_digits {l : List UInt8} (h : 0 ≤ pnum l) : ∀ c ∈ l, isDig c = true := by
  unfold pnum at h
  split at h
  · omega
  · split at h
    · rename_i ha; exact List.all_eq_true.1 ha
    · omega
theorem cut1_mem (sep : UInt8) : ∀ (l : List UInt8) (c : UInt8), c ∈ l → c = sep ∨ c ∈ (cut1 sep l).1 ∨ ((cut1 sep l).2.2 = true ∧ c ∈ (cut1 sep l).2.1)
  | [], c, h => by simp at h
  | b :: l, c, h => by
    rw [cut1]
    by_cases hb : b = sep
    · rw [if_pos hb]
      rcases List.mem_cons.1 h with rfl | h
      · exact .inl hb
      · exact .inr (.inr ⟨rfl, h⟩)
    · rw [if_neg hb]
      rcases List.mem_cons.1 h with rfl | h
      · exact .inr (.inl (by simp))
      · rcases cut1_mem sep l c h with h | h | h
        · exact .inl h
        · exact .inr (.inl (by simp [h]))
        · exact .inr (.inr h)
theorem dig_low {c : UInt8} (h : isDig c = true) : c.toNat < 128 := by have := (isDig_iff c).1 h; omega
theorem pitem_low {l : List UInt8} {lo hi : Nat} (h : pitem l lo hi ≠ 0) : ∀ c ∈ l, c.toNat < 128 := by
  obtain ⟨y, hy⟩ : ∃ y, (if (cut1 45 l).2.2 = true then pnum (cut1 45 l).2.1 else pnum (cut1 45 l).1) = y := ⟨_, rfl⟩
  have hn : ¬ (pnum (cut1 45 l).1 < (lo : Int) ∨ (hi : Int) < y ∨ y < pnum (cut1 45 l).1) := by
    intro hh
    apply h
    unfold pitem
    dsimp only
    rw [hy, if_pos hh]
  intro c hc
  rcases cut1_mem 45 l c hc with rfl | h1 | ⟨h2, h3⟩
  · decide
  · exact dig_low (pnum_digits (by omega) c h1)
  · rw [if_pos h2] at hy
    exact dig_low (pnum_digits (l := (cut1 45 l).2.1) (by omega) c h3)
theorem pieces_mem (sep : UInt8) : ∀ (l : List UInt8) (c : UInt8), c ∈ l → c = sep ∨ ∃ p ∈ pieces sep l, c ∈ p
  | [], c, h => by simp at h
  | b :: l, c, h => by
    rw [pieces]
    by_cases hb : b = sep
    · rw [if_pos hb]
      rcases List.mem_cons.1 h with rfl | h
      · exact .inl hb
      · rcases pieces_mem sep l c h with h | ⟨p, hp, hc⟩
        · exact .inl h
        · exact .inr ⟨p, by simp [hp], hc⟩
    · rw [if_neg hb]
      rcases List.mem_cons.1 h with rfl | h
      · refine .inr ?_
        split
        · exact ⟨[c], by simp, by simp⟩
        · exact ⟨_, List.mem_cons_self, by simp⟩
      · rcases pieces_mem sep l c h with h | ⟨p, hp, hc⟩
        · exact .inl h
        · refine .inr ?_
          split
          · rename_i e; rw [e] at hp; simp at hp
          · rename_i q qs e
            rw [e] at hp
            rcases List.mem_cons.1 hp with rfl | hp
            · exact ⟨_, List.mem_cons_self, by simp [hc]⟩
            · exact ⟨p, by simp [hp], hc⟩
theorem pitems_low {lo hi : Nat} : ∀ (ps : List (List UInt8)) (acc : Nat), pitems lo hi ps acc ≠ 0 → ∀ p ∈ ps, ∀ c ∈ p, c.toNat < 128
  | [], _, _, p, hp => by simp at hp
  | q :: ps, acc, h, p, hp => by
    rw [pitems] at h
    split at h
    · exact absurd rfl h
    · rename_i hq
      rcases List.mem_cons.1 hp with rfl | hp
      · exact pitem_low hq
      · exact pitems_low ps _ h p hp
theorem pfield_low {l : List UInt8} {lo hi : Nat} (h : pfield l lo hi ≠ 0) : ∀ c ∈ l, c.toNat < 128 := by
  unfold pfield at h
  split at h
  · rename_i e; subst e; intro c hc; simp at hc; subst hc; decide
  · intro c hc
    rcases pieces_mem 44 l c hc with rfl | ⟨p, hp, hcp⟩
    · decide
    · exact pitems_low _ _ h p hp c hcp
theorem fold_mem : ∀ (l : List UInt8) (st : List (List UInt8) × Bool), (st.2 = true → st.1 ≠ []) → (∀ p ∈ st.1, ∀ c ∈ p, ∃ q ∈ (l.foldl fstep st).1, c ∈ q) ∧ ∀ c ∈ l, isBlank c = true ∨ ∃ q ∈ (l.foldl fstep st).1, c ∈ q
  | [], st, _ => ⟨fun p hp c hc => ⟨p, hp, hc⟩, by simp⟩
  | b :: l, (bs, ins), hst => by
    rw [List.foldl_cons]
    unfold fstep
    dsimp only at hst ⊢
    by_cases hb : isBlank b = true
    · rw [if_pos hb]
      have ih := fold_mem l (bs, false) (by simp)
      refine ⟨ih.1, fun c hc => ?_⟩
      rcases List.mem_cons.1 hc with rfl | hc
      · exact .inl hb
      · exact ih.2 c hc
    · rw [if_neg hb]
      cases ins with
      | false =>
        have ih := fold_mem l (bs ++ [[b]], true) (by simp)
        rw [if_neg (by simp)]
        refine ⟨fun p hp => ih.1 p (by simp [hp]), fun c hc => ?_⟩
        rcases List.mem_cons.1 hc with rfl | hc
        · exact .inr (ih.1 [c] (by simp) c (by simp))
        · exact ih.2 c hc
      | true =>
        obtain ⟨cs, x, rfl⟩ : ∃ cs x, bs = cs ++ [x] := ⟨bs.dropLast, bs.getLast (hst rfl), (List.dropLast_concat_getLast (hst rfl)).symm⟩
        have ih := fold_mem l (cs ++ [x ++ [b]], true) (by simp)
        rw [if_pos rfl]
        simp only [List.dropLast_concat, List.getLastD_concat]
        refine ⟨fun p hp c hc => ?_, fun c hc => ?_⟩
        · rcases List.mem_append.1 hp with hp | hp
          · exact ih.1 p (by simp [hp]) c hc
          · simp at hp; subst hp
            exact ih.1 (p ++ [b]) (by simp) c (by simp [hc])
        · rcases List.mem_cons.1 hc with rfl | hc
          · exact .inr (ih.1 (x ++ [c]) (by simp) c (by simp))
          · exact ih.2 c hc
theorem pex_low {l : List UInt8} {e : Ex} (h : pex l = some e) : ∀ c ∈ l, c.toNat < 128 := by
  have hm := (fold_mem l ([], false) (by simp)).2
  unfold pex at h
  split at h
  · rename_i a b c d f hf
    split at h
    · cases h
    · rename_i hn
      simp only [not_or] at hn
      intro x hx
      rcases hm x hx with hb | ⟨q, hq, hxq⟩
      · simp only [isBlank, decide_eq_true_eq] at hb; omega
      · have hq' : q ∈ flds l := hq
        rw [hf] at hq'
        simp at hq'
        rcases hq' with rfl | rfl | rfl | rfl | rfl
        · exact pfield_low hn.1 x hxq
        · exact pfield_low hn.2.1 x hxq
        · exact pfield_low hn.2.2.1 x hxq
        · exact pfield_low hn.2.2.2.1 x hxq
        · exact pfield_low hn.2.2.2.2 x hxq
  · cases h
theorem pex_high {l : List UInt8} (h : ∃ c ∈ l, 128 ≤ c.toNat) : pex l = none := by
  cases hp : pex l with
  | none => rfl
  | some e =>
    obtain ⟨c, hc, h8⟩ := h
    have := pex_low hp c hc
    omega
end Go.Proofs.YtlldcoldnojbjaaGreatDoor.Cron
