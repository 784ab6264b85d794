/- strings.Cut and strings.Split at one byte, as plain recursion on the text. -/
import Derived.Lib.SplitLaws
import Derived.Test.YtlldcoldnojbjaaGreatDoorCronSpec
namespace Go.Proofs.YtlldcoldnojbjaaGreatDoor.Cron
open Go.Lib

theorem index_one (b c : UInt8) (l : List UInt8) : Lib.index (b :: l) [c] = if b = c then 0 else if Lib.index l [c] = -1 then -1 else Lib.index l [c] + 1 := by
  rw [Lib.index]
  by_cases h : b = c
  · subst h; simp [List.isPrefixOf]
  · have hp : ([c] : List UInt8).isPrefixOf (b :: l) = false := by simp [List.isPrefixOf, Ne.symm h]
    rw [hp, if_neg h]
    simp

theorem cut_one (c : UInt8) : ∀ l : List UInt8, Lib.cut l [c] = cut1 c l
  | [] => by simp [Lib.cut, cut1, Lib.index]
  | b :: l => by
    have ih := cut_one c l
    have hge := index_ge l [c]
    unfold Lib.cut at ih ⊢
    rw [index_one, cut1]
    by_cases h : b = c
    · subst h; simp
    · rw [if_neg h, if_neg h]
      by_cases hm : Lib.index l [c] = -1
      · rw [if_pos hm]
        rw [if_neg (by omega)] at ih
        rw [if_neg (by omega), ← ih]
      · rw [if_neg hm]
        rw [if_pos (by omega)] at ih
        rw [if_pos (by omega), ← ih]
        obtain ⟨j, hj⟩ : ∃ j : Nat, Lib.index l [c] = j := ⟨(Lib.index l [c]).toNat, by omega⟩
        rw [hj]
        have e : ((j : Int) + 1).toNat = j + 1 := by omega
        have e2 : (j : Int).toNat = j := by omega
        rw [e, e2]
        simp [List.take_succ_cons]

theorem split_one (c : UInt8) : ∀ l : List UInt8, Lib.split l [c] = pieces c l
  | [] => by
    have h : Lib.count [] [c] = 0 := Lib.count_miss (by simp [Lib.index])
    simp [Lib.split, pieces, h, Lib.splitK]
  | b :: l => by
    have ih := split_one c l
    unfold Lib.split at ih ⊢
    rw [pieces]
    by_cases h : b = c
    · subst h
      rw [if_pos rfl, count_cons_eq, Nat.add_comm, Lib.splitK]
      rw [index_one, if_pos rfl]
      simpa using ih
    · rw [if_neg h, count_cons_ne b c l h]
      cases hk : Lib.count l [c] with
      | zero => rw [hk] at ih; rw [← ih]; rfl
      | succ k =>
        rw [hk] at ih
        have hm : Lib.index l [c] ≠ -1 := fun e => by have := Lib.count_miss e; omega
        have hge := index_ge l [c]
        obtain ⟨j, hj⟩ : ∃ j : Nat, Lib.index l [c] = j := ⟨(Lib.index l [c]).toNat, by omega⟩
        rw [Lib.splitK, hj, if_neg (by first | (simp; done) | (simp; omega))] at ih
        rw [Lib.splitK, index_one, if_neg h, if_neg hm, hj, if_neg (by first | (simp; done) | (simp; omega)), ← ih]
        have e : ((j : Int) + 1).toNat = j + 1 := by omega
        have e2 : (j : Int).toNat = j := by omega
        rw [e, e2]
        simp [List.take_succ_cons]

/-- The pieces as strings.Split hands them back. -/
theorem splitB_one (c : UInt8) (s : ByteArray) : (splitB ⟨#[c]⟩ 0 (countB s ⟨#[c]⟩) s).map (·.data.toList) = pieces c s.data.toList := by
  rw [splitB_data, ← split_one]; rfl
theorem pieces_ne (c : UInt8) (l : List UInt8) : pieces c l ≠ [] := by
  cases l with
  | nil => simp [pieces]
  | cons b l => rw [pieces]; split; simp; split <;> simp
end Go.Proofs.YtlldcoldnojbjaaGreatDoor.Cron
