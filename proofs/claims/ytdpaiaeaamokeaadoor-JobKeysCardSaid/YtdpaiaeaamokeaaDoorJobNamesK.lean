/- The plain laws and small contracts behind JobLawNames. -/
import Derived.Test.YtdpaiaeaamokeaaDoorJobEnc
import Derived.Test.YtdpaiaeaamokeaaDoorJobName
import Derived.Test.YtdpaiaeaamokeaaDoorCronBlanksK
namespace Go.Proofs.YtdpaiaeaamokeaaDoor.Job
open Go.RowKit Go Go.Proofs.YtdpaiaeaamokeaaDoor.Cron

theorem within17 (a n : Int) (w : World) (h1 : 0 < n) (h2 : n ≤ 4611686018427387904) :
    Calls Tryd.prog 10 #[.int .i64 a, .int .i64 n] w fun e w' => e = .returned (.int .i64 (a % n)) ∧ w = w' := by
  obtain ⟨t1, t2, t3, t4⟩ := tmod_within a n h1
  have hz : (n == 0) = false := by simp; omega
  by_cases c : a.tmod n < 0
  · have H := Lib.hid (t1 c)
    clear t1 t2
    go_enter Tryd.func10, Tryd.ntmps10
    go_wp2
    go_ret
    exact ⟨ret_int H.out, rfl⟩
  · have H := Lib.hid (t2 c)
    clear t1 t2
    go_enter Tryd.func10, Tryd.ntmps10
    go_wp2
    go_ret
    exact ⟨ret_int H.out, rfl⟩
theorem within17n (a n : Int) (w : World) (h1 : 0 < n) (h2 : n ≤ 4611686018427387904) :
    Calls Tryd.prog 10 #[.int .i64 a, .int .i64 n] w fun e w' => (∃ q : Nat, e = .returned (.int .i64 q) ∧ (q : Int) < n ∧ Hid (a % n = q)) ∧ w = w' :=
  (within17 a n w h1 h2).mono fun _ _ ⟨he, hw⟩ => ⟨⟨(a % n).toNat, by rw [he, Int.toNat_of_nonneg (Int.emod_nonneg _ (by omega))], by have := Int.emod_lt_of_pos a h1; omega, by show _ = _; rw [Int.toNat_of_nonneg (Int.emod_nonneg _ (by omega))]⟩, hw⟩

def signs : ByteArray := ⟨#[97, 98, 99, 100, 101, 102, 103, 104, 105, 106, 107, 108, 109, 110, 111, 112, 113, 114, 115, 116, 117, 118, 119, 120, 121, 122, 48, 49, 50, 51, 52, 53, 54, 55, 56, 57, 45]⟩
def bads : ByteArray := ⟨#[65, 95, 47, 32, 46, 0, 255]⟩
/-- A sign of names, at whatever place but the first. -/
def sgn (c : UInt8) : Bool := nch 1 c
theorem signs_at : ∀ q (h : q < signs.size), sgn signs[q] = true := by decide
theorem bads_at : ∀ q (h : q < bads.size), sgn bads[q] = false ∧ bads[q] ≠ 45 := by decide
theorem sgn_first (c : UInt8) : nch 0 c = (sgn c && decide (c ≠ 45)) := by
  rw [Bool.eq_iff_iff, Bool.and_eq_true, sgn, nch_iff, nch_iff]
  have : c ≠ 45 ↔ c.toNat ≠ 45 := ⟨fun h k => h (UInt8.toNat.inj (by simpa using k)), fun h k => h (by rw [k]; rfl)⟩
  simp only [decide_eq_true_eq, this]
  omega
theorem nch_later (i : Nat) (h : i ≠ 0) (c : UInt8) : nch i c = sgn c := by
  rw [Bool.eq_iff_iff, sgn, nch_iff, nch_iff]; omega
def AllSgn (T : ByteArray) : Prop := ∀ c ∈ T.data.toList, sgn c = true
theorem names_is (T : ByteArray) (h : AllSgn T) (h1 : 1 ≤ T.size) : nameB T = (decide (T[0] ≠ 45) && decide (T.size ≤ 30)) := by
  have hm : ∀ i (hi : i < T.size), sgn T[i] = true := fun i hi => h _ (by rw [← list_get T i hi]; exact List.getElem_mem _)
  rw [Bool.eq_iff_iff, nameB_iff, Bool.and_eq_true, decide_eq_true_eq, decide_eq_true_eq]
  constructor
  · rintro ⟨a, _, c⟩
    have := a 0 (by omega) (by omega)
    rw [sgn_first, Bool.and_eq_true, decide_eq_true_eq] at this
    exact ⟨this.2, c⟩
  · rintro ⟨a, b⟩
    refine ⟨fun i hi _ => ?_, h1, b⟩
    by_cases e : i = 0
    · subst e; rw [sgn_first, hm 0 hi]; simp [a]
    · rw [nch_later i e]; exact hm i hi
theorem name_hole (T E : ByteArray) (k : Nat) (c : UInt8) (hk : k < T.size) (hE : E.data.toList = [c]) (h1 : sgn c = false) (h2 : c ≠ 45) : nameB (T.extract 0 k ++ E ++ T.extract (k + 1) T.size) = false := by
  have hl : (T.extract 0 k ++ E ++ T.extract (k + 1) T.size).data.toList = (T.extract 0 k).data.toList ++ (c :: (T.extract (k + 1) T.size).data.toList) := by simp [hE]
  have hz : (T.extract 0 k).data.toList.length = k := by rw [Array.length_toList]; show (T.extract 0 k).size = k; simp; omega
  have hs : k < (T.extract 0 k ++ E ++ T.extract (k + 1) T.size).size := by
    have := congrArg List.length hl
    rw [Array.length_toList, List.length_append, hz] at this
    show k < (T.extract 0 k ++ E ++ T.extract (k + 1) T.size).data.size
    rw [this]; first | (simp; done) | (simp; omega)
  refine nameB_bad _ k hs ?_
  have hg : (T.extract 0 k ++ E ++ T.extract (k + 1) T.size)[k] = c := by
    have h3 : (T.extract 0 k ++ E ++ T.extract (k + 1) T.size).data.toList[k]? = some c := by
      rw [hl, List.getElem?_append_right (by omega), hz, Nat.sub_self]; rfl
    obtain ⟨_, h4⟩ := List.getElem?_eq_some_iff.1 h3
    exact h4
  rw [hg]
  by_cases e : k = 0
  · subst e; rw [sgn_first, h1]; rfl
  · rw [nch_later k e, h1]
theorem name_empty : nameB ⟨#[]⟩ = false := by
  rw [Bool.eq_false_iff, Ne, nameB_iff]
  intro h
  have := h.2.1
  exact absurd this (by decide)

theorem bel_k {w W : World} (hb : Below w.heap.size w W) : Below w.heap.size w W := hb

end Go.Proofs.YtdpaiaeaamokeaaDoor.Job
