/- Keys of runs: ten digits, their order. No program in sight. -/
import Derived.Test.YtdpaiaeaamokeaaDoorRefName
namespace Go.Proofs.YtdpaiaeaamokeaaDoor.Job
open Go.RowKit Go Go.Proofs.YtdpaiaeaamokeaaDoor.Cron

/-- k digits of a number, noughts ahead. -/
def pad : Nat → Nat → List UInt8
  | 0, _ => []
  | k + 1, n => pad k (n / 10) ++ [UInt8.ofNat (48 + n % 10)]
theorem pad_len : ∀ k n, (pad k n).length = k := by
  intro k
  induction k with
  | zero => intro n; rfl
  | succ k ih => intro n; rw [pad, List.length_append, ih]; rfl
theorem pad_zero : ∀ k, pad k 0 = List.replicate k 48 := by
  intro k
  induction k with
  | zero => rfl
  | succ k ih => rw [pad, ih, List.replicate_succ']; rfl
theorem pad_dec : ∀ k n, 1 ≤ k → n < 10 ^ k → List.replicate (k - (Lib.decDigits n).length) 48 ++ Lib.decDigits n = pad k n := by
  intro k
  induction k with
  | zero => intro n h; omega
  | succ k ih =>
    intro n _ hn
    by_cases h : n < 10
    · rw [dec_small n h, pad, show n / 10 = 0 by omega, pad_zero, show n % 10 = n by omega]; rfl
    · have hk : 1 ≤ k := by
        by_cases e : k = 0
        · subst e; simp at hn; omega
        · omega
      rw [dec_big n (by omega), dec_small (n % 10) (by omega), pad, ← ih (n / 10) hk (by rw [Nat.pow_succ] at hn; omega), List.length_append, ← List.append_assoc]
      rw [show k + 1 - ((Lib.decDigits (n / 10)).length + [UInt8.ofNat (48 + n % 10)].length) = k - (Lib.decDigits (n / 10)).length by simp]
theorem less_app : ∀ (p a b : List UInt8), Op.bytesLess (p ++ a) (p ++ b) = Op.bytesLess a b := by
  intro p
  induction p with
  | nil => intro a b; rfl
  | cons c p ih => intro a b; simp [Op.bytesLess, ih]
theorem less_snoc : ∀ (p q : List UInt8) (c d : UInt8), p.length = q.length → Op.bytesLess (p ++ [c]) (q ++ [d]) = (Op.bytesLess p q || (decide (p = q) && decide (c < d))) := by
  intro p
  induction p with
  | nil =>
    intro q c d h
    have : q = [] := List.eq_nil_of_length_eq_zero h.symm
    subst this
    simp [Op.bytesLess]
  | cons x p ih =>
    intro q c d h
    cases q with
    | nil => simp at h
    | cons y q =>
      have h2 : p.length = q.length := by simpa using h
      simp only [List.cons_append, Op.bytesLess, ih q c d h2]
      by_cases hxy : x = y
      · subst hxy; simp
      · have : (x == y) = false := by simp [hxy]
        simp [this, hxy]
theorem dig_lt (a b : Nat) (ha : a < 10) (hb : b < 10) : (UInt8.ofNat (48 + a) < UInt8.ofNat (48 + b)) ↔ a < b := by
  rw [UInt8.lt_iff_toNat_lt, UInt8.toNat_ofNat', UInt8.toNat_ofNat']; omega
theorem dig_inj (a b : Nat) (ha : a < 10) (hb : b < 10) (h : UInt8.ofNat (48 + a) = UInt8.ofNat (48 + b)) : a = b := by
  have := congrArg UInt8.toNat h
  rw [UInt8.toNat_ofNat', UInt8.toNat_ofNat'] at this; omega
theorem pad_inj : ∀ k a b, a < 10 ^ k → b < 10 ^ k → pad k a = pad k b → a = b := by
  intro k
  induction k with
  | zero => intro a b ha hb _; simp at ha hb; omega
  | succ k ih =>
    intro a b ha hb h
    rw [pad, pad] at h
    have h2 := List.append_inj h (by rw [pad_len, pad_len])
    have e1 := ih (a / 10) (b / 10) (by rw [Nat.pow_succ] at ha; omega) (by rw [Nat.pow_succ] at hb; omega) h2.1
    have e2 := dig_inj (a % 10) (b % 10) (by omega) (by omega) (List.cons.inj h2.2).1
    omega
theorem pad_less : ∀ k a b, a < 10 ^ k → b < 10 ^ k → Op.bytesLess (pad k a) (pad k b) = decide (a < b) := by
  intro k
  induction k with
  | zero => intro a b ha hb; simp at ha hb; subst ha; subst hb; rfl
  | succ k ih =>
    intro a b ha hb
    rw [Nat.pow_succ] at ha hb
    rw [pad, pad, less_snoc _ _ _ _ (by rw [pad_len, pad_len]), ih (a / 10) (b / 10) (by omega) (by omega), Bool.eq_iff_iff]
    simp only [Bool.or_eq_true, Bool.and_eq_true, decide_eq_true_eq]
    rw [dig_lt _ _ (by omega) (by omega)]
    constructor
    · rintro (h | ⟨h, h2⟩)
      · omega
      · have := pad_inj k _ _ (by omega) (by omega) h; omega
    · intro h
      by_cases e : a / 10 < b / 10
      · exact .inl e
      · exact .inr ⟨by rw [show a / 10 = b / 10 by omega], by omega⟩
/-- A run's key. -/
def rkL (s : ByteArray) (n : Nat) : List UInt8 := [114, 117, 110, 47] ++ s.data.toList ++ [47] ++ pad 10 n
def rkB (s : ByteArray) (n : Nat) : ByteArray := bytesOf (rkL s n)
theorem rk_list (s : ByteArray) (n : Nat) : (rkB s n).toList = rkL s n := by rw [ByteArray.toList_eq]; simp [rkB, bytesOf]
theorem rk_size (s : ByteArray) (n : Nat) : (rkB s n).size = s.size + 15 := by
  have : s.data.toList.length = s.size := by rw [Array.length_toList]; rfl
  rw [rkB, bytes_size, rkL]
  simp [pad_len]
theorem rk_eq (s : ByteArray) (a b : Nat) (ha : a < 10000000000) (hb : b < 10000000000) : ((rkB s a).toList == (rkB s b).toList) = decide (a = b) := by
  rw [rk_list, rk_list, Bool.eq_iff_iff]
  simp only [beq_iff_eq, decide_eq_true_eq]
  constructor
  · intro h
    exact pad_inj 10 a b (by omega) (by omega) (List.append_cancel_left h)
  · rintro rfl; rfl
theorem rk_less (s : ByteArray) (a b : Nat) (ha : a < 10000000000) (hb : b < 10000000000) : Op.bytesLess (rkB s a).toList (rkB s b).toList = decide (a < b) := by
  rw [rk_list, rk_list, rkL, rkL, less_app, pad_less _ _ _ (by omega) (by omega)]

/-- Between a text's '/' and its '0': just those that begin with the text and '/'. -/
theorem between : ∀ (A X : List UInt8), Op.bytesLess X (A ++ [47]) = false → Op.bytesLess X (A ++ [48]) = true → ∃ r, X = A ++ 47 :: r := by
  intro A
  induction A with
  | nil =>
    intro X h1 h2
    cases X with
    | nil => simp [Op.bytesLess] at h1
    | cons c X =>
      refine ⟨X, ?_⟩
      have k1 : ¬ c < 47 := by
        intro k; simp [Op.bytesLess, k] at h1
      have k2 : c < 48 := by
        have hz : ∀ Y, Op.bytesLess Y [] = false := by intro Y; cases Y <;> rfl
        simpa [Op.bytesLess, hz] using h2
      rw [UInt8.lt_iff_toNat_lt] at k1 k2
      have e : c.toNat = 47 := by
        have : (47 : UInt8).toNat = 47 := rfl
        have : (48 : UInt8).toNat = 48 := rfl
        omega
      have : c = 47 := UInt8.toNat.inj e
      rw [this]; rfl
  | cons a A ih =>
    intro X h1 h2
    cases X with
    | nil => simp [Op.bytesLess] at h1
    | cons c X =>
      simp only [List.cons_append, Op.bytesLess, Bool.or_eq_false_iff, Bool.or_eq_true, decide_eq_false_iff_not, decide_eq_true_eq] at h1 h2
      obtain ⟨k1, k2⟩ := h1
      rcases h2 with h2 | h2
      · exact absurd h2 k1
      · rw [Bool.and_eq_true] at h2
        rw [h2.1, Bool.true_and] at k2
        obtain ⟨r, hr⟩ := ih X k2 h2.2
        have : c = a := by simpa using h2.1
        exact ⟨r, by rw [hr, this]; rfl⟩
theorem front_eq : ∀ (A B P r : List UInt8), (47 : UInt8) ∉ A → (47 : UInt8) ∉ B → B ++ 47 :: P = A ++ 47 :: r → B = A := by
  intro A
  induction A with
  | nil =>
    intro B P r _ hB h
    cases B with
    | nil => rfl
    | cons b B =>
      simp at h
      rw [h.1] at hB; simp at hB
  | cons a A ih =>
    intro B P r hA hB h
    cases B with
    | nil =>
      simp at h
      rw [← h.1] at hA; simp at hA
    | cons b B =>
      simp at h hA hB
      rw [h.1, ih B P r hA.2 hB.2 h.2]
theorem name_no_slash (s : ByteArray) (h : NameOk s) : (47 : UInt8) ∉ s.data.toList := by
  intro hm
  obtain ⟨i, hi, he⟩ := List.getElem_of_mem hm
  have hi2 : i < s.size := by rw [Array.length_toList] at hi; exact hi
  have := h.1 i hi2 hi2
  rw [← list_get s i hi2, he, nch_iff] at this
  have e : (47 : UInt8).toNat = 47 := rfl
  omega
theorem size_list (s : ByteArray) : s.toList.length = s.size := by rw [ByteArray.toList_eq, Array.length_toList]; rfl
def loB (s : ByteArray) : ByteArray := ⟨#[114, 117, 110, 47]⟩ ++ s ++ ⟨#[47]⟩
def hiB (s : ByteArray) : ByteArray := ⟨#[114, 117, 110, 47]⟩ ++ s ++ ⟨#[48]⟩
theorem rk_in (s o : ByteArray) (n : Nat) (hs : NameOk s) (ho : NameOk o) :
    (!Op.bytesLess (rkB o n).toList (loB s).toList && Op.bytesLess (rkB o n).toList (hiB s).toList) = (s.toList == o.toList) := by
  have e1 : (loB s).toList = [114, 117, 110, 47] ++ (s.data.toList ++ [47]) := by rw [ByteArray.toList_eq]; simp [loB]
  have e2 : (hiB s).toList = [114, 117, 110, 47] ++ (s.data.toList ++ [48]) := by rw [ByteArray.toList_eq]; simp [hiB]
  rw [rk_list, e1, e2, show rkL o n = [114, 117, 110, 47] ++ (o.data.toList ++ 47 :: pad 10 n) by simp [rkL], less_app, less_app, Bool.eq_iff_iff, ByteArray.toList_eq, ByteArray.toList_eq]
  simp only [Bool.and_eq_true, Bool.not_eq_true', beq_iff_eq]
  constructor
  · rintro ⟨h1, h2⟩
    obtain ⟨r, hr⟩ := between _ _ h1 h2
    exact (front_eq _ _ _ _ (name_no_slash s hs) (name_no_slash o ho) hr).symm
  · intro h
    rw [h, less_app, less_app]
    exact ⟨by simp [Op.bytesLess], by simp [Op.bytesLess]⟩
end Go.Proofs.YtdpaiaeaamokeaaDoor.Job
