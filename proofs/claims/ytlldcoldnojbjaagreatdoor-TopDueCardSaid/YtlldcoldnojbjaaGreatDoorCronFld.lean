/- What one rune of a valid text is, as bytes; the fields' fold over it. -/
import Derived.Test.YtlldcoldnojbjaaGreatDoorCronValid
namespace Go.Proofs.YtlldcoldnojbjaaGreatDoor.Cron
open Go.RowKit Go

theorem encode_size (r : Int) : (0 ≤ r → r < 128 → (Utf8.encode r).size = 1) ∧ (128 ≤ r → r < 2048 → (Utf8.encode r).size = 2) ∧ (2048 ≤ r → r < 65536 → (r < 55296 ∨ 57344 ≤ r) → (Utf8.encode r).size = 3) ∧
    (65536 ≤ r → r ≤ 1114111 → (Utf8.encode r).size = 4) := by
  refine ⟨fun h1 h2 => ?_, fun h1 h2 => ?_, fun h1 h2 h3 => ?_, fun h1 h2 => ?_⟩
  all_goals
    have hv : Utf8.valid r = true := by simp [Utf8.valid]; omega
    unfold Utf8.encode
    simp only [hv, if_true]
  · rw [if_pos (by omega)]; rfl
  · rw [if_neg (by omega), if_pos (by omega)]; rfl
  · rw [if_neg (by omega), if_neg (by omega), if_pos (by omega)]; rfl
  · rw [if_neg (by omega), if_neg (by omega), if_neg (by omega)]; rfl

/-- One rune of a valid text: its bytes, by its width. -/
theorem rune_at (s : ByteArray) (k : Nat) (h : k < s.size) (hv : ¬ ((Utf8.decode s k).1 = 65533 ∧ (Utf8.decode s k).2 = 1)) :
    (Utf8.encode (Utf8.decode s k).1).size = (Utf8.decode s k).2 ∧ ((Utf8.decode s k).1 < 128 → (Utf8.decode s k).2 = 1 ∧ (s.data.toList.getD k 0).toNat = (Utf8.decode s k).1) ∧
      (128 ≤ (Utf8.decode s k).1 → ∀ j, j < (Utf8.decode s k).2 → 128 ≤ (s.data.toList.getD (k + j) 0).toNat) := by
  rw [Lib.decode_N] at hv ⊢
  have k0 := (s.data.toList.getD k 0).toNat_lt
  have k1 := (s.data.toList.getD (k + 1) 0).toNat_lt
  have k2 := (s.data.toList.getD (k + 2) 0).toNat_lt
  have k3 := (s.data.toList.getD (k + 3) 0).toNat_lt
  have z : s.data.toList.getD (k + 0) 0 = s.data.toList.getD k 0 := rfl
  generalize hx0 : (s.data.toList.getD k 0).toNat = b0 at *
  generalize hx1 : (s.data.toList.getD (k + 1) 0).toNat = b1 at *
  generalize hx2 : (s.data.toList.getD (k + 2) 0).toNat = b2 at *
  generalize hx3 : (s.data.toList.getD (k + 3) 0).toNat = b3 at *
  rcases Lib.decodeN_shape (s.data.toList.length - k) b0 b1 b2 b3 with ⟨c, e⟩ | ⟨c1, c2, c3, cv, e⟩ | ⟨c1, c2, c3, c4, cv, cs, e⟩ | ⟨c1, c2, c3, c4, c5, cv, cw, e⟩ | e
  all_goals rw [e] at hv ⊢; dsimp only at hv ⊢
  · refine ⟨(encode_size _).1 (by omega) (by omega), fun _ => ⟨rfl, rfl⟩, fun h => by omega⟩
  · refine ⟨(encode_size _).2.1 (by omega) (by omega), fun h => by omega, fun _ j hj => ?_⟩
    have : j = 0 ∨ j = 1 := by omega
    rcases this with rfl | rfl
    · rw [z, hx0]; omega
    · rw [hx1]; omega
  · refine ⟨(encode_size _).2.2.1 (by omega) (by omega) (by omega), fun h => by omega, fun _ j hj => ?_⟩
    have : j = 0 ∨ j = 1 ∨ j = 2 := by omega
    rcases this with rfl | rfl | rfl
    · rw [z, hx0]; omega
    · rw [hx1]; omega
    · rw [hx2]; omega
  · refine ⟨(encode_size _).2.2.2 (by omega) (by omega), fun h => by omega, fun _ j hj => ?_⟩
    have : j = 0 ∨ j = 1 ∨ j = 2 ∨ j = 3 := by omega
    rcases this with rfl | rfl | rfl | rfl
    · rw [z, hx0]; omega
    · rw [hx1]; omega
    · rw [hx2]; omega
    · rw [hx3]; omega
  · exact absurd ⟨rfl, rfl⟩ hv

/-- More bytes that are no blanks. -/
theorem fold_more : ∀ (m : List UInt8) (bs : List (List UInt8)) (x : List UInt8), (∀ c ∈ m, isBlank c = false) → m.foldl fstep (bs ++ [x], true) = (bs ++ [x ++ m], true)
  | [], bs, x, _ => by simp
  | c :: m, bs, x, h => by
    rw [List.foldl_cons, fstep, h c (by simp)]
    have := fold_more m bs (x ++ [c]) (fun d hd => h d (by simp [hd]))
    simpa using this
/-- .. behind a blank, or at the text's head. -/
theorem fold_new (m : List UInt8) (bs : List (List UInt8)) (hm : m ≠ []) (h : ∀ c ∈ m, isBlank c = false) : m.foldl fstep (bs, false) = (bs ++ [m], true) := by
  cases m with
  | nil => exact absurd rfl hm
  | cons c m =>
    rw [List.foldl_cons, fstep, h c (by simp)]
    have := fold_more m bs [c] (fun d hd => h d (by simp [hd]))
    simpa using this

theorem extract_take (s : ByteArray) (k K : Nat) (h : k + K ≤ s.size) : s.data.toList.take (k + K) = s.data.toList.take k ++ (s.extract k (k + K)).data.toList := by
  rw [Lib.extract_data, List.take_add]
  congr 1
  rw [show k + K - k = K by omega]
theorem fold_append (a b : List UInt8) : fold (a ++ b) = b.foldl fstep (fold a) := by unfold fold; rw [List.foldl_append]
end Go.Proofs.YtlldcoldnojbjaaGreatDoor.Cron
