/- The contracts of both RunKeys and of the other keys. -/
import Derived.Test.YtdpaiaeaamokeaaDoorJobKeyP
namespace Go.Proofs.YtdpaiaeaamokeaaDoor.Job
open Go.RowKit Go Go.Proofs.YtdpaiaeaamokeaaDoor.Cron

theorem repeat_nought : ∀ c, Lib.repeatL [48] c = List.replicate c 48 := by
  intro c
  induction c with
  | zero => rfl
  | succ c ih => simp [Lib.repeatL, ih, List.replicate_succ]
theorem append_cat (a b c : ByteArray) : a ++ b ++ c = a ++ (b ++ c) := by
  apply ByteArray.ext; simp
set_option maxHeartbeats 1000000 in
set_option maxRecDepth 100000 in
theorem runkey_any (s : ByteArray) (m : Int) (n : Nat) (w : World) (hs : s.size ≤ 1000000) (hm : m + 2000000000 = n) (hn : n < 10000000000) (hP : Pow w) :
    Calls Tryd.prog 27 #[.string s, .int .i64 m] w fun e w' => e = .returned (.string (rkB s n)) ∧ Below w.heap.size w w' := by
  have hl1 := (dec_head n).1
  have hl2 := dec_len n 10 (by omega) (by omega)
  have hpd := pad_dec 10 n (by omega) (by omega)
  obtain ⟨B, hB⟩ : ∃ B, bytesOf (Lib.itoa (n : Int)) = B := ⟨_, rfl⟩
  have hBl : bytesOf (Lib.decDigits n) = B := by rw [← hB, itoa_pos (by omega), Int.toNat_natCast]
  have hBz : B.size = (Lib.decDigits n).length := by rw [← hBl, bytes_size]
  obtain ⟨c, hc⟩ : ∃ c, 10 - (Lib.decDigits n).length = c := ⟨_, rfl⟩
  have hcz : (B.size : Int) = 10 - (c : Int) := by omega
  have hcb : c ≤ 9 := by omega
  obtain ⟨Z, hZ⟩ : ∃ Z : ByteArray, ⟨(Lib.repeatL [48] c).toArray⟩ = Z := ⟨_, rfl⟩
  have hZz : Z.size = c := by rw [← hZ, repeat_nought]; simp [ByteArray.size]
  have HF : Hid (⟨#[114, 117, 110, 47]⟩ ++ s ++ ⟨#[47]⟩ ++ Z ++ B = rkB s n) := by
    show _ = _
    apply ByteArray.ext
    rw [← hZ, ← hBl, repeat_nought, rkB, rkL, ← hpd, hc]
    simp [bytesOf]
  have HB := Lib.hid hB
  have HZ := Lib.hid hZ
  clear hl1 hl2 hpd hB hBl hBz hc hZ
  go_enter Tryd.func27, Tryd.ntmps27
  go_wp2_with fail
  go_at_call 51
  refine (itoa_bel n (by omega) (by omega) _ hP).mono ?_
  rw [HB.out]
  rintro x w1 ⟨rfl, hb1⟩
  go_wp2_with fail
  go_at_call 71
  rw [show max 0 (10 - (10 - (c : Int))) = ((c : Nat) : Int) by omega]
  refine (Tryd.strings_Repeat ⟨#[48]⟩ c _ (by omega) (by show 1 * c ≤ _; omega)).mono ?_
  rw [show (⟨(Lib.repeatL (⟨#[48]⟩ : ByteArray).data.toList c).toArray⟩ : ByteArray) = Z from HZ.out]
  rintro x w2 ⟨rfl, hb2⟩
  have hbel := bthen hb1 hb2
  clear hb1 hb2
  go_wp2
  go_ret
  exact ⟨by rw [← HF.out]; rfl, hbel⟩
set_option maxRecDepth 100000 in
theorem key_any (s : ByteArray) (w : World) (hs : s.size ≤ 1000000) :
    Calls Tryd.prog 29 #[.string s] w fun e w' => e = .returned (.string (⟨#[106, 111, 98, 47]⟩ ++ s)) ∧ w = w' := by
  go_enter Tryd.func29, Tryd.ntmps29
  go_wp2
  go_ret
  exact ⟨rfl, rfl⟩
set_option maxRecDepth 100000 in
theorem lastkey_any (s : ByteArray) (w : World) (hs : s.size ≤ 1000000) :
    Calls Tryd.prog 30 #[.string s] w fun e w' => e = .returned (.string (⟨#[108, 97, 115, 116, 47]⟩ ++ s)) ∧ w = w' := by
  go_enter Tryd.func30, Tryd.ntmps30
  go_wp2
  go_ret
  exact ⟨rfl, rfl⟩
set_option maxRecDepth 100000 in
theorem actkey_any (s : ByteArray) (w : World) (hs : s.size ≤ 1000000) :
    Calls Tryd.prog 31 #[.string s] w fun e w' => e = .returned (.string (⟨#[97, 99, 116, 47]⟩ ++ s)) ∧ w = w' := by
  go_enter Tryd.func31, Tryd.ntmps31
  go_wp2
  go_ret
  exact ⟨rfl, rfl⟩

theorem app_one_front (x : UInt8) (s : ByteArray) (l : List UInt8) (h : s.data.toList = l) : ((⟨#[x]⟩ : ByteArray) ++ s).data.toList = x :: l := by simp [h]
set_option maxHeartbeats 1000000 in
set_option maxRecDepth 100000 in
theorem rrunkey_any (s : ByteArray) (m : Int) (n : Nat) (w : World) (hs : s.size ≤ 1000000) (hm : m + 2000000000 = n) (hn : n < 10000000000) :
    Calls Tryd.prog 28 #[.string s, .int .i64 m] w fun e w' => e = .returned (.string (rkB s n)) ∧ Below w.heap.size w w' := by
  have hcv := conv1r
  go_enter Tryd.func28, Tryd.ntmps28
  go_wp2
  go_loopg [5, 6, 7] 10 (fun gk v sv iv wr => ∃ (i q : Nat) (T : ByteArray), v = .int .i64 q ∧ sv = .string T ∧ iv = .int .i64 i ∧ i ≤ 10 ∧ T.size = i ∧ q < 10000000000 ∧ Hid (pad (10 - i) q ++ T.data.toList = pad 10 n) ∧ gk = 10 - i ∧ Below w.heap.size w wr)
  case atStart => exact ⟨0, n, ⟨#[]⟩, rfl, rfl, rfl, by omega, rfl, hn, by show _ = _; simp, rfl, Below.refl _ _⟩
  case round =>
    obtain ⟨i, q, T, rfl, rfl, rfl, hi, hT, hq, HT, hgk, hbel⟩ := hrel
    have HG := Lib.hid hgk
    clear hgk
    have hTz : T.size ≤ 10 := by omega
    have HTZ := Lib.hid hT
    clear hT
    by_cases hlt : i < 10
    · have hR : IntKind.u8.wrap (48 + (q : Int) % 10) = ((48 + q % 10 : Nat) : Int) := by rw [IntKind.wrap_u8]; omega
      have tR : ((48 : Int) + (q : Int) % 10).toNat = 48 + q % 10 := by omega
      have HN : Hid (pad (10 - (i + 1)) (q / 10) ++ ((⟨#[UInt8.ofNat (48 + q % 10)]⟩ : ByteArray) ++ T).data.toList = pad 10 n) := by
        show _ = _
        rw [← HT.out, show 10 - i = (10 - (i + 1)) + 1 by omega, pad, app_one_front _ T _ rfl]
        simp
      rw [show UInt8.ofNat (48 + q % 10) = 48 + UInt8.ofNat (q % 10) by rw [UInt8.ofNat_add]; rfl] at HN
      go_wp2
      go_roundg (10 - (i + 1))
      case measure => have := HG.out; omega
      case rel => exact ⟨i + 1, q / 10, _, by congr 1, rfl, rfl, by omega, by rw [ByteArray.size_append, HTZ.out]; show 1 + i = _; omega, by omega, HN, rfl, bmore hbel _⟩
    · have HN : Hid (⟨#[114, 117, 110, 47]⟩ ++ s ++ ⟨#[47]⟩ ++ T = rkB s n) := by
        show _ = _
        apply ByteArray.ext
        have := HT.out
        rw [show 10 - i = 0 by omega] at this
        rw [rkB, rkL, ← this]
        simp [bytesOf, pad]
      go_wp2
      go_ret
      exact ⟨by rw [← HN.out]; rfl, hbel⟩
end Go.Proofs.YtdpaiaeaamokeaaDoor.Job
