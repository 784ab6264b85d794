/- The references' decimal, digits, Decimal. -/
import Derived.Test.YtdpaiaeaamokeaaDoorCronF
import Derived.Test.YtdpaiaeaamokeaaDoorJobA
import Derived.Laws.IdiomStrings
namespace Go.Proofs.YtdpaiaeaamokeaaDoor.Job
open Go.RowKit Go Go.Proofs.YtdpaiaeaamokeaaDoor.Cron

theorem conv1r (w : World) (x : Int) (b cap : Nat) (h0 : w.cell? ⟨b, 0, none⟩ = some (.int .u8 x)) :
    (convert 50 9 (.slice (some ⟨b, 0, none⟩) 1 cap)).run Tryd.prog w = .ok (.string ⟨#[UInt8.ofNat x.toNat]⟩) w := by
  rw [run_convert_bytes_string w _ _ _ _ _ _ Tryd.underlying50 Tryd.underlying5 Tryd.underlying9]
  rw [run_bytesToString w ⟨b, 0, none⟩ 1 cap [x] (run_loadCells_list w _ [.int .u8 x] (fun j v hj => by
    match j, hj with
    | 0, hj => cases hj; exact h0
    | _ + 1, hj => simp at hj))]
  rfl
theorem bytes_app (a b : List UInt8) : (bytesOf a) ++ (bytesOf b) = bytesOf (a ++ b) := by
  apply ByteArray.ext
  simp [bytesOf]
theorem dec_small (n : Nat) (h : n < 10) : Lib.decDigits n = [UInt8.ofNat (48 + n)] := by rw [Lib.decDigits, dif_pos h]
theorem dec_big (n : Nat) (h : 10 ≤ n) : Lib.decDigits n = Lib.decDigits (n / 10) ++ Lib.decDigits (n % 10) := by
  rw [Lib.decDigits, dif_neg (by omega), dec_small (n % 10) (by omega)]

theorem bytes_size (l : List UInt8) : (bytesOf l).size = l.length := by simp [bytesOf, ByteArray.size]
theorem dec_size (n : Nat) (h : n < 100000000000000000000) : (bytesOf (Lib.decDigits n)).size ≤ 20 := by rw [bytes_size]; exact dec_len n 20 (by omega) (by omega)

set_option maxHeartbeats 1000000 in
set_option maxRecDepth 100000 in
theorem decimal_any (n : Nat) (w : World) (hn : n ≤ 9223372036854775807) :
    Calls Tryd.prog 93 #[.int .i64 n] w fun e w' => e = .returned (.string (bytesOf (Lib.decDigits n))) ∧ Below w.heap.size w w' := by
  induction n using Nat.strongRecOn generalizing w with
  | ind n ih =>
    by_cases h : 10 ≤ n
    · obtain ⟨A, hA⟩ : ∃ A, bytesOf (Lib.decDigits (n / 10)) = A := ⟨_, rfl⟩
      obtain ⟨B, hB⟩ : ∃ B, bytesOf (Lib.decDigits (n % 10)) = B := ⟨_, rfl⟩
      have hAz : A.size ≤ 20 := by rw [← hA]; exact dec_size _ (by omega)
      have hBz : B.size ≤ 20 := by rw [← hB]; exact dec_size _ (by omega)
      have HD : Hid (bytesOf (Lib.decDigits n) = A ++ B) := by show _ = _; rw [dec_big n h, ← bytes_app, hA, hB]
      have I1 := fun w => ih (n / 10) (by omega) w (by omega)
      have I2 := fun w => ih (n % 10) (by omega) w (by omega)
      rw [show ((n / 10 : Nat) : Int) = (n : Int) / 10 by omega, hA] at I1
      rw [show ((n % 10 : Nat) : Int) = (n : Int) % 10 by omega, hB] at I2
      have H1 := Lib.hid I1
      have H2 := Lib.hid I2
      clear I1 I2 ih hA hB
      go_enter Tryd.func93, Tryd.ntmps93
      go_wp2_with fail
      go_at_call 93
      refine (H1.out _).mono ?_
      rintro x w1 ⟨rfl, hb1⟩
      go_wp2_with fail
      go_at_call 93
      refine (H2.out _).mono ?_
      rintro x w2 ⟨rfl, hb2⟩
      have hbel := bthen hb1 hb2
      clear hb1 hb2
      go_wp2
      go_ret
      exact ⟨by rw [HD.out]; rfl, hbel⟩
    · have HD := Lib.hid (dec_small n (by omega))
      have hR : IntKind.u8.wrap (48 + (n : Int)) = ((48 + n : Nat) : Int) := by rw [IntKind.wrap_u8]; omega
      have tR : ((48 : Int) + (n : Int)).toNat = 48 + n := by omega
      have hcv := conv1r
      clear ih
      go_enter Tryd.func93, Tryd.ntmps93
      go_wp2
      go_ret
      exact ⟨by rw [HD.out, UInt8.ofNat_add]; rfl, bmore (Below.refl _ _) _⟩

set_option maxHeartbeats 1000000 in
set_option maxRecDepth 100000 in
theorem digits_any (n : Nat) (w : World) (hn : n ≤ 9223372036854775808) :
    Calls Tryd.prog 86 #[.int .u64 n] w fun e w' => e = .returned (.string (bytesOf (Lib.decDigits n))) ∧ Below w.heap.size w w' := by
  induction n using Nat.strongRecOn generalizing w with
  | ind n ih =>
    by_cases h : 10 ≤ n
    · obtain ⟨A, hA⟩ : ∃ A, bytesOf (Lib.decDigits (n / 10)) = A := ⟨_, rfl⟩
      obtain ⟨B, hB⟩ : ∃ B, bytesOf (Lib.decDigits (n % 10)) = B := ⟨_, rfl⟩
      have hAz : A.size ≤ 20 := by rw [← hA]; exact dec_size _ (by omega)
      have hBz : B.size ≤ 20 := by rw [← hB]; exact dec_size _ (by omega)
      have HD : Hid (bytesOf (Lib.decDigits n) = A ++ B) := by show _ = _; rw [dec_big n h, ← bytes_app, hA, hB]
      have I1 := fun w => ih (n / 10) (by omega) w (by omega)
      have I2 := fun w => ih (n % 10) (by omega) w (by omega)
      rw [show ((n / 10 : Nat) : Int) = (n : Int) / 10 by omega, hA] at I1
      rw [show ((n % 10 : Nat) : Int) = (n : Int) % 10 by omega, hB] at I2
      have H1 := Lib.hid I1
      have H2 := Lib.hid I2
      clear I1 I2 ih hA hB
      go_enter Tryd.func86, Tryd.ntmps86
      go_wp2_with fail
      go_at_call 86
      refine (H1.out _).mono ?_
      rintro x w1 ⟨rfl, hb1⟩
      go_wp2_with fail
      go_at_call 86
      refine (H2.out _).mono ?_
      rintro x w2 ⟨rfl, hb2⟩
      have hbel := bthen hb1 hb2
      clear hb1 hb2
      go_wp2
      go_ret
      exact ⟨by rw [HD.out]; rfl, hbel⟩
    · have HD := Lib.hid (dec_small n (by omega))
      have hR : IntKind.u8.wrap (48 + (n : Int)) = ((48 + n : Nat) : Int) := by rw [IntKind.wrap_u8]; omega
      have tR : ((48 : Int) + (n : Int)).toNat = 48 + n := by omega
      have hcv := conv1r
      clear ih
      go_enter Tryd.func86, Tryd.ntmps86
      go_wp2
      go_ret
      exact ⟨by rw [HD.out, UInt8.ofNat_add]; rfl, bmore (Below.refl _ _) _⟩

theorem itoa_neg {n : Int} (h : n < 0) : bytesOf (Lib.itoa n) = (⟨#[45]⟩ : ByteArray) ++ bytesOf (Lib.decDigits n.natAbs) := by
  unfold Lib.itoa
  rw [if_pos h]
  apply ByteArray.ext
  simp [bytesOf]
theorem itoa_pos {n : Int} (h : ¬ n < 0) : bytesOf (Lib.itoa n) = bytesOf (Lib.decDigits n.toNat) := by
  unfold Lib.itoa
  rw [if_neg h]

set_option maxHeartbeats 1000000 in
set_option maxRecDepth 100000 in
theorem dec17_any (n : Int) (w : World) (h0 : -9223372036854775808 ≤ n) (h9 : n ≤ 9223372036854775807) :
    Calls Tryd.prog 53 #[.int .i64 n] w fun e w' => e = .returned (.string (bytesOf (Lib.itoa n))) ∧ Below w.heap.size w w' := by
  by_cases h : n < 0
  · obtain ⟨k, hk⟩ : ∃ k : Nat, n = -(k : Int) := ⟨n.natAbs, by omega⟩
    subst hk
    obtain ⟨A, hA⟩ : ∃ A, bytesOf (Lib.decDigits k) = A := ⟨_, rfl⟩
    have hAz : A.size ≤ 20 := by rw [← hA]; exact dec_size _ (by omega)
    have HD : Hid (bytesOf (Lib.itoa (-(k : Int))) = (⟨#[45]⟩ : ByteArray) ++ A) := by show _ = _; rw [itoa_neg h, ← hA, show (-(k : Int)).natAbs = k by omega]
    have HA := Lib.hid hA
    have e1 : IntKind.u64.wrap (-(k : Int)) = 18446744073709551616 - k := by rw [IntKind.wrap_u64]; omega
    have e2 : IntKind.u64.wrap (-(18446744073709551616 - (k : Int))) = k := by rw [IntKind.wrap_u64]; omega
    have e3 : IntKind.u64.wrap (0 - (18446744073709551616 - (k : Int))) = k := by rw [IntKind.wrap_u64]; omega
    clear hA
    go_enter Tryd.func53, Tryd.ntmps53
    go_wp2_with fail
    go_at_call 86
    refine (digits_any k _ (by omega)).mono ?_
    rw [HA.out]
    rintro x w1 ⟨rfl, hb1⟩
    go_wp2
    go_ret
    exact ⟨by rw [HD.out]; rfl, hb1⟩
  · obtain ⟨k, hk⟩ : ∃ k : Nat, n = (k : Int) := ⟨n.toNat, by omega⟩
    subst hk
    have HD : Hid (bytesOf (Lib.itoa (k : Int)) = bytesOf (Lib.decDigits k)) := by show _ = _; rw [itoa_pos h, Int.toNat_natCast]
    have e1 : IntKind.u64.wrap (k : Int) = k := by rw [IntKind.wrap_u64]; omega
    go_enter Tryd.func53, Tryd.ntmps53
    go_wp2_with fail
    go_at_call 86
    refine (digits_any k _ (by omega)).mono ?_
    rintro x w1 ⟨rfl, hb1⟩
    go_wp2
    go_ret
    exact ⟨by rw [HD.out]; rfl, hb1⟩
end Go.Proofs.YtdpaiaeaamokeaaDoor.Job
