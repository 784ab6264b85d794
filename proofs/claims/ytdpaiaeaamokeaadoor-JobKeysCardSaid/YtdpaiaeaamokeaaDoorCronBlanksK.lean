/- The plain laws and small contracts behind CronLawBlanks. -/
import Derived.Test.YtdpaiaeaamokeaaDoorCronKnown
import Derived.Test.YtdpaiaeaamokeaaDoorOpenInts
import Derived.Laws.IdiomStrings
namespace Go.Proofs.YtdpaiaeaamokeaaDoor.Cron
open Go.RowKit Go Go.Proofs.YtdpaiaeaamokeaaDoor.Cal

theorem fold_snoc (l : List UInt8) (c : UInt8) : fold (l ++ [c]) = fstep (fold l) c := by rw [fold_append]; rfl
theorem fold_bl (l : List UInt8) (c : UInt8) (h : isBlank c = true) : fold (l ++ [c]) = ((fold l).1, false) := by rw [fold_snoc, fstep, if_pos h]
/-- Blanks around change nothing. -/
theorem pex_pad (l m : List UInt8) (h : (fold l).1 = (fold m).1) : pex (32 :: (l ++ [9])) = pex m := by
  have e : flds (32 :: (l ++ [9])) = flds m := by
    unfold flds
    rw [← h]
    have h2 : fold (32 :: (l ++ [9])) = fold (l ++ [9]) := by
      unfold fold
      rw [List.foldl_cons]
      congr 1
    rw [h2, fold_bl l 9 (by decide)]
  unfold pex
  rw [e]
theorem pres_pad (s T : ByteArray) (h : (fold T.data.toList).1 = (fold s.data.toList).1) (hs : s.size ≤ 100) (hT : T.size ≤ 98) : pres ((⟨#[32]⟩ : ByteArray) ++ T ++ ⟨#[9]⟩) = pres s := by
  have hz : ((⟨#[32]⟩ : ByteArray) ++ T ++ ⟨#[9]⟩).size ≤ 100 := by
    rw [ByteArray.size_append, ByteArray.size_append]
    show 1 + T.size + 1 ≤ 100
    omega
  have hd : ((⟨#[32]⟩ : ByteArray) ++ T ++ ⟨#[9]⟩).data.toList = 32 :: (T.data.toList ++ [9]) := by simp
  unfold pres
  rw [if_neg (by omega), if_neg (by omega), hd, pex_pad _ _ h]
theorem conv1b (w : World) (x : Int) (b cap : Nat) (h0 : w.cell? ⟨b, 0, none⟩ = some (.int .u8 x)) :
    (convert 50 9 (.slice (some ⟨b, 0, none⟩) 1 cap)).run Tryd.prog w = .ok (.string ⟨#[UInt8.ofNat x.toNat]⟩) w := by
  rw [run_convert_bytes_string w _ _ _ _ _ _ Tryd.underlying50 Tryd.underlying5 Tryd.underlying9]
  rw [run_bytesToString w ⟨b, 0, none⟩ 1 cap [x] (run_loadCells_list w _ [.int .u8 x] (fun j v hj => by
    match j, hj with
    | 0, hj => cases hj; exact h0
    | _ + 1, hj => simp at hj))]
  rfl
theorem cneB {c : Int} : (c == c) = true := by simp
theorem extract_one (s : ByteArray) (i : Nat) (h : i < s.size) : (s.extract i (i + 1)).data.toList = [s[i]] := by
  have := extract_take s i 1 (by omega)
  rw [take_snoc s i h] at this
  exact (List.append_cancel_left this).symm

theorem app_one (T : ByteArray) (x : UInt8) : (T ++ ⟨#[x]⟩).data.toList = T.data.toList ++ [x] := by simp
theorem app_list (T E : ByteArray) : (T ++ E).data.toList = T.data.toList ++ E.data.toList := by simp
end Go.Proofs.YtdpaiaeaamokeaaDoor.Cron
