/- CronBlanks, walked. -/
import Derived.Test.YtggcnbdpobbkaaaDoorCronKnown
import Derived.Test.YtggcnbdpobbkaaaDoorOpenInts
import Derived.Laws.IdiomStrings
namespace Go.Proofs.YtggcnbdpobbkaaaDoor.Cron
open Go.RowKit Go Go.Proofs.YtggcnbdpobbkaaaDoor.Cal

theorem fold_snoc (l : List UInt8) (c : UInt8) : fold (l ++ [c]) = fstep (fold l) c := by rw [fold_append]; rfl
theorem fold_bl (l : List UInt8) (c : UInt8) (h : isBlank c = true) : fold (l ++ [c]) = ((fold l).1, false) := by rw [fold_snoc, fstep, if_pos h]
/-- Blanks around change nothing. -/
theorem pex_pad (l m : List UInt8) (h : (fold l).1 = (fold m).1) : pex (32 :: (l ++ [9])) = pex m := by
  have e : flds (32 :: (l ++ [9])) = flds m := by
    unfold flds
    rw [← h]
    have h2 : fold (32 :: (l ++ [9])) = fold (l ++ [9]) := by
      unfold fold
      rw [List.foldl_cons]
      congr 1
    rw [h2, fold_bl l 9 (by decide)]
  unfold pex
  rw [e]
theorem pres_pad (s T : ByteArray) (h : (fold T.data.toList).1 = (fold s.data.toList).1) (hs : s.size ≤ 100) (hT : T.size ≤ 98) : pres ((⟨#[32]⟩ : ByteArray) ++ T ++ ⟨#[9]⟩) = pres s := by
  have hz : ((⟨#[32]⟩ : ByteArray) ++ T ++ ⟨#[9]⟩).size ≤ 100 := by
    rw [ByteArray.size_append, ByteArray.size_append]
    show 1 + T.size + 1 ≤ 100
    omega
  have hd : ((⟨#[32]⟩ : ByteArray) ++ T ++ ⟨#[9]⟩).data.toList = 32 :: (T.data.toList ++ [9]) := by simp
  unfold pres
  rw [if_neg (by omega), if_neg (by omega), hd, pex_pad _ _ h]
theorem conv1b (w : World) (x : Int) (b cap : Nat) (h0 : w.cell? ⟨b, 0, none⟩ = some (.int .u8 x)) :
    (convert 55 9 (.slice (some ⟨b, 0, none⟩) 1 cap)).run Tryd.prog w = .ok (.string ⟨#[UInt8.ofNat x.toNat]⟩) w := by
  rw [run_convert_bytes_string w _ _ _ _ _ _ Tryd.underlying55 Tryd.underlying5 Tryd.underlying9]
  rw [run_bytesToString w ⟨b, 0, none⟩ 1 cap [x] (run_loadCells_list w _ [.int .u8 x] (fun j v hj => by
    match j, hj with
    | 0, hj => cases hj; exact h0
    | _ + 1, hj => simp at hj))]
  rfl
theorem cneB {c : Int} : (c == c) = true := by simp
theorem extract_one (s : ByteArray) (i : Nat) (h : i < s.size) : (s.extract i (i + 1)).data.toList = [s[i]] := by
  have := extract_take s i 1 (by omega)
  rw [take_snoc s i h] at this
  exact (List.append_cancel_left this).symm

theorem app_one (T : ByteArray) (x : UInt8) : (T ++ ⟨#[x]⟩).data.toList = T.data.toList ++ [x] := by simp
theorem app_list (T E : ByteArray) : (T ++ E).data.toList = T.data.toList ++ E.data.toList := by simp
set_option maxHeartbeats 2000000 in
set_option maxRecDepth 100000 in
theorem blanks_walk (s : ByteArray) (ws : s.size ≤ 140737488351232) (ao : Option Addr) (cap : Nat) (xs : List Int) (w : World) (w1 : SlOk w ao xs ∧ xs.length ≤ 9223372036854775807) (hL : Laid w) :
    Calls Tryd.prog 7 #[.string s, .slice ao xs.length cap] w fun e w' => e = .returned (.bool true) ∧ Below w.heap.size w w' := by
  obtain ⟨w1, hxl⟩ := w1
  have HS : Hid (SlOk w ao xs) := w1
  clear w1
  obtain ⟨pe, hpe⟩ : ∃ pe, pres s = pe := ⟨_, rfl⟩
  have HOk : Hid (ExOk pe.1) := by have h := pres_ok s; rw [hpe] at h; exact h
  obtain ⟨⟨mi, ho, da, mo, wk, ad, aw⟩, c⟩ := pe
  have HX := Lib.hid hpe
  clear hpe
  go_enter Tryd.func7, Tryd.ntmps7
  go_wp2_with fail
  go_at_call 24
  refine (known6 _ hL).mono ?_
  rintro x wk0 ⟨rfl, hbel⟩
  by_cases hs60 : 60 < s.size
  · have h1 : (60 : Int) < (s.size : Int) := by omega
    go_wp2
    go_ret
    exact ⟨rfl, hbel⟩
  by_cases hx8 : 8 < xs.length
  · have h1 : ¬ (60 : Int) < (s.size : Int) := by omega
    have h2 : (8 : Int) < (xs.length : Int) := by omega
    go_wp2
    go_ret
    exact ⟨rfl, hbel⟩
  have h1 : ¬ (60 : Int) < (s.size : Int) := by omega
  have h2 : ¬ (8 : Int) < (xs.length : Int) := by omega
  have hL1 := hL.below hbel
  go_wp2_with fail
  go_at_call 25
  refine (parse_any s _ hL1.tabs hL1.max (by omega)).mono ?_
  rintro x wp ⟨hx, hbp⟩
  unfold ParPost exV at hx
  rw [HX.out] at hx
  subst hx
  have hbel2 := bthen hbel hbp
  clear hbel hbp hL1
  have hce0 := alloc_new wp #[.int .u64 mi, .int .u64 ho, .int .u64 da, .int .u64 mo, .int .u64 wk, .bool ad, .bool aw] 37
  have hz00 : wp.heap.size < (wp.alloc (.cells #[.int .u64 mi, .int .u64 ho, .int .u64 da, .int .u64 mo, .int .u64 wk, .bool ad, .bool aw] 37)).heap.size := by simp
  have hbel3 := bmore hbel2 (.cells #[.int .u64 mi, .int .u64 ho, .int .u64 da, .int .u64 mo, .int .u64 wk, .bool ad, .bool aw] 37)
  clear hbel2
  go_wp2
  go_loopg [7, 8, 9] s.size (fun gk tv kv iv wr => ∃ (i k : Nat) (T : ByteArray), tv = .string T ∧ kv = .int .i64 k ∧ iv = .int .i64 i ∧ i ≤ s.size ∧ k ≤ xs.length ∧ T.size ≤ i + 3 * k ∧ Hid (fold T.data.toList = fold (s.data.toList.take i)) ∧ Below w.heap.size w wr ∧ wp.heap.size < wr.heap.size ∧
    (∀ o, wr.cell? ⟨wp.heap.size, o, none⟩ = (#[.int .u64 mi, .int .u64 ho, .int .u64 da, .int .u64 mo, .int .u64 wk, .bool ad, .bool aw] : Array Value)[o]?) ∧ gk = s.size - i)
  case atStart => exact ⟨0, 0, ⟨#[]⟩, rfl, rfl, rfl, by omega, by omega, by show 0 ≤ _; omega, rfl, hbel3, hz00, hce0, rfl⟩
  case round =>
    clear hbel3 hz00 hce0
    obtain ⟨i, k, T, rfl, rfl, rfl, hi, hk, hTz, HF, hbel, hz, hce, hgk⟩ := hrel
    have HG := Lib.hid hgk
    clear hgk
    by_cases hlt : i < s.size
    · have HXT := Lib.hid (extract_one s i hlt)
      have HTK := Lib.hid (take_snoc s i hlt)
      have hs1 : (i : Int) + 1 ≤ (s.size : Int) := by omega
      have hs2 : (i : Int) ≤ (i : Int) + 1 := by omega
      have hs3 : ((i : Int) + 1).toNat = i + 1 := by omega
      have hs4 : 0 ≤ (i : Int) + 1 := by omega
      obtain ⟨E, hE⟩ : ∃ E, s.extract i (i + 1) = E := ⟨_, rfl⟩
      rw [hE] at HXT
      have hEz : E.size = 1 := by have := congrArg List.length HXT.out; rw [Array.length_toList] at this; exact this
      by_cases hbl : isBlank s[i] = true ∧ k < xs.length
      · obtain ⟨hb1, hb2⟩ := hbl
        have HBL := Lib.hid hb1
        have hb3 : (k : Int) < (xs.length : Int) := by omega
        obtain ⟨b, o, rfl, hbb, hcell, hx1, hx2⟩ := HS.out k hb2
        obtain ⟨x, hx⟩ : ∃ x, xs.getD k 0 = x := ⟨_, rfl⟩
        rw [hx] at hcell hx1 hx2
        obtain ⟨q, hq⟩ : ∃ q, x % 4 = q := ⟨_, rfl⟩
        have hqb : 0 ≤ q ∧ q ≤ 3 := by omega
        have HQ := Lib.hid hq
        have hc32 : (s[i].toNat : Int) = 32 ∨ (s[i].toNat : Int) = 9 := by
          have := hb1; simp only [isBlank, decide_eq_true_eq] at this; omega
        clear hx hq hb1
        have hpick : ((s[i].toNat : Int) == 32) = true ∨ (((s[i].toNat : Int) == 32) = false ∧ ((s[i].toNat : Int) == 9) = true) := by
          rcases hc32 with h | h <;> simp [h]
        clear hc32
        rcases hpick with p1 | ⟨p1, p2⟩
        all_goals (
          go_wp2
          go_loopg [7, 10] 4 (fun gk2 tv jv wr2 => ∃ (j : Nat) (T2 : ByteArray), tv = .string T2 ∧ jv = .int .i64 j ∧ (j : Int) ≤ q ∧ T2.size ≤ T.size + j ∧ Hid ((fold T2.data.toList).1 = (fold T.data.toList).1) ∧ Below w.heap.size w wr2 ∧ wp.heap.size < wr2.heap.size ∧
            (∀ o, wr2.cell? ⟨wp.heap.size, o, none⟩ = (#[.int .u64 mi, .int .u64 ho, .int .u64 da, .int .u64 mo, .int .u64 wk, .bool ad, .bool aw] : Array Value)[o]?) ∧ gk2 = 4 - j)
          case atStart => exact ⟨0, T, rfl, rfl, by omega, by omega, rfl, hbel, hz, hce, rfl⟩
          case round =>
            clear hbel hz hce
            obtain ⟨j, T2, rfl, rfl, hj, hT2z, HF2, hbel, hz, hce, hgk2⟩ := hrel
            have HG2 := Lib.hid hgk2
            clear hgk2
            have hcw : wr.cell? ⟨b, o + k, none⟩ = some (.int .i64 x) := (keep0 hbel hbb (o + k)).trans hcell
            go_wp2_with fail
            go_at_call 34
            refine (within6 x 4 _ (by omega) (by omega)).mono ?_
            rintro y w4 ⟨rfl, rfl⟩
            rw [HQ.out]
            by_cases hjq : (j : Int) < q
            · have hj3 : j = 0 ∨ j = 1 ∨ j = 2 := by omega
              have hcv := conv1b
              have hT3 : ¬ 9223372036854775807 < T2.size + 1 := by omega
              rcases hj3 with rfl | rfl | rfl
              · go_wp2
                go_roundg (4 - (0 + 1))
                case measure => have := HG2.out; omega
                case rel =>
                  refine ⟨0 + 1, _, rfl, rfl, by omega, ?_, ?_, bmore hbel _, by simp; omega, fun o => (alloc_old _ _ hz o).trans (hce o), rfl⟩
                  · rw [ByteArray.size_append]; show T2.size + 1 ≤ _; omega
                  · show _ = _
                    rw [app_one, fold_bl _ _ (by decide)]; exact HF2.out
              · go_wp2
                go_roundg (4 - (1 + 1))
                case measure => have := HG2.out; omega
                case rel =>
                  refine ⟨1 + 1, _, rfl, rfl, by omega, ?_, ?_, bmore hbel _, by simp; omega, fun o => (alloc_old _ _ hz o).trans (hce o), rfl⟩
                  · rw [ByteArray.size_append]; show T2.size + 1 ≤ _; omega
                  · show _ = _
                    rw [app_one, fold_bl _ _ (by decide)]; exact HF2.out
              · go_wp2
                go_roundg (4 - (2 + 1))
                case measure => have := HG2.out; omega
                case rel =>
                  refine ⟨2 + 1, _, rfl, rfl, by omega, ?_, ?_, bmore hbel _, by simp; omega, fun o => (alloc_old _ _ hz o).trans (hce o), rfl⟩
                  · rw [ByteArray.size_append]; show T2.size + 1 ≤ _; omega
                  · show _ = _
                    rw [app_one, fold_bl _ _ (by decide)]; exact HF2.out
            · have hT3 : ¬ 9223372036854775807 < T2.size + E.size := by omega
              go_wp2
              go_roundg (s.size - (i + 1))
              case measure => have := HG.out; omega
              case rel =>
                refine ⟨i + 1, k + 1, T2 ++ E, rfl, rfl, rfl, by omega, by omega, ?_, ?_, hbel, hz, hce, rfl⟩
                · rw [ByteArray.size_append]; omega
                · show _ = _
                  rw [app_list, HXT.out, fold_bl _ _ HBL.out, HF2.out, HTK.out, fold_bl _ _ HBL.out, HF.out])
      · have hT3 : ¬ 9223372036854775807 < T.size + E.size := by omega
        have hsel : (((s[i].toNat : Int) == 32) = false ∧ ((s[i].toNat : Int) == 9) = false) ∨ ((((s[i].toNat : Int) == 32) = true ∨ (((s[i].toNat : Int) == 32) = false ∧ ((s[i].toNat : Int) == 9) = true)) ∧ ¬ (k : Int) < (xs.length : Int)) := by
          by_cases hb1 : isBlank s[i] = true
          · right
            refine ⟨?_, fun h => hbl ⟨hb1, by omega⟩⟩
            simp only [isBlank, decide_eq_true_eq] at hb1
            rcases hb1 with h | h <;> simp [h]
          · left
            simp only [isBlank, decide_eq_true_eq, not_or] at hb1
            constructor <;> simp <;> omega
        have HFN : Hid (fold (T ++ E).data.toList = fold (s.data.toList.take (i + 1))) := by
          show _ = _
          rw [app_list, HXT.out, fold_snoc, HTK.out, fold_snoc, HF.out]
        clear hbl
        rcases hsel with ⟨p1, p2⟩ | ⟨p1 | ⟨p1, p2⟩, p3⟩
        all_goals (
          go_wp2
          go_roundg (s.size - (i + 1))
          case measure => have := HG.out; omega
          case rel =>
            refine ⟨i + 1, k, T ++ E, rfl, rfl, rfl, by omega, by omega, ?_, HFN, hbel, hz, hce, rfl⟩
            rw [ByteArray.size_append]; omega)
    · have HP2 : Hid (pres ((⟨#[32]⟩ : ByteArray) ++ T ++ ⟨#[9]⟩) = (⟨mi, ho, da, mo, wk, ad, aw⟩, c)) := by
        show _ = _
        rw [pres_pad s T (by rw [HF.out, take_all s i (by omega)]) (by omega) (by omega), HX.out]
      have hL4 := hL.below hbel
      have hT3 : ¬ 9223372036854775807 < 1 + T.size := by omega
      have hT4 : ¬ 9223372036854775807 < 1 + T.size + 1 := by omega
      go_wp2_with fail
      go_at_call 25
      refine (parse_any _ _ hL4.tabs hL4.max (by rw [ByteArray.size_append, ByteArray.size_append]; show 1 + T.size + 1 ≤ _; omega)).mono ?_
      rintro x w5 ⟨hx, hb5⟩
      unfold ParPost exV at hx
      rw [HP2.out] at hx
      subst hx
      have hce5 := fun o => (keep0 hb5 hz o).trans (hce o)
      have hz5 := Nat.lt_of_lt_of_le hz hb5.size
      have hbel5 := bthen hbel hb5
      have hcc := cneB (c := c)
      clear hb5 hbel hce hz hL4
      go_wp2
      go_ret
      exact ⟨rfl, bmore hbel5 _⟩
theorem blanks_row (w : World) (s : ByteArray) (ws : s.size ≤ 140737488351232) (ao : Option Addr) (cap : Nat) (xs : List Int) (w1 : SlOk w ao xs ∧ xs.length ≤ 9223372036854775807) (hL : Laid w) :
    Calls Tryd.prog 7 #[.string s, .slice ao xs.length cap] w fun e w' => e = .returned (.bool true) ∧ Below w.heap.size w w' := blanks_walk s ws ao cap xs w w1 hL
end Go.Proofs.YtggcnbdpobbkaaaDoor.Cron
