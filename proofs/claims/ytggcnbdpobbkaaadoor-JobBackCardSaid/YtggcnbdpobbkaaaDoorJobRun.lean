/- The contracts of job.EncodeRun and job.ParseRun. -/
import Derived.Test.YtggcnbdpobbkaaaDoorJobTold
import Derived.Test.YtggcnbdpobbkaaaDoorJobEnc
namespace Go.Proofs.YtggcnbdpobbkaaaDoor.Job
open Go.RowKit Go Go.Proofs.YtggcnbdpobbkaaaDoor.Cron Go.Proofs.YtggcnbdpobbkaaaDoor.Cal

def runV (nm : ByteArray) (a b c : Int) : Value := .agg #[.string nm, .int .i64 a, .int .i64 b, .int .i64 c]
def runL (nm : List UInt8) (a b c : Int) : List UInt8 := nm ++ [32] ++ minL [a, b, c]
theorem min3 {X : World} {b : Nat} {p dl kp : Int} (hc : ∀ j, X.cell? ⟨b, j, none⟩ = (#[.int .i64 p, .int .i64 dl, .int .i64 kp] : Array Value)[j]?) (hb : b < X.heap.size)
    (hr : (-9223372036854775808 ≤ p ∧ p ≤ 9223372036854775807) ∧ (-9223372036854775808 ≤ dl ∧ dl ≤ 9223372036854775807) ∧ (-9223372036854775808 ≤ kp ∧ kp ≤ 9223372036854775807)) (hP : Pow X) :
    Calls Tryd.prog 22 #[.slice (some ⟨b, 0, none⟩) 3 3] X fun e w' => (∃ S : ByteArray, e = .returned (.string S) ∧ Hid (S.data.toList = minL [p, dl, kp]) ∧ S.size ≤ 100) ∧ Below X.heap.size X w' := by
  have h : SlOk X (some ⟨b, 0, none⟩) [p, dl, kp] := by
    intro i hi
    refine ⟨b, 0, rfl, hb, ?_, ?_, ?_⟩
    · rw [Nat.zero_add, hc i]
      match i, hi with
      | 0, _ => rfl
      | 1, _ => rfl
      | 2, _ => rfl
    · match i, hi with
      | 0, _ => exact hr.1.1
      | 1, _ => exact hr.2.1.1
      | 2, _ => exact hr.2.2.1
    · match i, hi with
      | 0, _ => exact hr.1.2
      | 1, _ => exact hr.2.1.2
      | 2, _ => exact hr.2.2.2
  refine (minutes_any (some ⟨b, 0, none⟩) 3 [p, dl, kp] X h (by simp) hP).mono fun e w' ⟨he, hw⟩ => ⟨⟨_, he, rfl, ?_⟩, hw⟩
  have := minL_len [p, dl, kp] (by simp [hr.1, hr.2.1, hr.2.2])
  rw [size_of _ (minL [p, dl, kp]) rfl]
  simp at this
  omega

set_option maxHeartbeats 2000000 in
set_option maxRecDepth 100000 in
theorem encrun_any (nm : ByteArray) (a b c : Int) (w : World) (hP : Pow w) (hn : nm.size ≤ 140737488351232)
    (hr1 : -9223372036854775808 ≤ a ∧ a ≤ 9223372036854775807) (hr2 : -9223372036854775808 ≤ b ∧ b ≤ 9223372036854775807) (hr3 : -9223372036854775808 ≤ c ∧ c ≤ 9223372036854775807) :
    Calls Tryd.prog 36 #[runV nm a b c] w fun x w' => (∃ S : ByteArray, x = .returned (.string S) ∧ S.data.toList = runL nm.data.toList a b c) ∧ Below w.heap.size w w' := by
  unfold runV
  go_enter Tryd.func36, Tryd.ntmps36
  go_wp2
  have hc := alloc_new w #[.string nm, .int .i64 a, .int .i64 b, .int .i64 c] 64
  have hgl : w.heap.size < (w.alloc (.cells #[.string nm, .int .i64 a, .int .i64 b, .int .i64 c] 64)).heap.size := by simp
  have hb0 := Lib.hid (bmore (Below.refl w.heap.size w) (.cells #[.string nm, .int .i64 a, .int .i64 b, .int .i64 c] 64))
  generalize w.alloc (.cells #[.string nm, .int .i64 a, .int .i64 b, .int .i64 c] 64) = w2 at *
  have hbs : Below w2.heap.size w2 w2 := Below.refl _ _
  have hP2 := hP.below hb0.out
  have hq0 : ¬ 9223372036854775807 < nm.size + 1 := by omega
  go_region_held3 (fun w' => (∀ o, w'.cell? ⟨w.heap.size, o, none⟩ = (#[.string nm, .int .i64 a, .int .i64 b, .int .i64 c] : Array Value)[o]?) ∧ Below w2.heap.size w2 w')
    (first
      | with_reducible exact txt_keep hc hgl hbs.drew
      | (with_reducible refine txt_alloc hc hgl ?_
         first | assumption | exact hbs | exact hbs.drew | (go_split_ands; assumption))
      | (with_reducible refine txt_allocD hc hgl ?_
         first | assumption | exact hbs | exact hbs.drew | (go_split_ands; assumption))
      | (with_reducible refine txt_keep hc hgl (bthen ?_ hb)
         first | assumption | exact hbs.drew | (go_split_ands; assumption))
      | go_keep)
    ((go_at_call 22; refine (min3 (by first | exact alloc_new _ _ _ | exact alloc_newD _ _ _) (by simp) ⟨hr1, hr2, hr3⟩ (hP2.below (by first | assumption | (go_split_ands; assumption)))).mono ?_
      rintro x w3 ⟨⟨M, rfl, HM, hMz⟩, hb⟩
      have hq1 : ¬ 9223372036854775807 < nm.size + 1 + M.size := by omega))
  all_goals (
    go_wp2_with fail
    go_ret
    refine ⟨⟨_, rfl, by have h1 := HM.out; simp [runL, h1]⟩, bthen hb0.out ?_⟩
    go_split_ands
    assumption)
end Go.Proofs.YtggcnbdpobbkaaaDoor.Job
