/- The contract of job.Minutes. -/
import Derived.Test.YtdpaiaeaamokeaaDoorCronKnown
import Derived.Test.YtdpaiaeaamokeaaDoorCronStepsK
import Derived.Test.YtdpaiaeaamokeaaDoorOpenInts
import Derived.Lib.SmallJoins
import Derived.Lib.ItoaLen
namespace Go.Proofs.YtdpaiaeaamokeaaDoor.Job
open Go.RowKit Go Go.Proofs.YtdpaiaeaamokeaaDoor.Cron

def Pow (w : World) : Prop := Lib.TabIs Tryd.prog w "internal/strconv.uint64pow10" .u64 Lib.pow10Tab
theorem Pow.below {w w' : World} (h : Pow w) (hb : Below w.heap.size w w') : Pow w' := Joins.tab_stays (g := 4) (by kernel_rfl) h hb (Nat.le_refl _)
theorem grow_bel (w : World) (k : Nat) (os : Array Obj) : Below w.heap.size w (Sort.grow (w.drewN k) os) := by
  refine ⟨rfl, rfl, rfl, ?_, fun i hi => ?_⟩
  · simp [Sort.grow]
  · simp [Sort.grow, Array.getElem?_append_left hi]
theorem itoa_bel (n : Int) (h0 : -9223372036854775808 ≤ n) (h1 : n ≤ 9223372036854775807) (w : World) (h : Pow w) :
    Calls Tryd.prog 51 #[.int .i64 n] w fun e w' => e = .returned (.string (bytesOf (Lib.itoa n))) ∧ Below w.heap.size w w' :=
  (Tryd.strconv_Itoa n h0 h1 w h).mono fun _ _ ⟨he, k, os, hw⟩ => ⟨he, hw ▸ grow_bel w k os⟩
/-- Numbers, a blank between. -/
def minL (xs : List Int) : List UInt8 := Lib.join (xs.map Lib.itoa) [32]
theorem take_snocI (xs : List Int) (k : Nat) (h : k < xs.length) : xs.take (k + 1) = xs.take k ++ [xs.getD k 0] := by
  rw [List.take_succ_eq_append_getElem h, List.getD_eq_getElem?_getD, List.getElem?_eq_getElem h]; rfl

set_option maxHeartbeats 2000000 in
set_option maxRecDepth 100000 in
theorem minutes_any (ao : Option Addr) (cap : Nat) (xs : List Int) (w : World) (h : SlOk w ao xs) (hn : xs.length ≤ 1000) (hP : Pow w) :
    Calls Tryd.prog 13 #[.slice ao xs.length cap] w fun e w' => e = .returned (.string (bytesOf (minL xs))) ∧ Below w.heap.size w w' := by
  obtain ⟨i0, hi0, hz0, hz1, hz2⟩ := info_parts Tryd.infoStr
  have HS : Hid (SlOk w ao xs) := h
  clear h
  go_enter Tryd.func13, Tryd.ntmps13
  go_wp2
  go_loopg [3, 8] xs.length (fun gk v iv wr => ∃ (k : Nat) (bs : List ByteArray), iv = .int .i64 k ∧ k ≤ xs.length ∧ bs.length = k ∧ wr.ownsRow w.heap.size 9 1 v bs.length (bs.map Value.string) ∧ Below w.heap.size w wr ∧ Hid (bs.map (·.data.toList) = (xs.take k).map Lib.itoa) ∧ gk = xs.length - k)
  case atStart => exact ⟨0, [], rfl, by omega, rfl, World.ownsRow_nil _ _ _ _, Below.refl _ _, rfl, rfl⟩
  case round =>
    obtain ⟨k, bs, rfl, hk, hbl, hown, hbel, HB, hgk⟩ := hrel
    have HG := Lib.hid hgk
    have HBL := Lib.hid hbl
    have hbz : bs.length ≤ 1000 := by omega
    clear hgk hbl
    by_cases hlt : k < xs.length
    · obtain ⟨b, o, rfl, hbb, hcell, hx1, hx2⟩ := HS.out k hlt
      have HTK := Lib.hid (take_snocI xs k hlt)
      obtain ⟨x, hx⟩ : ∃ x, xs.getD k 0 = x := ⟨_, rfl⟩
      rw [hx] at hcell hx1 hx2 HTK
      have hcw : wr.cell? ⟨b, o + k, none⟩ = some (.int .i64 x) := (keep0 hbel hbb (o + k)).trans hcell
      clear hx
      have HI : Hid ((Lib.itoa x).length ≤ 21) := Lib.itoa_length_le x hx1 hx2
      go_wp2_with fail
      go_at_call 51
      refine (itoa_bel x hx1 hx2 _ (hP.below hbel)).mono ?_
      rintro y w5 ⟨rfl, hb5⟩
      have HO := Lib.hid (own_below hown hb5)
      have hbel5 := bthen hbel hb5
      clear hb5 hbel hown hcw hcell
      go_wp2_with (at_builtin; refine wpList_append_lies _ rfl _ _ 85 rfl w.heap.size 9 i0 (.string ⟨#[]⟩) 1 16 Tryd.underlying85 hi0 hz0 hz1 hz2 rfl (by decide) _ _ _ rfl (HO.out.alloc _) ⟨w5.heap.size, 0, none⟩ 1 1 [.string (bytesOf (Lib.itoa x))] rfl rfl ?c1 ?c2 (by decide) ?c3 ?c4 ?c5 _ rfl ?_)
      case c1 =>
        intro j u hj
        match j, hj with
        | 0, hj => simp at hj; subst hj; simp [Addr.add]
      case c2 => intro u hu; simp at hu; subst hu; rfl
      case c3 => unfold maxLen; omega
      case c4 => omega
      case c5 => have := hbel5.size; simp; omega
      · intro g cap w6 hown3 hgrow hat hgl
        obtain ⟨hbel6, -⟩ := own_grown (Nat.le_refl _) HO.out hbel5 hgrow
        clear hgrow hat hgl HO hbel5
        go_wp2
        go_roundg (xs.length - (k + 1))
        case measure => have := HG.out; omega
        case rel =>
          refine ⟨k + 1, bs ++ [bytesOf (Lib.itoa x)], rfl, by omega, by rw [List.length_append, HBL.out]; rfl, ?_, hbel6, ?_, rfl⟩
          · rw [List.length_append, List.map_append]; exact hown3
          · show _ = _
            rw [List.map_append, HB.out, HTK.out, List.map_append]; rfl
    · have HF : Hid (Lib.join (bs.map (·.data.toList)) [32] = minL xs) := by
        show _ = _
        rw [HB.out, List.take_of_length_le (by omega)]; rfl
      have HLn : Hid ((Lib.join (bs.map (·.data.toList)) [32]).length ≤ 140737488355328) := by
        show _ ≤ _
        rw [HB.out, List.take_of_length_le (by omega)]
        have := join_len [32] 21 (xs.map Lib.itoa) (by
          intro y hy
          obtain ⟨x, hx, rfl⟩ := List.mem_map.1 hy
          obtain ⟨j, hj, rfl⟩ := List.getElem_of_mem hx
          obtain ⟨_, _, _, _, _, h1, h2⟩ := HS.out j hj
          rw [List.getD_eq_getElem?_getD, List.getElem?_eq_getElem hj] at h1 h2
          exact Lib.itoa_length_le _ h1 h2)
        simp at this
        omega
      rcases hown.2 with ⟨rfl, hz⟩ | ⟨g, cap, cur, rfl, hgB, hrest⟩
      · have h0 : bs = [] := List.eq_nil_of_length_eq_zero hz
        subst h0
        go_wp2_with fail
        go_at_call 52
        refine (Tryd.strings_Join_none none 0 ⟨#[32]⟩ _).mono ?_
        rintro x5 w5 ⟨rfl, rfl⟩
        go_wp2
        go_ret
        exact ⟨by rw [show bytesOf (minL xs) = ⟨#[]⟩ by rw [← HF.out]; rfl]; rfl, hbel⟩
      · go_wp2_with fail
        go_at_call 52
        have hcells : ∀ (i : Nat) x, bs[i]? = some x → wr.cell? ⟨g, 0 + i, none⟩ = some (.string x) := by
          intro i x hx
          obtain ⟨hi3, rfl⟩ := List.getElem?_eq_some_iff.1 hx
          rw [Nat.zero_add, hown.cellAt i (by omega)]
          simp
        have hgl : g < wr.heap.size := (hown.lt g rfl).2
        refine (Tryd.strings_Join g 0 cap bs ⟨#[32]⟩ _ hcells hgl (by omega) hrest.2.1 HLn.out).mono ?_
        rw [show (Lib.join (bs.map (·.data.toList)) (⟨#[32]⟩ : ByteArray).data.toList) = minL xs from HF.out]
        rintro x5 w5 ⟨rfl, hb5⟩
        have hbel5 := bthen hbel hb5
        clear hb5 hcells hown hrest
        go_wp2
        go_ret
        exact ⟨rfl, hbel5⟩
end Go.Proofs.YtdpaiaeaamokeaaDoor.Job
