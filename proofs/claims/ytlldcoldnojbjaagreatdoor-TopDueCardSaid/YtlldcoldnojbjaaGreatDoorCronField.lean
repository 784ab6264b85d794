/- The contract of cron.field. -/
import Derived.Test.YtlldcoldnojbjaaGreatDoorCronItem
namespace Go.Proofs.YtlldcoldnojbjaaGreatDoor.Cron
open Go.RowKit Go

theorem pieces_le (c : UInt8) : ∀ (l p : List UInt8), p ∈ pieces c l → p.length ≤ l.length
  | [], p, h => by simp [pieces] at h; subst h; simp
  | b :: l, p, h => by
    have ih := pieces_le c l
    rw [pieces] at h
    split at h
    · rcases List.mem_cons.1 h with rfl | h
      · simp
      · have := ih p h; simp; omega
    · split at h
      · simp at h; subst h; simp
      · rename_i q qs hq
        rcases List.mem_cons.1 h with rfl | h
        · have := ih q (by rw [hq]; simp); simp; omega
        · have := ih p (by rw [hq]; simp [h]); simp; omega

theorem pitem_lt (l : List UInt8) (lo hi : Nat) (hh : hi ≤ 62) : pitem l lo hi < 18446744073709551616 := by
  unfold pitem
  dsimp only
  generalize (if (cut1 45 l).2.2 = true then pnum (cut1 45 l).2.1 else pnum (cut1 45 l).1) = y
  split
  · omega
  · exact span_lt _ _ (by omega)
/-- What is left to be joined behind some pieces. -/
theorem pitems_step (lo hi : Nat) (ps : List (List UInt8)) (k : Nat) (acc : Nat) (p : List UInt8) (h : ps[k]? = some p) :
    pitems lo hi (ps.drop k) acc = if pitem p lo hi = 0 then 0 else pitems lo hi (ps.drop (k + 1)) (acc ||| pitem p lo hi) := by
  obtain ⟨hk, rfl⟩ := List.getElem?_eq_some_iff.1 h
  rw [List.drop_eq_getElem_cons hk, pitems]

set_option maxRecDepth 100000 in
theorem field_any (s : ByteArray) (lo hi : Nat) (w : World) (hm : MaxOk w) (hs : s.size < 4294967281) (hl : lo ≤ hi) (hh : hi ≤ 62) :
    Calls Tryz.prog 17 #[.string s, .int .i64 lo, .int .i64 hi] w fun e w' => e = .returned (.int .u64 (pfield s.data.toList lo hi : Nat)) ∧ Below w.heap.size w w' := by
  by_cases hstar : s.data.toList = [42]
  · have hP : Hid (pfield s.data.toList lo hi = spanN lo hi) := by show _ = _; rw [pfield, if_pos hstar]
    have hq : (s.toList == [42]) = true := by rw [Lib.toList_data, hstar]; rfl
    clear hstar
    go_enter Tryz.func17, Tryz.ntmps17
    go_wp2_with fail
    go_at_call 41
    refine (span_bel lo hi _ hl hh).mono ?_
    rintro e w1 ⟨rfl, hb1⟩
    go_wp2
    go_ret
    exact ⟨ret_int (by rw [hP.out]), hb1⟩
  · have hP : Hid (pfield s.data.toList lo hi = pitems lo hi (pieces 44 s.data.toList) 0) := by show _ = _; rw [pfield, if_neg hstar]
    have hq : (s.toList == [42]) = false := by rw [Lib.toList_data]; simpa using hstar
    clear hstar
    obtain ⟨m, hm0⟩ := hm
    obtain ⟨bs, hbs⟩ : ∃ bs : List ByteArray, bs = Lib.splitB ⟨#[44]⟩ 0 (Lib.countB s ⟨#[44]⟩) s := ⟨_, rfl⟩
    have hlen : bs.length = Lib.countB s ⟨#[44]⟩ + 1 := by rw [hbs]; exact Lib.splitB_all ⟨#[44]⟩ (by decide) 0 _ s rfl
    have hpc : bs.map (·.data.toList) = pieces 44 s.data.toList := by rw [hbs]; exact splitB_one 44 s
    have hcnt : Lib.countB s ⟨#[44]⟩ ≤ s.size := Lib.countB_le ⟨#[44]⟩ (by decide) s.size s (Nat.le_refl _)
    have HB := Lib.hid hbs
    have HC := Lib.hid hpc
    have HL := Lib.hid hlen
    have hm1 : MaxOk w := ⟨m, hm0⟩
    clear hbs hpc hlen
    go_enter Tryz.func17, Tryz.ntmps17
    go_wp2_with fail
    go_at_call 42
    refine (Tryz.strings_Split s ⟨#[44]⟩ m w hs hm0 (by decide)).mono ?_
    rw [← HB.out, ← HL.out]
    rintro e w1 ⟨rfl, rfl⟩
    go_wp2
    have HM := Lib.hid hm1
    have hbl : bs.length ≤ 4294967281 := by have := HL.out; omega
    clear hm1 hm0
    go_loopg [7, 19] bs.length (fun gk t c wr => ∃ k acc : Nat, k ≤ bs.length ∧ acc < 18446744073709551616 ∧ t = .int .u64 acc ∧ c = .int .i64 k ∧ pitems lo hi ((pieces 44 s.data.toList).drop k) acc = pitems lo hi (pieces 44 s.data.toList) 0 ∧ gk = bs.length - k ∧ Below (w.alloc (.cells (List.map Value.string bs).toArray 9)).heap.size (w.alloc (.cells (List.map Value.string bs).toArray 9)) wr)
    case atStart => exact ⟨0, 0, by omega, by omega, rfl, rfl, rfl, rfl, Below.refl _ _⟩
    case round =>
      obtain ⟨k, acc, hk, hacc, rfl, rfl, hT, hgk, hb⟩ := hrel
      have HG := Lib.hid hgk
      have HT := Lib.hid hT
      clear hgk hT
      have hbw : Below w.heap.size w wr := ((Below.refl w.heap.size w).alloc (Nat.le_refl _) _).trans (hb.mono (by simp))
      by_cases hlt : k < bs.length
      · have hcell : wr.cell? ⟨w.heap.size, k, none⟩ = some (.string bs[k]) := by
          rw [keepN hb k]; simp [hlt]
        have hp : (pieces 44 s.data.toList)[k]? = some bs[k].data.toList := by rw [← HC.out]; simp [hlt]
        have hsz : bs[k].size < 4294967281 := by
          have := pieces_le 44 s.data.toList bs[k].data.toList (List.mem_of_getElem? hp)
          rw [Array.length_toList, Array.length_toList] at this
          exact Nat.lt_of_le_of_lt this hs
        have HS := Lib.hid (pitems_step lo hi _ k acc _ hp)
        have hil := pitem_lt bs[k].data.toList lo hi hh
        have hMr := HM.out.below hbw
        have HBW := Lib.hid hb
        clear hb hp
        go_wp2_with fail
        go_at_call 43
        refine (item_any bs[k] lo hi _ hMr hsz hh).mono ?_
        rintro e w3 ⟨rfl, hb3⟩
        obtain ⟨it, hit⟩ : ∃ it, it = pitem bs[k].data.toList lo hi := ⟨_, rfl⟩
        rw [← hit] at hil ⊢
        rw [← hit] at HS
        clear hit
        by_cases hz : it = 0
        · subst hz
          go_wp2
          go_ret
          refine ⟨ret_int ?_, bthen hbw hb3⟩
          rw [hP.out, ← HT.out, HS.out, if_pos trivial]; rfl
        · have hz1 : ((it : Int) == 0) = false := by simp; exact hz
          have hor := bits_or_u64_nat acc it hacc hil
          go_wp2
          go_roundg (bs.length - (k + 1))
          case measure => have := HG.out; omega
          case rel => exact ⟨k + 1, acc ||| it, by omega, Nat.or_lt_two_pow (n := 64) hacc hil, rfl, rfl, by have := HS.out; rw [if_neg hz] at this; rw [← this]; exact HT.out, rfl, HBW.out.trans (hb3.mono HBW.out.size)⟩
      · have hkl : k = bs.length := by omega
        have hPV : Hid (pitems lo hi (pieces 44 s.data.toList) 0 = acc) := by
          show _ = _
          rw [← HT.out, List.drop_of_length_le (by rw [← HC.out]; simp; omega)]; rfl
        clear hkl hb
        go_wp2
        go_ret
        exact ⟨ret_int (by rw [hP.out, hPV.out]), hbw⟩
end Go.Proofs.YtlldcoldnojbjaaGreatDoor.Cron
