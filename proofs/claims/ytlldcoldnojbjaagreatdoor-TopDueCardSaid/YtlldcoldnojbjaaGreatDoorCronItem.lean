/- The contract of cron.item. -/
import Derived.Test.YtlldcoldnojbjaaGreatDoorShelf
import Derived.Test.YtlldcoldnojbjaaGreatDoorCronNum
import Derived.Test.YtlldcoldnojbjaaGreatDoorCronSpan
import Derived.Test.YtlldcoldnojbjaaGreatDoorCronSplit
namespace Go.Proofs.YtlldcoldnojbjaaGreatDoor.Cron
open Go.RowKit Go

/-- What the library's search asks of memory: its variable holds some number. -/
def MaxOk (w : World) : Prop := ∃ m, w.cell? ⟨3, 0, none⟩ = some (.int .i64 m)
theorem MaxOk.below {w w' : World} (h : MaxOk w) (hb : Below w.heap.size w w') : MaxOk w' := by
  obtain ⟨m, hm⟩ := h
  refine ⟨m, ?_⟩
  rw [hb.cell (p := ⟨3, 0, none⟩) ?_, hm]
  rcases Nat.lt_or_ge 3 w.heap.size with h | h
  · exact h
  · simp [World.cell?, Array.getElem?_eq_none h] at hm

theorem size_toArray (l : List UInt8) : (⟨l.toArray⟩ : ByteArray).size = l.length := by simp [ByteArray.size]

theorem cut1_le (c : UInt8) : ∀ l : List UInt8, (cut1 c l).1.length ≤ l.length ∧ (cut1 c l).2.1.length ≤ l.length
  | [] => by simp [cut1]
  | b :: l => by
    have ih := cut1_le c l
    rw [cut1]; split
    · simp
    · simp; omega

/-- strings.Cut at a minus sign. -/
theorem cut_any (s : ByteArray) (w : World) (hm : MaxOk w) (hs : s.size < 4294967281) :
    Calls Tryz.prog 62 #[.string s, .string ⟨#[45]⟩] w fun e w' =>
      e = .returned (.tuple #[.string ⟨(cut1 45 s.data.toList).1.toArray⟩, .string ⟨(cut1 45 s.data.toList).2.1.toArray⟩, .bool (cut1 45 s.data.toList).2.2]) ∧ ∃ n, w' = w.drewN n := by
  obtain ⟨m, hm⟩ := hm
  refine (Tryz.strings_Cut s ⟨#[45]⟩ m w hs hm).mono ?_
  rintro e w' ⟨he, hw⟩
  have ec : Lib.cut s.data.toList (⟨#[45]⟩ : ByteArray).data.toList = cut1 45 s.data.toList := cut_one 45 s.data.toList
  rw [ec] at he
  exact ⟨he, hw⟩

set_option maxRecDepth 100000 in
theorem item_any (s : ByteArray) (lo hi : Nat) (w : World) (hm : MaxOk w) (hs : s.size < 4294967281) (hh : hi ≤ 62) :
    Calls Tryz.prog 43 #[.string s, .int .i64 lo, .int .i64 hi] w fun e w' => e = .returned (.int .u64 (pitem s.data.toList lo hi : Nat)) ∧ Below w.heap.size w w' := by
  have hcl := cut1_le 45 s.data.toList
  have hsz : s.data.toList.length = s.size := by rw [Array.length_toList]; rfl
  rw [hsz] at hcl
  obtain ⟨r, hr⟩ : ∃ r, r = cut1 45 s.data.toList := ⟨_, rfl⟩
  have hx := pnum_range r.1
  have hy := pnum_range r.2.1
  have hP : Hid (pitem s.data.toList lo hi = if pnum r.1 < (lo : Int) ∨ (hi : Int) < (if r.2.2 then pnum r.2.1 else pnum r.1) ∨ (if r.2.2 then pnum r.2.1 else pnum r.1) < pnum r.1 then 0 else spanN (pnum r.1).toNat (if r.2.2 then pnum r.2.1 else pnum r.1).toNat) := by
    show _ = _
    subst hr; rfl
  rw [← hr] at hcl
  have HR := Lib.hid hr
  clear hr hsz
  obtain ⟨a, b, two⟩ := r
  dsimp only at hcl hx hy hP
  go_enter Tryz.func43, Tryz.ntmps43
  go_wp2_with fail
  go_at_call 62
  refine (cut_any s _ hm hs).mono ?_
  rw [← HR.out]
  rintro e w1 ⟨rfl, n1, rfl⟩
  go_wp2_with fail
  go_at_call 63
  refine (number_any _ _ (by rw [size_toArray]; omega)).mono ?_
  rintro e w2 ⟨rfl, hb2⟩
  have hbel : Below w.heap.size w w2 := (below_drewN (Below.refl _ _) n1).trans hb2
  clear hb2 HR
  cases two
  · by_cases c1 : pnum a < (lo : Int)
    · go_wp2
      go_ret
      refine ⟨ret_int ?_, hbel⟩
      rw [hP.out, if_pos (.inl c1)]; rfl
    · by_cases c2 : (hi : Int) < pnum a
      · go_wp2
        go_ret
        refine ⟨ret_int ?_, hbel⟩
        rw [hP.out, if_pos (.inr (.inl c2))]; rfl
      · obtain ⟨x, hxa⟩ : ∃ x : Nat, pnum a = x := ⟨(pnum a).toNat, by omega⟩
        have HX := Lib.hid hxa
        clear hxa
        go_wp2_with fail
        rw [HX.out]
        go_at_call 41
        refine (span_bel x x _ (by omega) (by have := HX.out; omega)).mono ?_
        rintro e w3 ⟨rfl, hb3⟩
        go_wp2
        go_ret
        refine ⟨ret_int ?_, bthen hbel hb3⟩
        rw [hP.out, if_neg (by have := HX.out; simp; omega), HX.out]; rfl
  · go_wp2_with fail
    go_at_call 63
    refine (number_any _ _ (by rw [size_toArray]; omega)).mono ?_
    rintro e w3 ⟨rfl, hb3⟩
    have hbel2 := bthen hbel hb3
    clear hbel hb3
    by_cases c1 : pnum a < (lo : Int)
    · go_wp2
      go_ret
      refine ⟨ret_int ?_, hbel2⟩
      rw [hP.out, if_pos (.inl c1)]; rfl
    · by_cases c2 : (hi : Int) < pnum b
      · go_wp2
        go_ret
        refine ⟨ret_int ?_, hbel2⟩
        rw [hP.out, if_pos (.inr (.inl c2))]; rfl
      · by_cases c3 : pnum b < pnum a
        · go_wp2
          go_ret
          refine ⟨ret_int ?_, hbel2⟩
          rw [hP.out, if_pos (.inr (.inr c3))]; rfl
        · obtain ⟨x, hxa⟩ : ∃ x : Nat, pnum a = x := ⟨(pnum a).toNat, by omega⟩
          obtain ⟨y, hya⟩ : ∃ y : Nat, pnum b = y := ⟨(pnum b).toNat, by omega⟩
          have HX := Lib.hid hxa
          have HY := Lib.hid hya
          clear hxa hya
          go_wp2_with fail
          rw [HX.out, HY.out]
          go_at_call 41
          refine (span_bel x y _ (by have := HX.out; have := HY.out; omega) (by have := HY.out; omega)).mono ?_
          rintro e w4 ⟨rfl, hb4⟩
          go_wp2
          go_ret
          refine ⟨ret_int ?_, bthen hbel2 hb4⟩
          rw [hP.out, if_neg (by have := HX.out; have := HY.out; simp; omega), if_pos trivial, HX.out, HY.out]; rfl
end Go.Proofs.YtlldcoldnojbjaaGreatDoor.Cron
