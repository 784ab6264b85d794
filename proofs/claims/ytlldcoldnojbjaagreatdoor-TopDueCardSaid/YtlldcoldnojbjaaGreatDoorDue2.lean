/- TopDue, walked. -/
import Derived.Test.YtlldcoldnojbjaaGreatDoorDue1
import Derived.Test.YtlldcoldnojbjaaGreatDoorMach16
namespace Go.Proofs.YtlldcoldnojbjaaGreatDoor.Cron
open Go.RowKit Go Go.Proofs.YtlldcoldnojbjaaGreatDoor.Cal

/-- The last minute that was due, ahead of m. -/
def LastOk (e : Ex) (l m : Int) : Prop := l = m - 1 ∨ l < m - 1 ∧ mt e (m - 1) = false
theorem next_one {e : Ex} {m r c : Int} (h : NextIs e (m - 1) r c) (h1 : 0 ≤ m) (h2 : m ≤ 60000000) (hm : mt e m = true) : r = m ∧ c = 0 := (next_due h (by omega) h2 (.inl rfl)).1 hm

set_option maxHeartbeats 4000000 in
set_option maxRecDepth 100000 in
theorem due_walk (s : ByteArray) (ws : s.size ≤ 140737488351232) (a1 : Int) (w1 : (Lit.int .i64 a1).wf = true) (a2 : Int) (w2 : (Lit.int .i64 a2).wf = true) (w : World) (hL : Laid w) :
    Calls Tryz.prog 3 #[.string s, .int .i64 a1, .int .i64 a2] w fun e w' => e = .returned (.bool true) ∧ Below w.heap.size w w' := by
  obtain ⟨pe, hpe⟩ : ∃ pe, pres s = pe := ⟨_, rfl⟩
  have HO : Hid (ExOk pe.1) := by have h := pres_ok s; rw [hpe] at h; exact h
  have HPE : Hid (pres s = pe) := hpe
  have HDU : Hid (pe.2 = 0 → ∀ (last m : Int) (w : World), Laid w → 0 ≤ last → last < m → m ≤ 60000000 → LastOk pe.1 last m → Calls Tryz.prog 7 #[.agg (jobD s), .int .i64 last, .int .i64 m] w fun x w' => x = .returned (.tuple #[.int .i64 (if mt pe.1 m then m else 0), .bool (mt pe.1 m)]) ∧ Below w.heap.size w w') := by
    intro h last m w hl h0 h1 h2 h3
    rw [← hpe] at h h3 ⊢
    exact due_any s last m w hl ws h h0 h1 h2 h3
  obtain ⟨⟨mi, ho, da, mo, wk, ad, aw⟩, c⟩ := pe
  have HX := Lib.hid hpe
  clear hpe HPE
  go_enter Tryz.func3, Tryz.ntmps3
  go_wp2_with fail
  go_at_call 4
  refine (Mach.known_t _).mono ?_
  rintro x wk0 ⟨rfl, hbel⟩
  have hL1 := hL.below hbel
  go_wp2_with fail
  go_at_call 5
  refine (parse_any s _ hL1.tabs hL1.max (by omega)).mono ?_
  rintro x wp ⟨hx, hbp⟩
  unfold ParPost exV at hx
  rw [HX.out] at hx
  subst hx
  have hbel2 := bthen hbel hbp
  clear hbel hbp hL1
  dsimp only
  by_cases hc0 : c ≠ 0
  · obtain ⟨q1, q2⟩ := cneD hc0
    go_wp2
    go_ret
    exact ⟨rfl, bmore hbel2 _⟩
  obtain rfl : c = 0 := by omega
  clear hc0
  obtain ⟨now, hnow⟩ : ∃ q, a1 % 50000000 = q := ⟨_, rfl⟩
  obtain ⟨mins, hmins⟩ : ∃ q, a2 % 25 = q := ⟨_, rfl⟩
  have hnb : 0 ≤ now ∧ now < 50000000 := by omega
  have hmb : 0 ≤ mins ∧ mins < 25 := by omega
  have HNOW := Lib.hid hnow
  have HMIN := Lib.hid hmins
  clear hnow hmins
  go_wp2_with fail
  go_at_call 6
  refine (withinT a1 50000000 _ (by omega) (by omega)).mono ?_
  rw [HNOW.out]
  rintro x w' ⟨rfl, rfl⟩
  go_wp2_with fail
  go_at_call 6
  refine (withinT a2 25 _ (by omega) (by omega)).mono ?_
  rw [HMIN.out]
  rintro x w' ⟨rfl, rfl⟩
  have HDV := Lib.hid (HDU.out trivial)
  clear HDU
  go_wp2
  have hE : ∀ o, ((wp.alloc (.cells #[.int .u64 mi, .int .u64 ho, .int .u64 da, .int .u64 mo, .int .u64 wk, .bool ad, .bool aw] 25)).alloc (.cells #[.string ⟨#[97]⟩, .string s, .int .i64 0, .int .i64 1, .int .i64 0, .bool false] 31)).cell? ⟨wp.heap.size, o, none⟩ = (#[.int .u64 mi, .int .u64 ho, .int .u64 da, .int .u64 mo, .int .u64 wk, .bool ad, .bool aw] : Array Value)[o]? := fun o => (alloc_old _ _ (by simp) o).trans (alloc_new _ _ _ o)
  have hJ : ∀ o, ((wp.alloc (.cells #[.int .u64 mi, .int .u64 ho, .int .u64 da, .int .u64 mo, .int .u64 wk, .bool ad, .bool aw] 25)).alloc (.cells #[.string ⟨#[97]⟩, .string s, .int .i64 0, .int .i64 1, .int .i64 0, .bool false] 31)).cell? ⟨wp.heap.size + 1, o, none⟩ = (#[.string ⟨#[97]⟩, .string s, .int .i64 0, .int .i64 1, .int .i64 0, .bool false] : Array Value)[o]? := fun o => (Mach.Blk.newAt (by simp)).cell o
  have hzz : wp.heap.size + 1 < ((wp.alloc (.cells #[.int .u64 mi, .int .u64 ho, .int .u64 da, .int .u64 mo, .int .u64 wk, .bool ad, .bool aw] 25)).alloc (.cells #[.string ⟨#[97]⟩, .string s, .int .i64 0, .int .i64 1, .int .i64 0, .bool false] 31)).heap.size := by simp
  have hbel3 := bmore (bmore hbel2 (.cells #[.int .u64 mi, .int .u64 ho, .int .u64 da, .int .u64 mo, .int .u64 wk, .bool ad, .bool aw] 25)) (.cells #[.string ⟨#[97]⟩, .string s, .int .i64 0, .int .i64 1, .int .i64 0, .bool false] 31)
  generalize (wp.alloc (.cells #[.int .u64 mi, .int .u64 ho, .int .u64 da, .int .u64 mo, .int .u64 wk, .bool ad, .bool aw] 25)).alloc (.cells #[.string ⟨#[97]⟩, .string s, .int .i64 0, .int .i64 1, .int .i64 0, .bool false] 31) = w0 at *
  clear hbel2
  go_loopg [10, 11] (mins.toNat) (fun gk t10 t11 wr => ∃ l m : Int, t10 = .int .i64 l ∧ t11 = .int .i64 m ∧ now ≤ l ∧ l < m ∧ m ≤ now + mins + 1 ∧ LastOk ⟨mi, ho, da, mo, wk, ad, aw⟩ l m ∧ Below w.heap.size w wr ∧ wp.heap.size + 1 < wr.heap.size ∧ (∀ o, wr.cell? ⟨wp.heap.size, o, none⟩ = (#[.int .u64 mi, .int .u64 ho, .int .u64 da, .int .u64 mo, .int .u64 wk, .bool ad, .bool aw] : Array Value)[o]?) ∧ (∀ o, wr.cell? ⟨wp.heap.size + 1, o, none⟩ = (#[.string ⟨#[97]⟩, .string s, .int .i64 0, .int .i64 1, .int .i64 0, .bool false] : Array Value)[o]?) ∧ gk = (now + mins + 1 - m).toNat)
  case atStart => exact ⟨now, now + 1, rfl, rfl, by omega, by omega, by omega, .inl (by omega), hbel3, hzz, hE, hJ, by omega⟩
  case round =>
    clear hbel3 hzz hE hJ
    obtain ⟨l, m, rfl, rfl, g1, g2, g3, g4, hbr, hzr, hEr, hJr, hgk⟩ := hrel
    have HG := Lib.hid hgk
    clear hgk
    by_cases hm : m ≤ now + mins
    · have hLr := hL.below hbr
      obtain ⟨b, hb0⟩ : ∃ b, mt ⟨mi, ho, da, mo, wk, ad, aw⟩ m = b := ⟨_, rfl⟩
      have hdu := HDV.out l m wr hLr (by omega) g2 (by omega) g4
      rw [hb0] at hdu
      have HB := Lib.hid hb0
      have HLO := Lib.hid g4
      clear hb0 g4
      cases b with
      | true =>
        rw [if_pos rfl] at hdu
        go_wp2_with fail
        go_at_call 7
        refine hdu.mono ?_
        rintro x w4 ⟨rfl, hb4⟩
        have hE4 := fun o => (keep0 hb4 (by omega) o).trans (hEr o)
        have hJ4 := fun o => (keep0 hb4 hzr o).trans (hJr o)
        have hz4 := Nat.lt_of_lt_of_le hzr hb4.size
        have hbel4 := bthen hbr hb4
        clear hb4 hEr hJr hzr hbr hLr hdu
        go_wp2_with fail
        go_at_call 8
        refine (matches_any ⟨mi, ho, da, mo, wk, ad, aw⟩ m _ HO.out).mono ?_
        rw [HB.out]
        rintro x w5 ⟨rfl, hb5⟩
        have hE5 := fun o => (keep0 hb5 (by omega) o).trans (hE4 o)
        have hJ5 := fun o => (keep0 hb5 hz4 o).trans (hJ4 o)
        have hz5 := Nat.lt_of_lt_of_le hz4 hb5.size
        have hbel5 := bthen hbel4 hb5
        have hL5 := hL.below hbel5
        clear hb5 hE4 hJ4 hz4 hbel4
        go_wp2_with fail
        go_at_call 9
        refine (next_any ⟨mi, ho, da, mo, wk, ad, aw⟩ (m - 1) _ HO.out hL5.db).mono ?_
        rintro x w6 ⟨⟨r, q, rfl, hn⟩, hb6⟩
        obtain ⟨rfl, rfl⟩ := next_one hn (by omega) (by omega) HB.out
        have hE6 := fun o => (keep0 hb6 (by omega) o).trans (hE5 o)
        have hJ6 := fun o => (keep0 hb6 hz5 o).trans (hJ5 o)
        have hz6 := Nat.lt_of_lt_of_le hz5 hb6.size
        have hbel6 := bthen hbel5 hb6
        clear hb6 hE5 hJ5 hz5 hbel5 hL5 hn
        go_wp2
        go_roundg ((now + mins + 1 - (r + 1)).toNat)
        case measure => have := HG.out; omega
        case rel => exact ⟨r, r + 1, rfl, rfl, by omega, by omega, by omega, .inl (by omega), hbel6, hz6, hE6, hJ6, rfl⟩
      | false =>
        rw [if_neg (by decide)] at hdu
        go_wp2_with fail
        go_at_call 7
        refine hdu.mono ?_
        rintro x w4 ⟨rfl, hb4⟩
        have hE4 := fun o => (keep0 hb4 (by omega) o).trans (hEr o)
        have hJ4 := fun o => (keep0 hb4 hzr o).trans (hJr o)
        have hz4 := Nat.lt_of_lt_of_le hzr hb4.size
        have hbel4 := bthen hbr hb4
        clear hb4 hEr hJr hzr hbr hLr hdu
        go_wp2_with fail
        go_at_call 8
        refine (matches_any ⟨mi, ho, da, mo, wk, ad, aw⟩ m _ HO.out).mono ?_
        rw [HB.out]
        rintro x w5 ⟨rfl, hb5⟩
        have hE5 := fun o => (keep0 hb5 (by omega) o).trans (hE4 o)
        have hJ5 := fun o => (keep0 hb5 hz4 o).trans (hJ4 o)
        have hz5 := Nat.lt_of_lt_of_le hz4 hb5.size
        have hbel5 := bthen hbel4 hb5
        have hL5 := hL.below hbel5
        clear hb5 hE4 hJ4 hz4 hbel4
        go_wp2_with fail
        go_at_call 9
        refine (next_any ⟨mi, ho, da, mo, wk, ad, aw⟩ (m - 1) _ HO.out hL5.db).mono ?_
        rintro x w6 ⟨⟨r, q, rfl, hn⟩, hb6⟩
        have hE6 := fun o => (keep0 hb6 (by omega) o).trans (hE5 o)
        have hJ6 := fun o => (keep0 hb6 hz5 o).trans (hJ5 o)
        have hz6 := Nat.lt_of_lt_of_le hz5 hb6.size
        have hbel6 := bthen hbel5 hb6
        clear hb6 hE5 hJ5 hz5 hbel5 hL5 hn
        go_wp2
        go_roundg ((now + mins + 1 - (m + 1)).toNat)
        case measure => have := HG.out; omega
        case rel => exact ⟨l, m + 1, rfl, rfl, by omega, by omega, by omega, .inr ⟨by omega, by have := HB.out; rw [show m + 1 - 1 = m by omega]; exact this⟩, hbel6, hz6, hE6, hJ6, rfl⟩
    · go_wp2
      go_ret
      exact ⟨rfl, hbr⟩
end Go.Proofs.YtlldcoldnojbjaaGreatDoor.Cron
