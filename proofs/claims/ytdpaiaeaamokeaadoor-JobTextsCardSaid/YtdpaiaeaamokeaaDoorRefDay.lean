/- The reference's has, day, inDay, inDayBack, and the statements' told. -/
import Derived.Test.YtdpaiaeaamokeaaDoorCronF
namespace Go.Proofs.YtdpaiaeaamokeaaDoor.Cron
open Go.RowKit Go Go.Proofs.YtdpaiaeaamokeaaDoor.Cal

def fld (e : Ex) : Nat → Nat
  | 0 => e.mi
  | 1 => e.ho
  | 2 => e.da
  | 3 => e.mo
  | _ => e.wk
theorem below_box (w : World) (o : Obj) (n : Nat) : Below w.heap.size w ((w.alloc o).drewN n) := below_drewN ((Below.refl _ _).alloc (Nat.le_refl _) _) _
set_option maxRecDepth 100000 in
theorem has_i (e : Ex) (x y : Int) (w : World) (he : ExOk e) (hx : 0 ≤ x ∧ x < 5) (hy : 0 ≤ y ∧ y ≤ 62) :
    Calls Tryd.prog 79 #[exV e, .int .i64 x, .int .i64 y] w fun r w' => r = .returned (.bool ((fld e x.toNat).testBit y.toNat)) ∧ Below w.heap.size w w' := by
  obtain ⟨n, rfl⟩ : ∃ n : Nat, y = n := ⟨y.toNat, by omega⟩
  rw [Int.toNat_natCast]
  obtain ⟨mi, ho, da, mo, wk, ad, aw⟩ := e
  obtain ⟨b1, b2, b3, b4, b5⟩ := he
  dsimp only at b1 b2 b3 b4 b5
  unfold exV
  have hx5 : x = 0 ∨ x = 1 ∨ x = 2 ∨ x = 3 ∨ x = 4 := by omega
  clear hx
  rcases hx5 with rfl | rfl | rfl | rfl | rfl
  · cases hb : mi.testBit n with
    | true =>
      have f1 := bit_yes mi n b1 hb
      have HF : Hid ((fld ⟨mi, ho, da, mo, wk, ad, aw⟩ (Int.toNat 0)).testBit n = true) := hb
      clear hb
      go_enter Tryd.func79, Tryd.ntmps79
      go_wp2
      go_ret
      exact ⟨ret_bool HF.out.symm, bmore (Below.refl _ _) _⟩
    | false =>
      have f1 := bit_no mi n b1 hb
      have HF : Hid ((fld ⟨mi, ho, da, mo, wk, ad, aw⟩ (Int.toNat 0)).testBit n = false) := hb
      clear hb
      go_enter Tryd.func79, Tryd.ntmps79
      go_wp2
      go_ret
      exact ⟨ret_bool HF.out.symm, bmore (Below.refl _ _) _⟩
  · cases hb : ho.testBit n with
    | true =>
      have f1 := bit_yes ho n b2 hb
      have HF : Hid ((fld ⟨mi, ho, da, mo, wk, ad, aw⟩ (Int.toNat 1)).testBit n = true) := hb
      clear hb
      go_enter Tryd.func79, Tryd.ntmps79
      go_wp2
      go_ret
      exact ⟨ret_bool HF.out.symm, bmore (Below.refl _ _) _⟩
    | false =>
      have f1 := bit_no ho n b2 hb
      have HF : Hid ((fld ⟨mi, ho, da, mo, wk, ad, aw⟩ (Int.toNat 1)).testBit n = false) := hb
      clear hb
      go_enter Tryd.func79, Tryd.ntmps79
      go_wp2
      go_ret
      exact ⟨ret_bool HF.out.symm, bmore (Below.refl _ _) _⟩
  · cases hb : da.testBit n with
    | true =>
      have f1 := bit_yes da n b3 hb
      have HF : Hid ((fld ⟨mi, ho, da, mo, wk, ad, aw⟩ (Int.toNat 2)).testBit n = true) := hb
      clear hb
      go_enter Tryd.func79, Tryd.ntmps79
      go_wp2
      go_ret
      exact ⟨ret_bool HF.out.symm, bmore (Below.refl _ _) _⟩
    | false =>
      have f1 := bit_no da n b3 hb
      have HF : Hid ((fld ⟨mi, ho, da, mo, wk, ad, aw⟩ (Int.toNat 2)).testBit n = false) := hb
      clear hb
      go_enter Tryd.func79, Tryd.ntmps79
      go_wp2
      go_ret
      exact ⟨ret_bool HF.out.symm, bmore (Below.refl _ _) _⟩
  · cases hb : mo.testBit n with
    | true =>
      have f1 := bit_yes mo n b4 hb
      have HF : Hid ((fld ⟨mi, ho, da, mo, wk, ad, aw⟩ (Int.toNat 3)).testBit n = true) := hb
      clear hb
      go_enter Tryd.func79, Tryd.ntmps79
      go_wp2
      go_ret
      exact ⟨ret_bool HF.out.symm, bmore (Below.refl _ _) _⟩
    | false =>
      have f1 := bit_no mo n b4 hb
      have HF : Hid ((fld ⟨mi, ho, da, mo, wk, ad, aw⟩ (Int.toNat 3)).testBit n = false) := hb
      clear hb
      go_enter Tryd.func79, Tryd.ntmps79
      go_wp2
      go_ret
      exact ⟨ret_bool HF.out.symm, bmore (Below.refl _ _) _⟩
  · cases hb : wk.testBit n with
    | true =>
      have f1 := bit_yes wk n b5 hb
      have HF : Hid ((fld ⟨mi, ho, da, mo, wk, ad, aw⟩ (Int.toNat 4)).testBit n = true) := hb
      clear hb
      go_enter Tryd.func79, Tryd.ntmps79
      go_wp2
      go_ret
      exact ⟨ret_bool HF.out.symm, bmore (Below.refl _ _) _⟩
    | false =>
      have f1 := bit_no wk n b5 hb
      have HF : Hid ((fld ⟨mi, ho, da, mo, wk, ad, aw⟩ (Int.toNat 4)).testBit n = false) := hb
      clear hb
      go_enter Tryd.func79, Tryd.ntmps79
      go_wp2
      go_ret
      exact ⟨ret_bool HF.out.symm, bmore (Below.refl _ _) _⟩

theorem mOk_eq (ho mi j : Nat) (h m : Bool) (h1 : ho.testBit (j / 60) = h) (h2 : mi.testBit (j % 60) = m) : mOk ho mi j = (h && m) := by rw [mOk, h1, h2]

set_option maxHeartbeats 1000000 in
set_option maxRecDepth 100000 in
theorem inday_any (e : Ex) (f : Nat) (w : World) (he : ExOk e) (hf : f ≤ 1440) :
    Calls Tryd.prog 76 #[exV e, .int .i64 f] w fun x w' => EarlyPost e.ho e.mi f x ∧ Below w.heap.size w w' := by
  have HE : Hid (ExOk e) := he
  clear he
  obtain ⟨mi, ho, da, mo, wk, ad, aw⟩ := e
  unfold exV
  dsimp only
  go_enter Tryd.func76, Tryd.ntmps76
  go_wp2
  go_loopg [5] (1440 - f) (fun gk t wr => ∃ k : Nat, t = .int .i64 k ∧ f ≤ k ∧ k ≤ 1440 ∧ Hid (∀ j, f ≤ j → j < k → mOk ho mi j = false) ∧ Below w.heap.size w wr ∧ w.heap.size < wr.heap.size ∧ (∀ o, wr.cell? ⟨w.heap.size, o, none⟩ = (#[.int .u64 mi, .int .u64 ho, .int .u64 da, .int .u64 mo, .int .u64 wk, .bool ad, .bool aw] : Array Value)[o]?) ∧ gk = 1440 - k)
  case atStart => exact ⟨f, rfl, Nat.le_refl _, hf, fun j h1 h2 => absurd h2 (by omega), bmore (Below.refl _ _) _, by simp, alloc_new _ _ _, rfl⟩
  case round =>
    obtain ⟨k, rfl, hk1, hk2, HN, hbel, hz, hc, hgk⟩ := hrel
    have HG := Lib.hid hgk
    clear hgk
    by_cases hlt : k < 1440
    · obtain ⟨qh, hqh⟩ : ∃ qh, ho.testBit (k / 60) = qh := ⟨_, rfl⟩
      obtain ⟨qm, hqm⟩ : ∃ qm, mi.testBit (k % 60) = qm := ⟨_, rfl⟩
      have HM := Lib.hid (mOk_eq ho mi k qh qm hqh hqm)
      have HQ1 : Hid ((fld ⟨mi, ho, da, mo, wk, ad, aw⟩ (Int.toNat 1)).testBit ((k : Int) / 60).toNat = qh) := by show _ = _; rw [show ((k : Int) / 60).toNat = k / 60 by omega]; exact hqh
      have HQ2 : Hid ((fld ⟨mi, ho, da, mo, wk, ad, aw⟩ (Int.toNat 0)).testBit ((k : Int) % 60).toNat = qm) := by show _ = _; rw [show ((k : Int) % 60).toNat = k % 60 by omega]; exact hqm
      clear hqh hqm
      go_wp2_with fail
      go_at_call 79
      refine (has_i ⟨mi, ho, da, mo, wk, ad, aw⟩ 1 ((k : Int) / 60) _ HE.out (by omega) (by omega)).mono ?_
      rw [HQ1.out]
      rintro x w3 ⟨rfl, hb3⟩
      have hbel3 := bthen hbel hb3
      have hc3 := fun o => (keep0 hb3 hz o).trans (hc o)
      have hz3 := Nat.lt_of_lt_of_le hz hb3.size
      clear hb3 hbel hc hz
      cases qh with
      | false =>
        have HM2 : Hid (mOk ho mi k = false) := HM
        go_wp2
        go_roundg (1440 - (k + 1))
        case measure => have := HG.out; omega
        case rel =>
          refine ⟨k + 1, rfl, by omega, by omega, fun j h1 h2 => ?_, hbel3, hz3, hc3, rfl⟩
          by_cases ej : j = k
          · subst ej; exact HM2.out
          · exact HN.out j h1 (by omega)
      | true =>
        go_wp2_with fail
        go_at_call 79
        refine (has_i ⟨mi, ho, da, mo, wk, ad, aw⟩ 0 ((k : Int) % 60) _ HE.out (by omega) (by omega)).mono ?_
        rw [HQ2.out]
        rintro x w4 ⟨rfl, hb4⟩
        have hbel4 := bthen hbel3 hb4
        have hc4 := fun o => (keep0 hb4 hz3 o).trans (hc3 o)
        have hz4 := Nat.lt_of_lt_of_le hz3 hb4.size
        clear hb4 hbel3 hc3 hz3
        cases qm with
        | false =>
          have HM2 : Hid (mOk ho mi k = false) := HM
          go_wp2
          go_roundg (1440 - (k + 1))
          case measure => have := HG.out; omega
          case rel =>
            refine ⟨k + 1, rfl, by omega, by omega, fun j h1 h2 => ?_, hbel4, hz4, hc4, rfl⟩
            by_cases ej : j = k
            · subst ej; exact HM2.out
            · exact HN.out j h1 (by omega)
        | true =>
          have HM2 : Hid (mOk ho mi k = true) := HM
          go_wp2
          go_ret
          exact ⟨⟨_, rfl, .inr ⟨k, rfl, hk1, hlt, HM2.out, fun j h1 h2 => HN.out j h1 h2⟩⟩, hbel4⟩
    · go_wp2
      go_ret
      exact ⟨⟨_, rfl, .inl ⟨rfl, fun j h1 h2 => HN.out j h1 (by omega)⟩⟩, hbel⟩

set_option maxHeartbeats 1000000 in
set_option maxRecDepth 100000 in
theorem indayback_any (e : Ex) (f : Nat) (w : World) (he : ExOk e) (hf : f < 1440) :
    Calls Tryd.prog 78 #[exV e, .int .i64 f] w fun x w' => LatePost e.ho e.mi f x ∧ Below w.heap.size w w' := by
  have HE : Hid (ExOk e) := he
  clear he
  obtain ⟨mi, ho, da, mo, wk, ad, aw⟩ := e
  unfold exV
  dsimp only
  go_enter Tryd.func78, Tryd.ntmps78
  go_wp2
  go_loopg [5] (f + 1) (fun gk t wr => ∃ k : Nat, t = .int .i64 ((k : Int) - 1) ∧ k ≤ f + 1 ∧ Hid (∀ j, k ≤ j → j ≤ f → mOk ho mi j = false) ∧ Below w.heap.size w wr ∧ w.heap.size < wr.heap.size ∧ (∀ o, wr.cell? ⟨w.heap.size, o, none⟩ = (#[.int .u64 mi, .int .u64 ho, .int .u64 da, .int .u64 mo, .int .u64 wk, .bool ad, .bool aw] : Array Value)[o]?) ∧ gk = k)
  case atStart => exact ⟨f + 1, by congr 1; omega, Nat.le_refl _, fun j h1 h2 => absurd h2 (by omega), bmore (Below.refl _ _) _, by simp, alloc_new _ _ _, rfl⟩
  case round =>
    obtain ⟨k1, rfl, hk2, HN, hbel, hz, hc, hgk⟩ := hrel
    have HG := Lib.hid hgk
    clear hgk
    cases k1 with
    | zero =>
      go_wp2
      go_ret
      exact ⟨⟨_, rfl, .inl ⟨rfl, fun j h1 => HN.out j (by omega) h1⟩⟩, hbel⟩
    | succ k =>
      rw [show ((k + 1 : Nat) : Int) - 1 = k by omega]
      obtain ⟨qh, hqh⟩ : ∃ qh, ho.testBit (k / 60) = qh := ⟨_, rfl⟩
      obtain ⟨qm, hqm⟩ : ∃ qm, mi.testBit (k % 60) = qm := ⟨_, rfl⟩
      have HM := Lib.hid (mOk_eq ho mi k qh qm hqh hqm)
      have HQ1 : Hid ((fld ⟨mi, ho, da, mo, wk, ad, aw⟩ (Int.toNat 1)).testBit ((k : Int) / 60).toNat = qh) := by show _ = _; rw [show ((k : Int) / 60).toNat = k / 60 by omega]; exact hqh
      have HQ2 : Hid ((fld ⟨mi, ho, da, mo, wk, ad, aw⟩ (Int.toNat 0)).testBit ((k : Int) % 60).toNat = qm) := by show _ = _; rw [show ((k : Int) % 60).toNat = k % 60 by omega]; exact hqm
      clear hqh hqm
      go_wp2_with fail
      go_at_call 79
      refine (has_i ⟨mi, ho, da, mo, wk, ad, aw⟩ 1 ((k : Int) / 60) _ HE.out (by omega) (by omega)).mono ?_
      rw [HQ1.out]
      rintro x w3 ⟨rfl, hb3⟩
      have hbel3 := bthen hbel hb3
      have hc3 := fun o => (keep0 hb3 hz o).trans (hc o)
      have hz3 := Nat.lt_of_lt_of_le hz hb3.size
      clear hb3 hbel hc hz
      cases qh with
      | false =>
        have HM2 : Hid (mOk ho mi k = false) := HM
        go_wp2
        go_roundg k
        case measure => have := HG.out; omega
        case rel =>
          refine ⟨k, by congr 1, by omega, fun j h1 h2 => ?_, hbel3, hz3, hc3, rfl⟩
          by_cases ej : j = k
          · subst ej; exact HM2.out
          · exact HN.out j (by omega) h2
      | true =>
        go_wp2_with fail
        go_at_call 79
        refine (has_i ⟨mi, ho, da, mo, wk, ad, aw⟩ 0 ((k : Int) % 60) _ HE.out (by omega) (by omega)).mono ?_
        rw [HQ2.out]
        rintro x w4 ⟨rfl, hb4⟩
        have hbel4 := bthen hbel3 hb4
        have hc4 := fun o => (keep0 hb4 hz3 o).trans (hc3 o)
        have hz4 := Nat.lt_of_lt_of_le hz3 hb4.size
        clear hb4 hbel3 hc3 hz3
        cases qm with
        | false =>
          have HM2 : Hid (mOk ho mi k = false) := HM
          go_wp2
          go_roundg k
          case measure => have := HG.out; omega
          case rel =>
            refine ⟨k, by congr 1, by omega, fun j h1 h2 => ?_, hbel4, hz4, hc4, rfl⟩
            by_cases ej : j = k
            · subst ej; exact HM2.out
            · exact HN.out j (by omega) h2
        | true =>
          have HM2 : Hid (mOk ho mi k = true) := HM
          go_wp2
          go_ret
          exact ⟨⟨_, rfl, .inr ⟨k, rfl, by omega, HM2.out, fun j h1 h2 => HN.out j (by omega) h2⟩⟩, hbel4⟩
end Go.Proofs.YtdpaiaeaamokeaaDoor.Cron
