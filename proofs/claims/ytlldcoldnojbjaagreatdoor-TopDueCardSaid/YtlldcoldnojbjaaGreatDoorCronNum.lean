/- The contract of cron.number. -/
import Derived.Test.YtlldcoldnojbjaaGreatDoorProg
import Derived.Test.YtlldcoldnojbjaaGreatDoorKit
import Derived.Test.YtlldcoldnojbjaaGreatDoorCronSpec
namespace Go.Proofs.YtlldcoldnojbjaaGreatDoor.Cron
open Go.RowKit Go

theorem list_get (s : ByteArray) (k : Nat) (h : k < s.size) : s.data.toList[k]'(by simpa using h) = s[k] := rfl
theorem take_snoc (s : ByteArray) (k : Nat) (h : k < s.size) : s.data.toList.take (k + 1) = s.data.toList.take k ++ [s[k]] := by
  rw [List.take_succ_eq_append_getElem (by simpa using h)]; rfl
theorem take_all (s : ByteArray) (k : Nat) (h : s.size ≤ k) : s.data.toList.take k = s.data.toList := List.take_of_length_le (by simpa using h)
theorem below_iter (w : World) (s : ByteArray) (k : Nat) : Below w.heap.size w (w.iter s k) := (Below.refl _ _).alloc (Nat.le_refl _) _

/-- A byte that is no digit: there is no number. -/
theorem pnum_bad (s : ByteArray) (k : Nat) (h : k < s.size) (hb : isDig s[k] = false) : pnum s.data.toList = -1 := by
  unfold pnum
  split
  · rfl
  · rw [if_neg]
    intro ha
    have := List.all_eq_true.1 ha s[k] (by rw [← list_get s k h]; exact List.getElem_mem _)
    rw [hb] at this; cases this

set_option maxRecDepth 100000 in
theorem number_any (s : ByteArray) (w : World) (hs : s.size ≤ 9223372036854775807) :
    Calls Tryz.prog 63 #[.string s] w fun e w' => e = .returned (.int .i64 (pnum s.data.toList)) ∧ Below w.heap.size w w' := by
  by_cases h : s.size < 1 ∨ 2 < s.size
  · rw [show pnum s.data.toList = -1 by unfold pnum; rw [if_pos (by simpa using h)]]
    rcases h with h | h
    · go_enter Tryz.func63, Tryz.ntmps63
      go_wp2
      go_ret
      exact ⟨rfl, Below.refl _ _⟩
    · have h' : ¬ s.size < 1 := by omega
      go_enter Tryz.func63, Tryz.ntmps63
      go_wp2
      go_ret
      exact ⟨rfl, Below.refl _ _⟩
  · have h1 : 1 ≤ s.size := by omega
    have h2 : s.size ≤ 2 := by omega
    go_enter Tryz.func63, Tryz.ntmps63
    go_wp2
    go_loopg [3] s.size (fun gk t wr => ∃ k : Nat, k ≤ s.size ∧ t = .int .i64 (dval (s.data.toList.take k)) ∧ (s.data.toList.take k).all isDig = true ∧ gk = s.size - k ∧ wr = w.iter s k)
    case atStart => exact ⟨0, by omega, rfl, rfl, rfl, rfl⟩
    case round =>
      obtain ⟨k, hk, rfl, hall, hgk, rfl⟩ := hrel
      have hd := dval_lt _ hall
      have hl : (s.data.toList.take k).length = k := by rw [List.length_take]; simp; omega
      rw [hl] at hd
      have HG := Lib.hid hgk
      have HA := Lib.hid hall
      clear hgk hl hall
      by_cases hlt : k < s.size
      · have hd9 : dval (s.data.toList.take k) ≤ 9 := by
          have : k = 0 ∨ k = 1 := by omega
          rcases this with rfl | rfl <;> simp at hd ⊢ <;> omega
        clear hd
        by_cases ha : (s[k]).toNat < 128
        · have hn := fun ty => run_next_ascii (P := Tryz.prog) w s k ty hlt ha
          by_cases hdig : isDig s[k] = true
          · have hq := (isDig_iff _).1 hdig
            have hsn : Hid (dval (s.data.toList.take (k + 1)) = 10 * dval (s.data.toList.take k) + (s[k].toNat - 48)) := by rw [take_snoc s k hlt]; exact dval_snoc _ _
            have hal : Hid ((s.data.toList.take (k + 1)).all isDig = true) := by
              show _ = _
              rw [take_snoc s k hlt, List.all_append, HA.out]; simpa using hdig
            clear hdig
            generalize dval (s.data.toList.take k) = n at *
            have hc0 : 48 ≤ (s[k].toNat : Int) := by omega
            have hc1 : (s[k].toNat : Int) ≤ 57 := by omega
            go_wp2
            go_roundg (s.size - (k + 1))
            case measure => have := HG.out; omega
            case rel => exact ⟨k + 1, by omega, by rw [hsn.out]; congr 1; omega, hal.out, rfl, rfl⟩
          · have hb : isDig s[k] = false := by simpa using hdig
            have HP : Hid (pnum s.data.toList = -1) := pnum_bad s k hlt hb
            have hq : (s[k]).toNat < 48 ∨ 57 < (s[k]).toNat := by
              have := isDig_iff s[k]; rw [hb] at this; simp at this; omega
            clear hb hdig
            rcases hq with hq | hq
            · have hc0 : (s[k].toNat : Int) < 48 := by omega
              go_wp2
              go_ret
              exact ⟨ret_int HP.out.symm, below_iter _ _ _⟩
            · have hc0 : ¬ (s[k].toNat : Int) < 48 := by omega
              have hc1 : (57 : Int) < (s[k].toNat : Int) := by omega
              go_wp2
              go_ret
              exact ⟨ret_int HP.out.symm, below_iter _ _ _⟩
        · have hn := fun ty => run_next_any (P := Tryz.prog) w s k ty hlt
          have hh := (decode_high s k hlt (by omega)).1
          have HP : Hid (pnum s.data.toList = -1) := pnum_bad s k hlt (by
            have := isDig_iff s[k]
            cases hb : isDig s[k] with
            | false => rfl
            | true => rw [hb] at this; simp at this; omega)
          generalize (Utf8.decode s k).1 = r at *
          have hc0 : ¬ (r : Int) < 48 := by omega
          have hc1 : (57 : Int) < (r : Int) := by omega
          go_wp2
          go_ret
          exact ⟨ret_int HP.out.symm, below_iter _ _ _⟩
      · have hk2 : s.size = k := by omega
        have HP : Hid (pnum s.data.toList = dval (s.data.toList.take k)) := by
          have e : s.data.toList.take k = s.data.toList := take_all s k (by omega)
          have := HA.out
          rw [e] at this
          show _ = _
          have hz : s.data.toList.length = s.size := by rw [Array.length_toList]; rfl
          rw [e]; unfold pnum; rw [if_neg (by rw [hz]; omega), if_pos this]
        have hn := fun ty => run_next_end (P := Tryz.prog) w s k ty hlt
        clear hk2 hd
        go_wp2
        go_ret
        exact ⟨ret_int HP.out.symm, below_iter _ _ _⟩
end Go.Proofs.YtlldcoldnojbjaaGreatDoor.Cron
