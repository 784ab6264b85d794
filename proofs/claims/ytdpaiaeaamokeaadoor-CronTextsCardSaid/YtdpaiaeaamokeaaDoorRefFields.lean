/- The contract of the reference's fields. -/
import Derived.Test.YtdpaiaeaamokeaaDoorRefTextP
import Derived.Test.YtdpaiaeaamokeaaDoorCronFields
namespace Go.Proofs.YtdpaiaeaamokeaaDoor.Cron
open Go.RowKit Go

theorem one_newC (W : World) (v : Value) (t : TypeId) : ∀ j u, [v][j]? = some u → (W.alloc (.cells #[v] t)).cell? ((⟨W.heap.size, 0, none⟩ : Addr).add j) = some u := by
  intro j u hj
  match j, hj with
  | 0, hj =>
    simp at hj; subst hj
    simp [Addr.add]
theorem one_strC (S : ByteArray) : ∀ u ∈ [Value.string S], u.oneCell' = true := by intro u hu; simp at hu; subst hu; rfl
/-- So far the text's fields are read. -/
def FS (s : ByteArray) (i : Nat) (bs : List ByteArray) (fv : Value) : Prop :=
  (fv = .int .i64 (-1) ∧ i ≤ s.size ∧ Hid (fold (s.data.toList.take i) = (bs.map (·.data.toList), false))) ∨
  (∃ a : Nat, fv = .int .i64 a ∧ a ≤ i ∧ i ≤ s.size ∧ Hid (fold (s.data.toList.take i) = (bs.map (·.data.toList) ++ [(s.extract a i).data.toList], true))) ∨
  (i = s.size + 1 ∧ fv = .int .i64 (-1) ∧ Hid (bs.map (·.data.toList) = flds s.data.toList))
theorem fs_end (s : ByteArray) (i : Nat) (hi : i = s.size) (bs : List (List UInt8)) (b : Bool) (h : fold (s.data.toList.take i) = (bs, b)) : bs = flds s.data.toList := by
  rw [take_all s i (by omega)] at h
  unfold flds; rw [h]

def FieldsPost (B : Nat) (s : ByteArray) (x : Ending) (w' : World) : Prop :=
  ∃ (v : Value) (bs : List ByteArray), x = .returned v ∧ w'.ownsRow B 9 1 v bs.length (bs.map Value.string) ∧ bs.map (·.data.toList) = flds s.data.toList ∧ bs.length ≤ s.size + 1 ∧ ∀ b ∈ bs, b.size ≤ s.size

set_option maxHeartbeats 2000000 in
set_option maxRecDepth 100000 in
theorem rfields_any (s : ByteArray) (w : World) (hs : s.size ≤ 1000000) :
    Calls Tryd.prog 58 #[.string s] w fun e w' => FieldsPost w.heap.size s e w' ∧ Below w.heap.size w w' := by
  obtain ⟨i0, hi0, hz0, hz1, hz2⟩ := info_parts Tryd.infoStr
  go_enter Tryd.func58, Tryd.ntmps58
  go_wp2
  go_loopg [3, 4, 5] (s.size + 1) (fun gk v fv iv wr => ∃ (i : Nat) (bs : List ByteArray), iv = .int .i64 i ∧ FS s i bs fv ∧ bs.length ≤ i ∧ wr.ownsRow w.heap.size 9 1 v bs.length (bs.map Value.string) ∧ Below w.heap.size w wr ∧ Hid (∀ b ∈ bs, b.size ≤ s.size) ∧ gk = s.size + 1 - i)
  case atStart => exact ⟨0, [], rfl, .inl ⟨rfl, by omega, rfl⟩, by simp, World.ownsRow_nil _ _ _ _, Below.refl _ _, Lib.hid (fun b hb => by cases hb), rfl⟩
  case round =>
    obtain ⟨i, bs, rfl, hfs, hbl, hown, hbel, HA, hgk⟩ := hrel
    have HG := Lib.hid hgk
    have HO := Lib.hid hown
    clear hgk hown
    rcases hfs with ⟨rfl, hi, HF⟩ | ⟨a, rfl, hai, hi, HF⟩ | ⟨rfl, rfl, HF⟩
    · have hii : (i : Int) ≤ (s.size : Int) := by omega
      by_cases he : i = s.size
      · have e0 : ((i : Int) == (s.size : Int)) = true := by simp only [beq_iff_eq]; omega
        have HN : FS s (i + 1) bs (.int .i64 (-1)) := .inr (.inr ⟨by omega, rfl, fs_end s i he _ _ HF.out⟩)
        clear he
        go_wp2
        go_roundg (s.size + 1 - (i + 1))
        case measure => have := HG.out; omega
        case rel => exact ⟨i + 1, bs, rfl, HN, by omega, HO.out, hbel, HA, rfl⟩
      · have hlt : i < s.size := by omega
        have hlti : (i : Int) < (s.size : Int) := by omega
        have e0 : ((i : Int) == (s.size : Int)) = false := by simp only [beq_eq_false_iff_ne]; omega
        by_cases hb : isBlank s[i] = true
        · have HN : FS s (i + 1) bs (.int .i64 (-1)) := .inl ⟨rfl, by omega, fld_blank s i hlt hb _ _ HF.out⟩
          have hcs : (s[i].toNat : Int) = 32 ∨ (s[i].toNat : Int) = 9 := by
            simp only [isBlank, decide_eq_true_eq] at hb; omega
          have hpk : ((s[i].toNat : Int) == 32) = true ∨ (((s[i].toNat : Int) == 32) = false ∧ ((s[i].toNat : Int) == 9) = true) := by
            rcases hcs with h | h <;> simp [h]
          clear hcs hb he
          rcases hpk with p1 | ⟨p1, p2⟩
          · skip
            go_wp2
            go_roundg (s.size + 1 - (i + 1))
            case measure => have := HG.out; omega
            case rel => exact ⟨i + 1, bs, rfl, HN, by omega, HO.out, hbel, HA, rfl⟩
          · skip
            go_wp2
            go_roundg (s.size + 1 - (i + 1))
            case measure => have := HG.out; omega
            case rel => exact ⟨i + 1, bs, rfl, HN, by omega, HO.out, hbel, HA, rfl⟩
        · have hb' : isBlank s[i] = false := by simpa using hb
          have HN : FS s (i + 1) bs (.int .i64 i) := .inr (.inl ⟨i, rfl, by omega, by omega, fld_new s i hlt hb' _ HF.out⟩)
          have p1 : ((s[i].toNat : Int) == 32) = false := by
            simp only [isBlank, decide_eq_false_iff_not] at hb'; simp only [beq_eq_false_iff_ne]; omega
          have p2 : ((s[i].toNat : Int) == 9) = false := by
            simp only [isBlank, decide_eq_false_iff_not] at hb'; simp only [beq_eq_false_iff_ne]; omega
          clear hb hb' he
          go_wp2
          go_roundg (s.size + 1 - (i + 1))
          case measure => have := HG.out; omega
          case rel => exact ⟨i + 1, bs, rfl, HN, by omega, HO.out, hbel, HA, rfl⟩
    · have hii : (i : Int) ≤ (s.size : Int) := by omega
      have ha0 : (0 : Int) ≤ (a : Int) := by omega
      have ha1 : ¬ (a : Int) < 0 := by omega
      have k1 : (a : Int) ≤ (i : Int) := by omega
      have HZ : Hid ((s.extract a i).size ≤ s.size) := by show _ ≤ _; simp; omega
      by_cases he : i = s.size
      · have e0 : ((i : Int) == (s.size : Int)) = true := by simp only [beq_iff_eq]; omega
        have HN : FS s (i + 1) (bs ++ [s.extract a i]) (.int .i64 (-1)) := .inr (.inr ⟨by omega, rfl, by show _ = _; rw [List.map_append]; exact fs_end s i he _ _ HF.out⟩)
        clear he
        go_wp2_with (at_builtin; refine wpList_append_lies _ rfl _ _ 85 rfl w.heap.size 9 i0 (.string ⟨#[]⟩) 1 16 Tryd.underlying85 hi0 hz0 hz1 hz2 rfl (by decide) _ _ _ rfl (HO.out.alloc _) ⟨wr.heap.size, 0, none⟩ 1 1 [.string (s.extract a i)] rfl rfl (one_newC _ _ _) (one_strC _) (by decide) (by unfold maxLen; omega) (by omega) (by have := hbel.size; simp; omega) _ rfl ?_)
        intro g cap w1 hown3 hgrow hat hgl
        obtain ⟨hb3, -⟩ := own_grown (Nat.le_refl _) HO.out hbel hgrow
        clear hgrow hat hgl HO hbel
        go_wp2
        go_roundg (s.size + 1 - (i + 1))
        case measure => have := HG.out; omega
        case rel =>
          refine ⟨i + 1, bs ++ [s.extract a i], rfl, HN, by simp; omega, ?_, hb3, ?_, rfl⟩
          · rw [List.length_append, List.map_append]; exact hown3
          · intro b hb
            rcases List.mem_append.1 hb with hb | hb
            · exact HA.out b hb
            · simp at hb; subst hb; exact HZ.out
      · have hlt : i < s.size := by omega
        have hlti : (i : Int) < (s.size : Int) := by omega
        have e0 : ((i : Int) == (s.size : Int)) = false := by simp only [beq_eq_false_iff_ne]; omega
        by_cases hb : isBlank s[i] = true
        · have HN : FS s (i + 1) (bs ++ [s.extract a i]) (.int .i64 (-1)) := .inl ⟨rfl, by omega, by show _ = _; rw [List.map_append]; exact fld_blank s i hlt hb _ _ HF.out⟩
          have hcs : (s[i].toNat : Int) = 32 ∨ (s[i].toNat : Int) = 9 := by
            simp only [isBlank, decide_eq_true_eq] at hb; omega
          have hpk : ((s[i].toNat : Int) == 32) = true ∨ (((s[i].toNat : Int) == 32) = false ∧ ((s[i].toNat : Int) == 9) = true) := by
            rcases hcs with h | h <;> simp [h]
          clear hcs hb he
          rcases hpk with p1 | ⟨p1, p2⟩
          · skip
            go_wp2_with (at_builtin; refine wpList_append_lies _ rfl _ _ 85 rfl w.heap.size 9 i0 (.string ⟨#[]⟩) 1 16 Tryd.underlying85 hi0 hz0 hz1 hz2 rfl (by decide) _ _ _ rfl (HO.out.alloc _) ⟨wr.heap.size, 0, none⟩ 1 1 [.string (s.extract a i)] rfl rfl (one_newC _ _ _) (one_strC _) (by decide) (by unfold maxLen; omega) (by omega) (by have := hbel.size; simp; omega) _ rfl ?_)
            intro g cap w1 hown3 hgrow hat hgl
            obtain ⟨hb3, -⟩ := own_grown (Nat.le_refl _) HO.out hbel hgrow
            clear hgrow hat hgl HO hbel
            go_wp2
            go_roundg (s.size + 1 - (i + 1))
            case measure => have := HG.out; omega
            case rel =>
              refine ⟨i + 1, bs ++ [s.extract a i], rfl, HN, by simp; omega, ?_, hb3, ?_, rfl⟩
              · rw [List.length_append, List.map_append]; exact hown3
              · intro b hb
                rcases List.mem_append.1 hb with hb | hb
                · exact HA.out b hb
                · simp at hb; subst hb; exact HZ.out
          · skip
            go_wp2_with (at_builtin; refine wpList_append_lies _ rfl _ _ 85 rfl w.heap.size 9 i0 (.string ⟨#[]⟩) 1 16 Tryd.underlying85 hi0 hz0 hz1 hz2 rfl (by decide) _ _ _ rfl (HO.out.alloc _) ⟨wr.heap.size, 0, none⟩ 1 1 [.string (s.extract a i)] rfl rfl (one_newC _ _ _) (one_strC _) (by decide) (by unfold maxLen; omega) (by omega) (by have := hbel.size; simp; omega) _ rfl ?_)
            intro g cap w1 hown3 hgrow hat hgl
            obtain ⟨hb3, -⟩ := own_grown (Nat.le_refl _) HO.out hbel hgrow
            clear hgrow hat hgl HO hbel
            go_wp2
            go_roundg (s.size + 1 - (i + 1))
            case measure => have := HG.out; omega
            case rel =>
              refine ⟨i + 1, bs ++ [s.extract a i], rfl, HN, by simp; omega, ?_, hb3, ?_, rfl⟩
              · rw [List.length_append, List.map_append]; exact hown3
              · intro b hb
                rcases List.mem_append.1 hb with hb | hb
                · exact HA.out b hb
                · simp at hb; subst hb; exact HZ.out
        · have hb' : isBlank s[i] = false := by simpa using hb
          have HN : FS s (i + 1) bs (.int .i64 a) := .inr (.inl ⟨a, rfl, by omega, by omega, fld_more s a i hlt hai hb' _ HF.out⟩)
          have p1 : ((s[i].toNat : Int) == 32) = false := by
            simp only [isBlank, decide_eq_false_iff_not] at hb'; simp only [beq_eq_false_iff_ne]; omega
          have p2 : ((s[i].toNat : Int) == 9) = false := by
            simp only [isBlank, decide_eq_false_iff_not] at hb'; simp only [beq_eq_false_iff_ne]; omega
          clear hb hb' he
          go_wp2
          go_roundg (s.size + 1 - (i + 1))
          case measure => have := HG.out; omega
          case rel => exact ⟨i + 1, bs, rfl, HN, by omega, HO.out, hbel, HA, rfl⟩
    · have hii : ¬ ((s.size + 1 : Nat) : Int) ≤ (s.size : Int) := by omega
      go_wp2
      go_ret
      exact ⟨⟨_, bs, rfl, HO.out, HF.out, hbl, HA.out⟩, hbel⟩
end Go.Proofs.YtdpaiaeaamokeaaDoor.Cron
