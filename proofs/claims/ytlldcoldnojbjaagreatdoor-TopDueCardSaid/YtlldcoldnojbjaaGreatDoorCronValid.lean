/- The contract of strings.ToValidUTF8 where what is false is left out: what it hands back is the text itself where that is UTF-8, else a shorter one. -/
import Derived.Test.YtlldcoldnojbjaaGreatDoorShelf
import Derived.Test.YtlldcoldnojbjaaGreatDoorShelfB
import Derived.Test.YtlldcoldnojbjaaGreatDoorCronItem
import Derived.Shelf.Strings.BuilderCap
import Derived.Shelf.Strings.MapAny
import Derived.Lib.TrimU
import Derived.Lib.TrimUEq
import Derived.Lib.MapLaws
namespace Go.Proofs.YtlldcoldnojbjaaGreatDoor.Cron
open Go.RowKit Go

/-- From place k on the text is UTF-8. -/
inductive Val (s : ByteArray) : Nat → Prop
  | done {k : Nat} : s.size ≤ k → Val s k
  | step {k : Nat} : k < s.size → ¬ ((Utf8.decode s k).1 = 65533 ∧ (Utf8.decode s k).2 = 1) → Val s (k + (Utf8.decode s k).2) → Val s k

def Tabs (w : World) : Prop := Lib.Utf8Tabs 0 1 w
theorem Tabs.below {w w' : World} (h : Tabs w) (hb : Below w.heap.size w w') : Tabs w' := Utf8Tabs_below h hb

theorem width_le (s : ByteArray) (k : Nat) (h : k < s.size) : k + (Utf8.decode s k).2 ≤ s.size := by
  have hl : s.data.toList.length = s.size := by rw [Array.length_toList]; rfl
  rw [← Lib.decodeL_drop]
  have := Lib.decodeL_le (s.data.toList.drop k) (fun e => by have := congrArg List.length e; simp at this; omega)
  rw [List.length_drop, hl] at this
  omega

theorem bldAt_below {T e : TypeId} {B b : Nat} {p : Value} {bs : List Value} {W W' : World} (h : Lib.BuilderAtF T e B b p bs W) (hb : Below W.heap.size W W') : Lib.BuilderAtF T e B b p bs W' := by
  have hlt := h.lt
  obtain ⟨hB, v, hv, hown, hne⟩ := h
  exact ⟨hB, v, (hb.block b hlt).trans hv, hown.kept (row := none) ⟨hb.os, hb.tape, hb.output, hb.size, fun k hk _ => hb.block k hk⟩ (Classical.em _), hne⟩
/-- A builder stays one behind a call that only makes memory of its own. -/
theorem bld_below {T e : TypeId} {B b : Nat} {bs : List Value} {W W' : World} (h : Lib.IsBuilderF T e B b bs W) (hb : Below W.heap.size W W') : Lib.IsBuilderF T e B b bs W' :=
  h.elim (fun x => .inl (bldAt_below x hb)) (fun x => .inr (bldAt_below x hb))

theorem iter_old (w : World) (o : Obj) (s : ByteArray) : ((w.alloc o).iter s 0).heap[w.heap.size]? = some o := by
  show ((w.alloc o).alloc (.stringIter s 0)).heap[w.heap.size]? = some o
  rw [Below.heap_alloc _ _ _ (by simp)]
  exact Go.heap_alloc_new w o
theorem iter_new (w : World) (o : Obj) (s : ByteArray) : ((w.alloc o).iter s 0).heap[w.heap.size + 1]? = some (.stringIter s 0) := by
  show ((w.alloc o).alloc (.stringIter s 0)).heap[w.heap.size + 1]? = some (.stringIter s 0)
  have := Go.heap_alloc_new (w.alloc o) (.stringIter s 0)
  rw [World.size_alloc] at this
  exact this

/-- The post of the whole, hidden. -/
def TovPost (s : ByteArray) (e : Ending) : Prop := ∃ t : ByteArray, e = .returned (.string t) ∧ ((t = s ∧ Val s 0) ∨ (t.size < s.size ∧ ∃ c ∈ s.data.toList, 128 ≤ c.toNat))

set_option maxRecDepth 100000 in
theorem tov (s : ByteArray) (w : World) (hs : s.size ≤ 1000) (hT : Tabs w) :
    Calls Tryz.prog 15 #[.string s, .string ⟨#[]⟩] w fun e w' => TovPost s e ∧ Below w.heap.size w w' := by
  go_enter Tryz.func15, Tryz.ntmps15
  go_wp2
  go_loopg [0] s.size (fun gk x0 wr => ∃ k : Nat, x0 = .string s ∧ wr.heap[w.heap.size]? = some (.cells #[.pointer none, .slice none 0 0] 99 (0, 0)) ∧ wr.heap[w.heap.size + 1]? = some (.stringIter s k) ∧ Below w.heap.size w wr ∧ (Val s k → Val s 0) ∧ k ≤ s.size ∧ gk = s.size - k)
  case atStart =>
    refine ⟨0, rfl, ?_, ?_, ?_, id, by omega, rfl⟩
    · exact iter_old w _ s
    · exact iter_new w _ s
    · exact ((Below.refl _ _).alloc (Nat.le_refl _) _).alloc (by simp) _
  case round =>
    obtain ⟨k, rfl, hfr, hit, hbw, hV, hk, hgk⟩ := hrel
    have HG := Lib.hid hgk
    have HV : Hid (Val s k → Val s 0) := hV
    clear hgk hV
    by_cases hlt : k < s.size
    · have hn := fun ty => Lib.run_next_any_at (P := Tryz.prog) wr (w.heap.size + 1) s k ty hit hlt
      obtain ⟨R, hR⟩ : ∃ R, (Utf8.decode s k).1 = R := ⟨_, rfl⟩
      obtain ⟨K, hK⟩ : ∃ K, (Utf8.decode s k).2 = K := ⟨_, rfl⟩
      have hRb : R ≤ 1114111 := by rw [← hR]; exact Lib.rune_le s k
      have hK1 : 1 ≤ K := by rw [← hK]; exact Lib.width_pos s k
      have hKs : k + K ≤ s.size := by rw [← hK]; exact width_le s k hlt
      rw [hR, hK] at hn
      have hdg := Lib.decodeGo_extract s k hlt
      have HVs : Hid (¬ (R = 65533 ∧ K = 1) → Val s (k + K) → Val s k) := by
        show _ → _
        rw [← hR, ← hK]; exact Val.step hlt
      have hit2 : (wr.iterAt (w.heap.size + 1) s (k + K)).heap[w.heap.size + 1]? = some (.stringIter s (k + K)) := Lib.iterAt_heap wr _ s k _ hit
      have hfr2 : (wr.iterAt (w.heap.size + 1) s (k + K)).heap[w.heap.size]? = some (.cells #[.pointer none, .slice none 0 0] 99 (0, 0)) := by rw [Lib.iterAt_other _ _ _ _ _ (by omega)]; exact hfr
      have hbw2 : Below w.heap.size w (wr.iterAt (w.heap.size + 1) s (k + K)) := Lib.below_iterAt hbw (by omega) s _
      have HC : Hid (R = 65533 → ∃ c ∈ s.data.toList, 128 ≤ c.toNat) := by
        show _ → _
        intro h5
        refine ⟨s[k], by rw [← list_get s k hlt]; exact List.getElem_mem _, ?_⟩
        rcases Nat.lt_or_ge (s[k]).toNat 128 with ha | ha
        · have h1 := decode_ascii s k hlt ha
          rw [h1] at hR; dsimp only at hR; omega
        · exact ha
      have HD := Lib.hid (show Lib.decodeGo (s.extract k s.size) = (R, K) by rw [hdg, ← hR, ← hK])
      clear hdg hit hfr hbw
      generalize wr.iterAt (w.heap.size + 1) s (k + K) = W at *
      clear hR hK
      by_cases h5 : R = 65533
      · subst h5
        go_wp2_with fail
        go_at_call 35
        refine (Tryz.utf8_DecodeRuneInString (s.extract k s.size) W (hT.below hbw2)).mono ?_
        rw [HD.out]
        rintro e w3 ⟨rfl, hb3⟩
        have hszW : w.heap.size + 1 < W.heap.size := (Array.getElem?_eq_some_iff.1 hit2).1
        have hfr3 := (hb3.block _ (by omega)).trans hfr2
        have hit3 := (hb3.block _ (by omega)).trans hit2
        have hbw3 := bthen hbw2 hb3
        clear hb3 hit2 hfr2 hbw2
        have hb3 : True := trivial
        by_cases hk1 : K = 1
        · have hkz : ((K : Int) == 1) = true := by simp; omega
          go_wp2_with fail
          go_at_call 36
          refine (Tryz.Builder_Grow_fresh_cap w.heap.size w.heap.size s.size w3 (Nat.le_refl _) hfr3 hbw3.size (by omega)).mono ?_
          rintro e w4 ⟨rfl, ⟨hB4, hb4⟩, p4, cap4, hc4, hcap4⟩
          have hbw4 := hbw3.trans hb4
          go_wp2_with fail
          go_at_call 37
          refine (Any.Builder_WriteString_kc Tryz.laysW166 Tryz.laysW_Extra w.heap.size w.heap.size [] (s.extract 0 k) w4 (Lib.IsBuilderF.of (Or.inr hB4)) (by simp; omega) hbw4.size).mono ?_
          rintro e w5 ⟨rfl, ⟨hB5, hb5, -⟩, hcp⟩
          obtain ⟨v5, hc5, hcap5⟩ := hcp _ hc4
          have hbw5 := hbw4.trans hb5
          obtain ⟨p6, n6, cap6, hc6, hcap6⟩ : ∃ p6 n6 cap6, w5.cell? ⟨w.heap.size, 1, none⟩ = some (.slice p6 n6 cap6) ∧ 1 ≤ cap6 := by
            obtain ⟨_, v6, hv6, hown6, _⟩ := hB5
            have hvv : v6 = v5 := by
              have := Lib.cell_of_heap hv6 1
              rw [hc5] at this; simpa using this.symm
            subst hvv
            have h1 : 1 ≤ v6.capOf := Nat.le_trans (Nat.le_trans (by omega) hcap4) hcap5
            rcases hown6.2 with ⟨hv0, _⟩ | ⟨g6, c6, _, _, hv0, _⟩
            · rw [hv0] at h1; simp [Value.capOf] at h1
            · exact ⟨_, _, c6, by rw [hc5, hv0], by rw [hv0] at h1; exact h1⟩
          have hlen5 : (s.extract 0 k).size = k := by simp; omega
          have hcells : [] ++ Lib.strCells (s.extract 0 k) = Lib.byteCells (s.extract 0 k).data.toList := by rw [List.nil_append, Lib.strCells_eq]
          rw [hcells] at hB5
          obtain ⟨l0, hl0⟩ : ∃ l0, (s.extract 0 k).data.toList = l0 := ⟨_, rfl⟩
          have hl0n : l0.length = k := by rw [← hl0, Array.length_toList]; exact hlen5
          rw [hl0] at hB5
          obtain ⟨t, ht⟩ : ∃ t, s.extract k s.size = t := ⟨_, rfl⟩
          have htn : t.size + k = s.size := by rw [← ht]; simp; omega
          have hd0 : Hid (Utf8.decode t 0 = (65533, 1)) := by
            show _ = _
            have := HD.out
            rw [ht, hk1] at this
            rw [← this, Lib.decodeGo, if_neg (by omega)]
          rw [ht]
          have HB := Lib.hid (show Lib.IsBuilderF 99 5 w.heap.size w.heap.size (Lib.byteCells l0) w5 from Or.inr hB5)
          clear hB5 hcells hlen5 hl0 hc5 hcp hc4 hb5 hb4 hb3 hB4 HD
          have hcz : ((cap6 : Int) == 0) = false := by simp; omega
          go_wp2_with fail
          go_at_call 38
          refine (Tryz.Builder_Cap_cell w.heap.size p6 n6 cap6 w5 hc6).mono ?_
          rintro e w6 ⟨rfl, rfl⟩
          clear hc6
          go_wp2
          go_loopg [10, 11] t.size (fun gk x10 x11 wr => ∃ (i : Nat) (inv : Bool) (l : List UInt8), x10 = .bool inv ∧ x11 = .int .i64 i ∧ Lib.IsBuilderF 99 5 w.heap.size w.heap.size (Lib.byteCells l) wr ∧ Below w.heap.size w wr ∧ l.length ≤ k + i ∧ (0 < i → l.length < k + i) ∧ i ≤ t.size ∧ gk = t.size - i)
          case atStart => exact ⟨0, false, l0, rfl, rfl, HB.out, hbw5, by omega, fun h => absurd h (by omega), by omega, rfl⟩
          case round =>
            obtain ⟨i, inv, l, rfl, rfl, hB, hbr, hl, hl2, hi, hgi⟩ := hrel
            have HG2 := Lib.hid hgi
            have HL : Hid (0 < i → l.length < k + i) := hl2
            clear hgi hl2 HB hbw5
            by_cases hit : i < t.size
            · by_cases ha : (t[i]).toNat < 128
              · have ha1 : (t[i].toNat : Int) < 128 := by omega
                have hi0 : 0 < i := by
                  rcases Nat.eq_zero_or_pos i with h0 | h0
                  · subst h0
                    have h1 := decode_ascii t 0 hit ha
                    rw [hd0.out] at h1
                    simp at h1; omega
                  · exact h0
                go_wp2_with fail
                go_at_call 39
                refine (Any.Builder_WriteByte_k Tryz.laysW167 Tryz.laysW_Extra w.heap.size w.heap.size (Lib.byteCells l) t[i].toNat wr hB (by rw [Lib.byteCells_length]; omega) hbr.size).mono ?_
                rintro e w7 ⟨rfl, h7, hb7, -⟩
                have hB7 : Lib.IsBuilderF 99 5 w.heap.size w.heap.size (Lib.byteCells (l ++ [t[i]])) w7 := by rw [Lib.byteCells_append]; exact Or.inr h7
                have hbr7 := hbr.trans hb7
                clear h7 hb7 hB hbr
                go_wp2
                go_roundg (t.size - (i + 1))
                case measure => have := HG2.out; omega
                case rel => exact ⟨i + 1, false, l ++ [t[i]], rfl, rfl, hB7, hbr7, by simp; omega, fun _ => by have := HL.out hi0; simp; omega, by omega, rfl⟩
              · have ha1 : ¬ (t[i].toNat : Int) < 128 := by omega
                obtain ⟨Q, hQ⟩ : ∃ Q, (Utf8.decode t i).2 = Q := ⟨_, rfl⟩
                obtain ⟨R2, hR2⟩ : ∃ R2, (Utf8.decode t i).1 = R2 := ⟨_, rfl⟩
                have hQ1 : 1 ≤ Q := by rw [← hQ]; exact Lib.width_pos t i
                have hQs : i + Q ≤ t.size := by rw [← hQ]; exact width_le t i hit
                have HD2 := Lib.hid (show Lib.decodeGo (t.extract i t.size) = (R2, Q) by rw [Lib.decodeGo_extract t i hit, ← hR2, ← hQ])
                have hq0 : Hid (Q ≠ 1 → 0 < i) := by
                  show _ → _
                  intro hq
                  rcases Nat.eq_zero_or_pos i with h0 | h0
                  · subst h0
                    rw [hd0.out] at hQ
                    exact absurd hQ.symm hq
                  · exact h0
                clear hQ hR2
                go_wp2_with fail
                go_at_call 35
                refine (Tryz.utf8_DecodeRuneInString (t.extract i t.size) wr (hT.below hbr)).mono ?_
                rw [HD2.out]
                rintro e w7 ⟨rfl, hb7⟩
                have hB7 := bld_below hB hb7
                have hbr7 := bthen hbr hb7
                clear hb7 hB hbr
                by_cases hq1 : Q = 1
                · have hqz : ((Q : Int) == 1) = true := by simp; omega
                  cases inv with
                  | true =>
                    go_wp2
                    go_roundg (t.size - (i + 1))
                    case measure => have := HG2.out; omega
                    case rel => exact ⟨i + 1, true, l, rfl, rfl, hB7, hbr7, by omega, fun _ => by omega, by omega, rfl⟩
                  | false =>
                    go_wp2_with fail
                    go_at_call 37
                    refine (Any.Builder_WriteString_k Tryz.laysW166 Tryz.laysW_Extra w.heap.size w.heap.size (Lib.byteCells l) ⟨#[]⟩ w7 hB7 (by rw [Lib.byteCells_length]; show l.length + 0 ≤ _; omega) hbr7.size).mono ?_
                    rintro e w8 ⟨rfl, h8, hb8, -⟩
                    have hB8 : Lib.IsBuilderF 99 5 w.heap.size w.heap.size (Lib.byteCells l) w8 := by
                      have : Lib.byteCells l ++ Lib.strCells ⟨#[]⟩ = Lib.byteCells l := by simp [Lib.strCells]
                      rw [this] at h8; exact Or.inr h8
                    have hbr8 := hbr7.trans hb8
                    clear h8 hb8 hB7 hbr7
                    go_wp2
                    go_roundg (t.size - (i + 1))
                    case measure => have := HG2.out; omega
                    case rel => exact ⟨i + 1, true, l, rfl, rfl, hB8, hbr8, by omega, fun _ => by omega, by omega, rfl⟩
                · have hqz : ((Q : Int) == 1) = false := by simp; omega
                  have hi0 := hq0.out hq1
                  go_wp2_with fail
                  go_at_call 37
                  have hxs : (t.extract i (i + Q)).size = Q := by simp; omega
                  refine (Any.Builder_WriteString_k Tryz.laysW166 Tryz.laysW_Extra w.heap.size w.heap.size (Lib.byteCells l) (t.extract i (i + Q)) w7 hB7 (by rw [Lib.byteCells_length, hxs]; omega) hbr7.size).mono ?_
                  rintro e w8 ⟨rfl, h8, hb8, -⟩
                  have hxl : (t.extract i (i + Q)).data.toList.length = Q := by rw [Array.length_toList]; exact hxs
                  rw [Lib.strCells_eq, ← Lib.byteCells_append] at h8
                  generalize (t.extract i (i + Q)).data.toList = m at *
                  have hB8 : Lib.IsBuilderF 99 5 w.heap.size w.heap.size (Lib.byteCells (l ++ m)) w8 := Or.inr h8
                  have hbr8 := hbr7.trans hb8
                  clear h8 hb8 hB7 hbr7
                  go_wp2
                  go_roundg (t.size - (i + Q))
                  case measure => have := HG2.out; omega
                  case rel => exact ⟨i + Q, false, l ++ m, rfl, rfl, hB8, hbr8, by simp; omega, fun _ => by have := HL.out hi0; simp; omega, by omega, rfl⟩
            · have hl4 : l.length < s.size := by have := HL.out (by omega); omega
              go_wp2_with fail
              go_at_call 40
              refine (Tryz.Builder_String_any_f w.heap.size w.heap.size l wr hB hbr.size).mono ?_
              rintro e w7 ⟨rfl, -, hb7⟩
              have hbr7 := hbr.trans hb7
              go_wp2
              go_ret
              exact ⟨⟨_, rfl, .inr ⟨by rw [size_toArray]; exact hl4, HC.out trivial⟩⟩, hbr7⟩
        · have hkz : ((K : Int) == 1) = false := by simp; omega
          go_wp2
          go_roundg (s.size - (k + K))
          case measure => have := HG.out; omega
          case rel => exact ⟨k + K, rfl, hfr3, hit3, hbw3, fun h => HV.out (HVs.out (fun h => hk1 h.2) h), hKs, rfl⟩
      · have h5z : ((R : Int) == 65533) = false := by simp; omega
        have h5y : ((R : Int) != 65533) = true := by simp; omega
        go_wp2
        go_roundg (s.size - (k + K))
        case measure => have := HG.out; omega
        case rel => exact ⟨k + K, rfl, hfr2, hit2, hbw2, fun h => HV.out (HVs.out (fun h => h5 h.1) h), hKs, rfl⟩
    · have hn := fun ty => Lib.run_next_end_at (P := Tryz.prog) wr (w.heap.size + 1) s k ty hit hlt
      have cC := Tryz.Builder_Cap_cell w.heap.size none 0 0 wr (by simp [World.cell?, hfr])
      go_wp2_with fail
      go_at_call 38
      refine cC.mono ?_
      rintro e w3 ⟨rfl, rfl⟩
      go_wp2
      go_ret
      exact ⟨⟨s, rfl, .inl ⟨rfl, HV.out (Val.done (by omega))⟩⟩, hbw⟩
end Go.Proofs.YtlldcoldnojbjaaGreatDoor.Cron
