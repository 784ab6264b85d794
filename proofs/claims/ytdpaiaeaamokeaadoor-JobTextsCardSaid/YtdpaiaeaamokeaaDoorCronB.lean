/- Joined: ShelfB, CronValid, CronFld, CronFields, CronAscii. -/
import Derived.Shelf.Strings.Builder1
import Derived.Shelf.Strings.BuilderK
import Derived.Shelf.Strings.BuilderCap
import Derived.Shelf.Strings.MapAny
import Derived.Lib.TrimU
import Derived.Lib.TrimUEq
import Derived.Lib.MapLaws
import Derived.Deep.AppendLies
import Derived.StillTailTactics
import Derived.WalkSmall
import Derived.OwnWalk
import Derived.Laws.OwnMore
import Derived.Test.YtdpaiaeaamokeaaDoorShelf
import Derived.Test.YtdpaiaeaamokeaaDoorCronA
namespace Go.Proofs
open Go.Shelf
def Tryd.laysW_ren : Go.Shelf.Ren := ⟨fun | 166 => 84 | 167 => 89 | 240 => 108 | 276 => 125 | n => n, fun | 0 => 0 | 3 => 3 | 4 => 4 | 5 => 5 | 9 => 9 | 20 => 20 | 37 => 50 | 70 => 111 | 72 => 113 | 75 => 116 | 80 => 44 | 164 => 148 | n => n, fun | n => n⟩
theorem Tryd.laysW166 : Go.Proofs.Lays.n166 Tryd.prog Tryd.laysW_ren := {
  mixed := by kernel_rfl
  f166 := Tryd.func84.trans (congrArg some (by kernel_rfl))
  f240 := Tryd.func108.trans (congrArg some (by kernel_rfl))
  f276 := Tryd.func125.trans (congrArg some (by kernel_rfl))
  t0 := Tryd.underlying0
  a0 := Tryd.isAgg0
  z0 := Tryd.sizeOf0
  v0 := Tryd.zeroValue0
  t3 := Tryd.underlying3
  a3 := Tryd.isAgg3
  z3 := Tryd.sizeOf3
  v3 := Tryd.zeroValue3
  t4 := Tryd.underlying4
  a4 := Tryd.isAgg4
  z4 := Tryd.sizeOf4
  v4 := Tryd.zeroValue4
  t9 := Tryd.underlying9
  a9 := Tryd.isAgg9
  z9 := Tryd.sizeOf9
  v9 := Tryd.zeroValue9
  t20 := Tryd.underlying20
  a20 := Tryd.isAgg20
  z20 := Tryd.sizeOf20
  v20 := Tryd.zeroValue20
  t37 := Tryd.underlying50
  a37 := Tryd.isAgg50
  z37 := Tryd.sizeOf50
  v37 := Tryd.zeroValue50
  t70 := Tryd.underlying111
  a70 := Tryd.isAgg111
  z70 := Tryd.sizeOf111
  v70 := Tryd.zeroValue111
  t72 := Tryd.underlying113
  a72 := Tryd.isAgg113
  z72 := Tryd.sizeOf113
  v72 := Tryd.zeroValue113
  t75 := Tryd.underlying116
  a75 := Tryd.isAgg116
  z75 := Tryd.sizeOf116
  v75 := Tryd.zeroValue116
  t164 := Tryd.underlying148
  a164 := Tryd.isAgg148
  z164 := Tryd.sizeOf148
  v164 := Tryd.zeroValue148 }
theorem Tryd.laysW167 : Go.Proofs.Lays.n167 Tryd.prog Tryd.laysW_ren := {
  mixed := by kernel_rfl
  f167 := Tryd.func89.trans (congrArg some (by kernel_rfl))
  f240 := Tryd.func108.trans (congrArg some (by kernel_rfl))
  f276 := Tryd.func125.trans (congrArg some (by kernel_rfl))
  t0 := Tryd.underlying0
  a0 := Tryd.isAgg0
  z0 := Tryd.sizeOf0
  v0 := Tryd.zeroValue0
  t4 := Tryd.underlying4
  a4 := Tryd.isAgg4
  z4 := Tryd.sizeOf4
  v4 := Tryd.zeroValue4
  t5 := Tryd.underlying5
  a5 := Tryd.isAgg5
  z5 := Tryd.sizeOf5
  v5 := Tryd.zeroValue5
  t9 := Tryd.underlying9
  a9 := Tryd.isAgg9
  z9 := Tryd.sizeOf9
  v9 := Tryd.zeroValue9
  t20 := Tryd.underlying20
  a20 := Tryd.isAgg20
  z20 := Tryd.sizeOf20
  v20 := Tryd.zeroValue20
  t37 := Tryd.underlying50
  a37 := Tryd.isAgg50
  z37 := Tryd.sizeOf50
  v37 := Tryd.zeroValue50
  t70 := Tryd.underlying111
  a70 := Tryd.isAgg111
  z70 := Tryd.sizeOf111
  v70 := Tryd.zeroValue111
  t72 := Tryd.underlying113
  a72 := Tryd.isAgg113
  z72 := Tryd.sizeOf113
  v72 := Tryd.zeroValue113
  t75 := Tryd.underlying116
  a75 := Tryd.isAgg116
  z75 := Tryd.sizeOf116
  v75 := Tryd.zeroValue116
  t164 := Tryd.underlying148
  a164 := Tryd.isAgg148
  z164 := Tryd.sizeOf148
  v164 := Tryd.zeroValue148 }
theorem Tryd.laysW_Extra : Builder.Extra Tryd.prog Tryd.laysW_ren := {
  sizeBuilder := by kernel_rfl
  liesBuilder := by kernel_rfl
  t5 := Tryd.underlying5
  a5 := Tryd.isAgg5
  z5 := Tryd.sizeOf5
  v5 := Tryd.zeroValue5
  infoByte := by kernel_rfl
  cellsByte := by kernel_rfl
  sizeByte := by kernel_rfl
  neB5 := by decide }
open Go.RowKit in
theorem Tryd.Builder_WriteByte (B b : Nat) (bs : List Value) (c : Int) (w : World) (h : Lib.IsBuilder 113 5 B b bs w) (hlen : bs.length + 1 ≤ 140737488355328) (hBw : B ≤ w.heap.size) :
    Calls Tryd.prog 89 #[.pointer (some ⟨b, 0, none⟩), .int .u8 c] w fun e w' => e = .returned .nilIface ∧ (Lib.BuilderAt 113 5 B b (.pointer (some ⟨b, 0, none⟩)) (bs ++ [.int .u8 c]) w' ∧ Below B w w') :=
  Any.Builder_WriteByte Tryd.laysW167 Tryd.laysW_Extra B b bs c w h hlen hBw
open Go.RowKit in
theorem Tryd.Builder_WriteString (B b : Nat) (bs : List Value) (s : ByteArray) (w : World) (h : Lib.IsBuilder 113 5 B b bs w) (hlen : bs.length + s.size ≤ 140737488355328) (hBw : B ≤ w.heap.size) :
    Calls Tryd.prog 84 #[.pointer (some ⟨b, 0, none⟩), .string s] w fun e w' => e = .returned (.tuple #[.int .i64 s.size, .nilIface]) ∧ (Lib.BuilderAt 113 5 B b (.pointer (some ⟨b, 0, none⟩)) (bs ++ Lib.strCells s) w' ∧ Below B w w') :=
  Any.Builder_WriteString Tryd.laysW166 Tryd.laysW_Extra B b bs s w h hlen hBw
end Go.Proofs

namespace Go.Proofs.YtdpaiaeaamokeaaDoor.Cron
open Go.RowKit Go

/-- From place k on the text is UTF-8. -/
inductive Val (s : ByteArray) : Nat → Prop
  | done {k : Nat} : s.size ≤ k → Val s k
  | step {k : Nat} : k < s.size → ¬ ((Utf8.decode s k).1 = 65533 ∧ (Utf8.decode s k).2 = 1) → Val s (k + (Utf8.decode s k).2) → Val s k

def Tabs (w : World) : Prop := Lib.Utf8Tabs 0 1 w
theorem Tabs.below {w w' : World} (h : Tabs w) (hb : Below w.heap.size w w') : Tabs w' := Utf8Tabs_below h hb

theorem width_le (s : ByteArray) (k : Nat) (h : k < s.size) : k + (Utf8.decode s k).2 ≤ s.size := by
  have hl : s.data.toList.length = s.size := by rw [Array.length_toList]; rfl
  rw [← Lib.decodeL_drop]
  have := Lib.decodeL_le (s.data.toList.drop k) (fun e => by have := congrArg List.length e; simp at this; omega)
  rw [List.length_drop, hl] at this
  omega

theorem bldAt_below {T e : TypeId} {B b : Nat} {p : Value} {bs : List Value} {W W' : World} (h : Lib.BuilderAtF T e B b p bs W) (hb : Below W.heap.size W W') : Lib.BuilderAtF T e B b p bs W' := by
  have hlt := h.lt
  obtain ⟨hB, v, hv, hown, hne⟩ := h
  exact ⟨hB, v, (hb.block b hlt).trans hv, hown.kept (row := none) ⟨hb.os, hb.tape, hb.output, hb.size, fun k hk _ => hb.block k hk⟩ (Classical.em _), hne⟩
/-- A builder stays one behind a call that only makes memory of its own. -/
theorem bld_below {T e : TypeId} {B b : Nat} {bs : List Value} {W W' : World} (h : Lib.IsBuilderF T e B b bs W) (hb : Below W.heap.size W W') : Lib.IsBuilderF T e B b bs W' :=
  h.elim (fun x => .inl (bldAt_below x hb)) (fun x => .inr (bldAt_below x hb))

theorem iter_old (w : World) (o : Obj) (s : ByteArray) : ((w.alloc o).iter s 0).heap[w.heap.size]? = some o := by
  show ((w.alloc o).alloc (.stringIter s 0)).heap[w.heap.size]? = some o
  rw [Below.heap_alloc _ _ _ (by simp)]
  exact Go.heap_alloc_new w o
theorem iter_new (w : World) (o : Obj) (s : ByteArray) : ((w.alloc o).iter s 0).heap[w.heap.size + 1]? = some (.stringIter s 0) := by
  show ((w.alloc o).alloc (.stringIter s 0)).heap[w.heap.size + 1]? = some (.stringIter s 0)
  have := Go.heap_alloc_new (w.alloc o) (.stringIter s 0)
  rw [World.size_alloc] at this
  exact this

/-- The post of the whole, hidden. -/
def TovPost (s : ByteArray) (e : Ending) : Prop := ∃ t : ByteArray, e = .returned (.string t) ∧ ((t = s ∧ Val s 0) ∨ (t.size < s.size ∧ ∃ c ∈ s.data.toList, 128 ≤ c.toNat))

set_option maxRecDepth 100000 in
theorem tov (s : ByteArray) (w : World) (hs : s.size ≤ 1000) (hT : Tabs w) :
    Calls Tryd.prog 55 #[.string s, .string ⟨#[]⟩] w fun e w' => TovPost s e ∧ Below w.heap.size w w' := by
  go_enter Tryd.func55, Tryd.ntmps55
  go_wp2
  go_loopg [0] s.size (fun gk x0 wr => ∃ k : Nat, x0 = .string s ∧ wr.heap[w.heap.size]? = some (.cells #[.pointer none, .slice none 0 0] 113 (0, 0)) ∧ wr.heap[w.heap.size + 1]? = some (.stringIter s k) ∧ Below w.heap.size w wr ∧ (Val s k → Val s 0) ∧ k ≤ s.size ∧ gk = s.size - k)
  case atStart =>
    refine ⟨0, rfl, ?_, ?_, ?_, id, by omega, rfl⟩
    · exact iter_old w _ s
    · exact iter_new w _ s
    · exact ((Below.refl _ _).alloc (Nat.le_refl _) _).alloc (by simp) _
  case round =>
    obtain ⟨k, rfl, hfr, hit, hbw, hV, hk, hgk⟩ := hrel
    have HG := Lib.hid hgk
    have HV : Hid (Val s k → Val s 0) := hV
    clear hgk hV
    by_cases hlt : k < s.size
    · have hn := fun ty => Lib.run_next_any_at (P := Tryd.prog) wr (w.heap.size + 1) s k ty hit hlt
      obtain ⟨R, hR⟩ : ∃ R, (Utf8.decode s k).1 = R := ⟨_, rfl⟩
      obtain ⟨K, hK⟩ : ∃ K, (Utf8.decode s k).2 = K := ⟨_, rfl⟩
      have hRb : R ≤ 1114111 := by rw [← hR]; exact Lib.rune_le s k
      have hK1 : 1 ≤ K := by rw [← hK]; exact Lib.width_pos s k
      have hKs : k + K ≤ s.size := by rw [← hK]; exact width_le s k hlt
      rw [hR, hK] at hn
      have hdg := Lib.decodeGo_extract s k hlt
      have HVs : Hid (¬ (R = 65533 ∧ K = 1) → Val s (k + K) → Val s k) := by
        show _ → _
        rw [← hR, ← hK]; exact Val.step hlt
      have hit2 : (wr.iterAt (w.heap.size + 1) s (k + K)).heap[w.heap.size + 1]? = some (.stringIter s (k + K)) := Lib.iterAt_heap wr _ s k _ hit
      have hfr2 : (wr.iterAt (w.heap.size + 1) s (k + K)).heap[w.heap.size]? = some (.cells #[.pointer none, .slice none 0 0] 113 (0, 0)) := by rw [Lib.iterAt_other _ _ _ _ _ (by omega)]; exact hfr
      have hbw2 : Below w.heap.size w (wr.iterAt (w.heap.size + 1) s (k + K)) := Lib.below_iterAt hbw (by omega) s _
      have HC : Hid (R = 65533 → ∃ c ∈ s.data.toList, 128 ≤ c.toNat) := by
        show _ → _
        intro h5
        refine ⟨s[k], by rw [← list_get s k hlt]; exact List.getElem_mem _, ?_⟩
        rcases Nat.lt_or_ge (s[k]).toNat 128 with ha | ha
        · have h1 := decode_ascii s k hlt ha
          rw [h1] at hR; dsimp only at hR; omega
        · exact ha
      have HD := Lib.hid (show Lib.decodeGo (s.extract k s.size) = (R, K) by rw [hdg, ← hR, ← hK])
      clear hdg hit hfr hbw
      generalize wr.iterAt (w.heap.size + 1) s (k + K) = W at *
      clear hR hK
      by_cases h5 : R = 65533
      · subst h5
        go_wp2_with fail
        go_at_call 87
        refine (Tryd.utf8_DecodeRuneInString (s.extract k s.size) W (hT.below hbw2)).mono ?_
        rw [HD.out]
        rintro e w3 ⟨rfl, hb3⟩
        have hszW : w.heap.size + 1 < W.heap.size := (Array.getElem?_eq_some_iff.1 hit2).1
        have hfr3 := (hb3.block _ (by omega)).trans hfr2
        have hit3 := (hb3.block _ (by omega)).trans hit2
        have hbw3 := bthen hbw2 hb3
        clear hb3 hit2 hfr2 hbw2
        have hb3 : True := trivial
        by_cases hk1 : K = 1
        · have hkz : ((K : Int) == 1) = true := by simp; omega
          go_wp2_with fail
          go_at_call 83
          refine (Tryd.Builder_Grow_fresh_cap w.heap.size w.heap.size s.size w3 (Nat.le_refl _) hfr3 hbw3.size (by omega)).mono ?_
          rintro e w4 ⟨rfl, ⟨hB4, hb4⟩, p4, cap4, hc4, hcap4⟩
          have hbw4 := hbw3.trans hb4
          go_wp2_with fail
          go_at_call 84
          refine (Any.Builder_WriteString_kc Tryd.laysW166 Tryd.laysW_Extra w.heap.size w.heap.size [] (s.extract 0 k) w4 (Lib.IsBuilderF.of (Or.inr hB4)) (by simp; omega) hbw4.size).mono ?_
          rintro e w5 ⟨rfl, ⟨hB5, hb5, -⟩, hcp⟩
          obtain ⟨v5, hc5, hcap5⟩ := hcp _ hc4
          have hbw5 := hbw4.trans hb5
          obtain ⟨p6, n6, cap6, hc6, hcap6⟩ : ∃ p6 n6 cap6, w5.cell? ⟨w.heap.size, 1, none⟩ = some (.slice p6 n6 cap6) ∧ 1 ≤ cap6 := by
            obtain ⟨_, v6, hv6, hown6, _⟩ := hB5
            have hvv : v6 = v5 := by
              have := Lib.cell_of_heap hv6 1
              rw [hc5] at this; simpa using this.symm
            subst hvv
            have h1 : 1 ≤ v6.capOf := Nat.le_trans (Nat.le_trans (by omega) hcap4) hcap5
            rcases hown6.2 with ⟨hv0, _⟩ | ⟨g6, c6, _, _, hv0, _⟩
            · rw [hv0] at h1; simp [Value.capOf] at h1
            · exact ⟨_, _, c6, by rw [hc5, hv0], by rw [hv0] at h1; exact h1⟩
          have hlen5 : (s.extract 0 k).size = k := by simp; omega
          have hcells : [] ++ Lib.strCells (s.extract 0 k) = Lib.byteCells (s.extract 0 k).data.toList := by rw [List.nil_append, Lib.strCells_eq]
          rw [hcells] at hB5
          obtain ⟨l0, hl0⟩ : ∃ l0, (s.extract 0 k).data.toList = l0 := ⟨_, rfl⟩
          have hl0n : l0.length = k := by rw [← hl0, Array.length_toList]; exact hlen5
          rw [hl0] at hB5
          obtain ⟨t, ht⟩ : ∃ t, s.extract k s.size = t := ⟨_, rfl⟩
          have htn : t.size + k = s.size := by rw [← ht]; simp; omega
          have hd0 : Hid (Utf8.decode t 0 = (65533, 1)) := by
            show _ = _
            have := HD.out
            rw [ht, hk1] at this
            rw [← this, Lib.decodeGo, if_neg (by omega)]
          rw [ht]
          have HB := Lib.hid (show Lib.IsBuilderF 113 5 w.heap.size w.heap.size (Lib.byteCells l0) w5 from Or.inr hB5)
          clear hB5 hcells hlen5 hl0 hc5 hcp hc4 hb5 hb4 hb3 hB4 HD
          have hcz : ((cap6 : Int) == 0) = false := by simp; omega
          go_wp2_with fail
          go_at_call 88
          refine (Tryd.Builder_Cap_cell w.heap.size p6 n6 cap6 w5 hc6).mono ?_
          rintro e w6 ⟨rfl, rfl⟩
          clear hc6
          go_wp2
          go_loopg [10, 11] t.size (fun gk x10 x11 wr => ∃ (i : Nat) (inv : Bool) (l : List UInt8), x10 = .bool inv ∧ x11 = .int .i64 i ∧ Lib.IsBuilderF 113 5 w.heap.size w.heap.size (Lib.byteCells l) wr ∧ Below w.heap.size w wr ∧ l.length ≤ k + i ∧ (0 < i → l.length < k + i) ∧ i ≤ t.size ∧ gk = t.size - i)
          case atStart => exact ⟨0, false, l0, rfl, rfl, HB.out, hbw5, by omega, fun h => absurd h (by omega), by omega, rfl⟩
          case round =>
            obtain ⟨i, inv, l, rfl, rfl, hB, hbr, hl, hl2, hi, hgi⟩ := hrel
            have HG2 := Lib.hid hgi
            have HL : Hid (0 < i → l.length < k + i) := hl2
            clear hgi hl2 HB hbw5
            by_cases hit : i < t.size
            · by_cases ha : (t[i]).toNat < 128
              · have ha1 : (t[i].toNat : Int) < 128 := by omega
                have hi0 : 0 < i := by
                  rcases Nat.eq_zero_or_pos i with h0 | h0
                  · subst h0
                    have h1 := decode_ascii t 0 hit ha
                    rw [hd0.out] at h1
                    simp at h1; omega
                  · exact h0
                go_wp2_with fail
                go_at_call 89
                refine (Any.Builder_WriteByte_k Tryd.laysW167 Tryd.laysW_Extra w.heap.size w.heap.size (Lib.byteCells l) t[i].toNat wr hB (by rw [Lib.byteCells_length]; omega) hbr.size).mono ?_
                rintro e w7 ⟨rfl, h7, hb7, -⟩
                have hB7 : Lib.IsBuilderF 113 5 w.heap.size w.heap.size (Lib.byteCells (l ++ [t[i]])) w7 := by rw [Lib.byteCells_append]; exact Or.inr h7
                have hbr7 := hbr.trans hb7
                clear h7 hb7 hB hbr
                go_wp2
                go_roundg (t.size - (i + 1))
                case measure => have := HG2.out; omega
                case rel => exact ⟨i + 1, false, l ++ [t[i]], rfl, rfl, hB7, hbr7, by simp; omega, fun _ => by have := HL.out hi0; simp; omega, by omega, rfl⟩
              · have ha1 : ¬ (t[i].toNat : Int) < 128 := by omega
                obtain ⟨Q, hQ⟩ : ∃ Q, (Utf8.decode t i).2 = Q := ⟨_, rfl⟩
                obtain ⟨R2, hR2⟩ : ∃ R2, (Utf8.decode t i).1 = R2 := ⟨_, rfl⟩
                have hQ1 : 1 ≤ Q := by rw [← hQ]; exact Lib.width_pos t i
                have hQs : i + Q ≤ t.size := by rw [← hQ]; exact width_le t i hit
                have HD2 := Lib.hid (show Lib.decodeGo (t.extract i t.size) = (R2, Q) by rw [Lib.decodeGo_extract t i hit, ← hR2, ← hQ])
                have hq0 : Hid (Q ≠ 1 → 0 < i) := by
                  show _ → _
                  intro hq
                  rcases Nat.eq_zero_or_pos i with h0 | h0
                  · subst h0
                    rw [hd0.out] at hQ
                    exact absurd hQ.symm hq
                  · exact h0
                clear hQ hR2
                go_wp2_with fail
                go_at_call 87
                refine (Tryd.utf8_DecodeRuneInString (t.extract i t.size) wr (hT.below hbr)).mono ?_
                rw [HD2.out]
                rintro e w7 ⟨rfl, hb7⟩
                have hB7 := bld_below hB hb7
                have hbr7 := bthen hbr hb7
                clear hb7 hB hbr
                by_cases hq1 : Q = 1
                · have hqz : ((Q : Int) == 1) = true := by simp; omega
                  cases inv with
                  | true =>
                    go_wp2
                    go_roundg (t.size - (i + 1))
                    case measure => have := HG2.out; omega
                    case rel => exact ⟨i + 1, true, l, rfl, rfl, hB7, hbr7, by omega, fun _ => by omega, by omega, rfl⟩
                  | false =>
                    go_wp2_with fail
                    go_at_call 84
                    refine (Any.Builder_WriteString_k Tryd.laysW166 Tryd.laysW_Extra w.heap.size w.heap.size (Lib.byteCells l) ⟨#[]⟩ w7 hB7 (by rw [Lib.byteCells_length]; show l.length + 0 ≤ _; omega) hbr7.size).mono ?_
                    rintro e w8 ⟨rfl, h8, hb8, -⟩
                    have hB8 : Lib.IsBuilderF 113 5 w.heap.size w.heap.size (Lib.byteCells l) w8 := by
                      have : Lib.byteCells l ++ Lib.strCells ⟨#[]⟩ = Lib.byteCells l := by simp [Lib.strCells]
                      rw [this] at h8; exact Or.inr h8
                    have hbr8 := hbr7.trans hb8
                    clear h8 hb8 hB7 hbr7
                    go_wp2
                    go_roundg (t.size - (i + 1))
                    case measure => have := HG2.out; omega
                    case rel => exact ⟨i + 1, true, l, rfl, rfl, hB8, hbr8, by omega, fun _ => by omega, by omega, rfl⟩
                · have hqz : ((Q : Int) == 1) = false := by simp; omega
                  have hi0 := hq0.out hq1
                  go_wp2_with fail
                  go_at_call 84
                  have hxs : (t.extract i (i + Q)).size = Q := by simp; omega
                  refine (Any.Builder_WriteString_k Tryd.laysW166 Tryd.laysW_Extra w.heap.size w.heap.size (Lib.byteCells l) (t.extract i (i + Q)) w7 hB7 (by rw [Lib.byteCells_length, hxs]; omega) hbr7.size).mono ?_
                  rintro e w8 ⟨rfl, h8, hb8, -⟩
                  have hxl : (t.extract i (i + Q)).data.toList.length = Q := by rw [Array.length_toList]; exact hxs
                  rw [Lib.strCells_eq, ← Lib.byteCells_append] at h8
                  generalize (t.extract i (i + Q)).data.toList = m at *
                  have hB8 : Lib.IsBuilderF 113 5 w.heap.size w.heap.size (Lib.byteCells (l ++ m)) w8 := Or.inr h8
                  have hbr8 := hbr7.trans hb8
                  clear h8 hb8 hB7 hbr7
                  go_wp2
                  go_roundg (t.size - (i + Q))
                  case measure => have := HG2.out; omega
                  case rel => exact ⟨i + Q, false, l ++ m, rfl, rfl, hB8, hbr8, by simp; omega, fun _ => by have := HL.out hi0; simp; omega, by omega, rfl⟩
            · have hl4 : l.length < s.size := by have := HL.out (by omega); omega
              go_wp2_with fail
              go_at_call 85
              refine (Tryd.Builder_String_any_f w.heap.size w.heap.size l wr hB hbr.size).mono ?_
              rintro e w7 ⟨rfl, -, hb7⟩
              have hbr7 := hbr.trans hb7
              go_wp2
              go_ret
              exact ⟨⟨_, rfl, .inr ⟨by rw [size_toArray]; exact hl4, HC.out trivial⟩⟩, hbr7⟩
        · have hkz : ((K : Int) == 1) = false := by simp; omega
          go_wp2
          go_roundg (s.size - (k + K))
          case measure => have := HG.out; omega
          case rel => exact ⟨k + K, rfl, hfr3, hit3, hbw3, fun h => HV.out (HVs.out (fun h => hk1 h.2) h), hKs, rfl⟩
      · have h5z : ((R : Int) == 65533) = false := by simp; omega
        have h5y : ((R : Int) != 65533) = true := by simp; omega
        go_wp2
        go_roundg (s.size - (k + K))
        case measure => have := HG.out; omega
        case rel => exact ⟨k + K, rfl, hfr2, hit2, hbw2, fun h => HV.out (HVs.out (fun h => h5 h.1) h), hKs, rfl⟩
    · have hn := fun ty => Lib.run_next_end_at (P := Tryd.prog) wr (w.heap.size + 1) s k ty hit hlt
      have cC := Tryd.Builder_Cap_cell w.heap.size none 0 0 wr (by simp [World.cell?, hfr])
      go_wp2_with fail
      go_at_call 88
      refine cC.mono ?_
      rintro e w3 ⟨rfl, rfl⟩
      go_wp2
      go_ret
      exact ⟨⟨s, rfl, .inl ⟨rfl, HV.out (Val.done (by omega))⟩⟩, hbw⟩
end Go.Proofs.YtdpaiaeaamokeaaDoor.Cron

namespace Go.Proofs.YtdpaiaeaamokeaaDoor.Cron
open Go.RowKit Go

theorem encode_size (r : Int) : (0 ≤ r → r < 128 → (Utf8.encode r).size = 1) ∧ (128 ≤ r → r < 2048 → (Utf8.encode r).size = 2) ∧ (2048 ≤ r → r < 65536 → (r < 55296 ∨ 57344 ≤ r) → (Utf8.encode r).size = 3) ∧
    (65536 ≤ r → r ≤ 1114111 → (Utf8.encode r).size = 4) := by
  refine ⟨fun h1 h2 => ?_, fun h1 h2 => ?_, fun h1 h2 h3 => ?_, fun h1 h2 => ?_⟩
  all_goals
    have hv : Utf8.valid r = true := by simp [Utf8.valid]; omega
    unfold Utf8.encode
    simp only [hv, if_true]
  · rw [if_pos (by omega)]; rfl
  · rw [if_neg (by omega), if_pos (by omega)]; rfl
  · rw [if_neg (by omega), if_neg (by omega), if_pos (by omega)]; rfl
  · rw [if_neg (by omega), if_neg (by omega), if_neg (by omega)]; rfl

/-- One rune of a valid text: its bytes, by its width. -/
theorem rune_at (s : ByteArray) (k : Nat) (h : k < s.size) (hv : ¬ ((Utf8.decode s k).1 = 65533 ∧ (Utf8.decode s k).2 = 1)) :
    (Utf8.encode (Utf8.decode s k).1).size = (Utf8.decode s k).2 ∧ ((Utf8.decode s k).1 < 128 → (Utf8.decode s k).2 = 1 ∧ (s.data.toList.getD k 0).toNat = (Utf8.decode s k).1) ∧
      (128 ≤ (Utf8.decode s k).1 → ∀ j, j < (Utf8.decode s k).2 → 128 ≤ (s.data.toList.getD (k + j) 0).toNat) := by
  rw [Lib.decode_N] at hv ⊢
  have k0 := (s.data.toList.getD k 0).toNat_lt
  have k1 := (s.data.toList.getD (k + 1) 0).toNat_lt
  have k2 := (s.data.toList.getD (k + 2) 0).toNat_lt
  have k3 := (s.data.toList.getD (k + 3) 0).toNat_lt
  have z : s.data.toList.getD (k + 0) 0 = s.data.toList.getD k 0 := rfl
  generalize hx0 : (s.data.toList.getD k 0).toNat = b0 at *
  generalize hx1 : (s.data.toList.getD (k + 1) 0).toNat = b1 at *
  generalize hx2 : (s.data.toList.getD (k + 2) 0).toNat = b2 at *
  generalize hx3 : (s.data.toList.getD (k + 3) 0).toNat = b3 at *
  rcases Lib.decodeN_shape (s.data.toList.length - k) b0 b1 b2 b3 with ⟨c, e⟩ | ⟨c1, c2, c3, cv, e⟩ | ⟨c1, c2, c3, c4, cv, cs, e⟩ | ⟨c1, c2, c3, c4, c5, cv, cw, e⟩ | e
  all_goals rw [e] at hv ⊢; dsimp only at hv ⊢
  · refine ⟨(encode_size _).1 (by omega) (by omega), fun _ => ⟨rfl, rfl⟩, fun h => by omega⟩
  · refine ⟨(encode_size _).2.1 (by omega) (by omega), fun h => by omega, fun _ j hj => ?_⟩
    have : j = 0 ∨ j = 1 := by omega
    rcases this with rfl | rfl
    · rw [z, hx0]; omega
    · rw [hx1]; omega
  · refine ⟨(encode_size _).2.2.1 (by omega) (by omega) (by omega), fun h => by omega, fun _ j hj => ?_⟩
    have : j = 0 ∨ j = 1 ∨ j = 2 := by omega
    rcases this with rfl | rfl | rfl
    · rw [z, hx0]; omega
    · rw [hx1]; omega
    · rw [hx2]; omega
  · refine ⟨(encode_size _).2.2.2 (by omega) (by omega), fun h => by omega, fun _ j hj => ?_⟩
    have : j = 0 ∨ j = 1 ∨ j = 2 ∨ j = 3 := by omega
    rcases this with rfl | rfl | rfl | rfl
    · rw [z, hx0]; omega
    · rw [hx1]; omega
    · rw [hx2]; omega
    · rw [hx3]; omega
  · exact absurd ⟨rfl, rfl⟩ hv

/-- More bytes that are no blanks. -/
theorem fold_more : ∀ (m : List UInt8) (bs : List (List UInt8)) (x : List UInt8), (∀ c ∈ m, isBlank c = false) → m.foldl fstep (bs ++ [x], true) = (bs ++ [x ++ m], true)
  | [], bs, x, _ => by simp
  | c :: m, bs, x, h => by
    rw [List.foldl_cons, fstep, h c (by simp)]
    have := fold_more m bs (x ++ [c]) (fun d hd => h d (by simp [hd]))
    simpa using this
/-- .. behind a blank, or at the text's head. -/
theorem fold_new (m : List UInt8) (bs : List (List UInt8)) (hm : m ≠ []) (h : ∀ c ∈ m, isBlank c = false) : m.foldl fstep (bs, false) = (bs ++ [m], true) := by
  cases m with
  | nil => exact absurd rfl hm
  | cons c m =>
    rw [List.foldl_cons, fstep, h c (by simp)]
    have := fold_more m bs [c] (fun d hd => h d (by simp [hd]))
    simpa using this

theorem extract_take (s : ByteArray) (k K : Nat) (h : k + K ≤ s.size) : s.data.toList.take (k + K) = s.data.toList.take k ++ (s.extract k (k + K)).data.toList := by
  rw [Lib.extract_data, List.take_add]
  congr 1
  rw [show k + K - k = K by omega]
theorem fold_append (a b : List UInt8) : fold (a ++ b) = b.foldl fstep (fold a) := by unfold fold; rw [List.foldl_append]
end Go.Proofs.YtdpaiaeaamokeaaDoor.Cron

namespace Go.Proofs.YtdpaiaeaamokeaaDoor.Cron
open Go.RowKit Go

/-- What one rune does to the fields. -/
theorem fld_step (s : ByteArray) (k K R : Nat) (h : k < s.size) (hR : (Utf8.decode s k).1 = R) (hK : (Utf8.decode s k).2 = K) (hv : ¬ (R = 65533 ∧ K = 1)) :
    (Utf8.encode R).size = K ∧
    ((R = 32 ∨ R = 9) → fold (s.data.toList.take (k + K)) = ((fold (s.data.toList.take k)).1, false)) ∧
    (¬ (R = 32 ∨ R = 9) → (fold (s.data.toList.take k)).2 = false → fold (s.data.toList.take (k + K)) = ((fold (s.data.toList.take k)).1 ++ [(s.extract k (k + K)).data.toList], true)) ∧
    (¬ (R = 32 ∨ R = 9) → ∀ bs x, fold (s.data.toList.take k) = (bs ++ [x], true) → fold (s.data.toList.take (k + K)) = (bs ++ [x ++ (s.extract k (k + K)).data.toList], true)) := by
  have hl : s.data.toList.length = s.size := by rw [Array.length_toList]; rfl
  obtain ⟨he, hlow, hhigh⟩ := rune_at s k h (by rw [hR, hK]; exact hv)
  have hKs : k + K ≤ s.size := by rw [← hK]; exact width_le s k h
  have hK1 : 1 ≤ K := by rw [← hK]; exact Lib.width_pos s k
  rw [hR, hK] at he hlow hhigh
  rw [extract_take s k K hKs, fold_append]
  have hml : (s.extract k (k + K)).data.toList.length = K := by
    rw [Array.length_toList]; show (s.extract k (k + K)).size = K; simp; omega
  have hmg : ∀ j, j < K → (s.extract k (k + K)).data.toList.getD j 0 = s.data.toList.getD (k + j) 0 := by
    intro j hj
    rw [Lib.extract_data, show k + K - k = K by omega, List.getD_eq_getElem?_getD, List.getD_eq_getElem?_getD, List.getElem?_take_of_lt hj, List.getElem?_drop]
  generalize (s.extract k (k + K)).data.toList = m at *
  have hne : m ≠ [] := fun e => by rw [e] at hml; simp at hml; omega
  have hnb : ¬ (R = 32 ∨ R = 9) → ∀ c ∈ m, isBlank c = false := by
    intro hr c hc
    obtain ⟨j, hj, rfl⟩ := List.getElem_of_mem hc
    have hg := hmg j (by omega)
    rw [List.getD_eq_getElem?_getD, List.getElem?_eq_getElem hj, Option.getD_some] at hg
    by_cases h128 : R < 128
    · obtain ⟨hk1, hb⟩ := hlow h128
      have hj0 : j = 0 := by omega
      subst hj0
      have hb2 : (m[0]).toNat = R := by rw [hg]; exact hb
      simp only [isBlank, decide_eq_false_iff_not]
      omega
    · have := hhigh (by omega) j (by omega)
      rw [← hg] at this
      simp only [isBlank, decide_eq_false_iff_not]
      omega
  refine ⟨he, fun hr => ?_, fun hr h2 => ?_, fun hr bs x hx => ?_⟩
  · obtain ⟨hk1, hb⟩ := hlow (by omega)
    have hg := hmg 0 (by omega)
    match m, hml, hg with
    | [c], _, hg =>
      have hc : isBlank c = true := by
        have hcg : c = s.data.toList.getD (k + 0) 0 := hg
        have : c.toNat = R := by rw [hcg]; exact hb
        simp only [isBlank, decide_eq_true_eq]; omega
      rw [List.foldl_cons, List.foldl_nil, fstep, if_pos hc]
    | [], h1, _ => simp at h1; omega
    | _ :: _ :: _, h1, _ => simp at h1; omega
  · rcases hf : fold (s.data.toList.take k) with ⟨b, i⟩
    rw [hf] at h2
    dsimp only at h2
    subst h2
    exact fold_new m b hne (hnb hr)
  · rw [hx]
    exact fold_more m bs x (hnb hr)

theorem own_le {w : World} {B B' : Nat} {e : TypeId} {z : Nat} {v : Value} {n : Nat} {xs : List Value} (h : w.ownsRow B e z v n xs) (hb : B' ≤ B) : w.ownsRow B' e z v n xs :=
  ⟨h.1, h.2.imp id fun ⟨g, cap, cur, a, b, c⟩ => ⟨g, cap, cur, a, Nat.le_trans hb b, c⟩⟩
theorem iter_here (w : World) (s : ByteArray) : (w.iter s 0).heap[w.heap.size]? = some (.stringIter s 0) := by
  show (w.alloc (.stringIter s 0)).heap[w.heap.size]? = some (.stringIter s 0)
  exact Go.heap_alloc_new w _

theorem Tryd.infoStr : (Tryd.prog.info? 9).map (fun i => (i.zero, i.size, i.bytes)) = some (some (.string ⟨#[]⟩), 1, 16) := by kernel_rfl
/-- Behind an append to a row of its own. -/
theorem own_grown {w W W1 : World} {e : TypeId} {v : Value} {n : Nat} {xs : List Value} {o : Obj} {B : Nat} (hB : w.heap.size ≤ B) (hown : W.ownsRow B e 1 v n xs) (hbw : Below w.heap.size w W) (hg : (W.alloc o).grownBy W1 v.ownBlock) :
    Below w.heap.size w W1 ∧ ∀ k it, k < B → W.heap[k]? = some it → W1.heap[k]? = some it := by
  have hr : ∀ k, v.ownBlock = some k → B ≤ k := fun k h => (hown.lt k h).1
  refine ⟨(hbw.alloc hbw.size o).trans ⟨hg.os, hg.tape, hg.output, hg.size, fun k hk => hg.block k (Nat.lt_of_lt_of_le hk (by simp; have := hbw.size; omega)) (fun h => by have := hr k h.symm; omega)⟩, fun k it hk hh => ?_⟩
  have hlt : k < W.heap.size := (Array.getElem?_eq_some_iff.1 hh).1
  rw [hg.block k (by simp; omega) (fun h => by have := hr k h.symm; omega), Below.heap_alloc _ _ _ hlt]
  exact hh

set_option maxRecDepth 100000 in
theorem fields_any (s : ByteArray) (w : World) (hs : s.size ≤ 1000) (hv : Val s 0) :
    Calls Tryd.prog 56 #[.string s] w fun e w' => (∃ (v : Value) (bs : List ByteArray), e = .returned v ∧ w'.ownsRow w.heap.size 9 1 v bs.length (bs.map Value.string) ∧ bs.map (·.data.toList) = flds s.data.toList ∧ bs.length ≤ s.size ∧ ∀ b ∈ bs, b.size ≤ s.size) ∧ Below w.heap.size w w' := by
  obtain ⟨i0, hi0, hz0, hz1, hz2⟩ := info_parts Tryd.infoStr
  go_enter Tryd.func56, Tryd.ntmps56
  go_wp2
  go_loopg [3, 4] s.size (fun gk x3 x4 wr => ∃ (k : Nat) (bs : List ByteArray) (ins : Bool), x4 = .bool ins ∧ wr.ownsRow (w.heap.size + 1) 9 1 x3 bs.length (bs.map Value.string) ∧ wr.heap[w.heap.size]? = some (.stringIter s k) ∧ Below w.heap.size w wr ∧ Val s k ∧ k ≤ s.size ∧
    bs.length ≤ k ∧ fold (s.data.toList.take k) = (bs.map (·.data.toList), ins) ∧ (ins = true → bs ≠ []) ∧ (∀ b ∈ bs, b.size ≤ k) ∧ gk = s.size - k)
  case atStart => exact ⟨0, [], false, rfl, World.ownsRow_nil _ _ _ _, iter_here w s, (Below.refl _ _).alloc (Nat.le_refl _) _, hv, by omega, by simp, rfl, by simp, by simp, rfl⟩
  case round =>
    obtain ⟨k, bs, ins, rfl, hown, hit, hbw, hva, hk, hbk, hfo, hin, hall, hgk⟩ := hrel
    have HA : Hid (∀ b ∈ bs, b.size ≤ k) := hall
    clear hall
    have HG := Lib.hid hgk
    have HF := Lib.hid hfo
    clear hgk hfo hv
    by_cases hlt : k < s.size
    · have hn := fun ty => Lib.run_next_any_at (P := Tryd.prog) wr w.heap.size s k ty hit hlt
      obtain ⟨R, hR⟩ : ∃ R, (Utf8.decode s k).1 = R := ⟨_, rfl⟩
      obtain ⟨K, hK⟩ : ∃ K, (Utf8.decode s k).2 = K := ⟨_, rfl⟩
      have hva2 : ¬ (R = 65533 ∧ K = 1) ∧ Val s (k + K) := by
        rw [← hR, ← hK]
        cases hva with
        | done h => exact absurd h (by omega)
        | step _ h1 h2 => exact ⟨h1, h2⟩
      obtain ⟨hst0, hst1, hst2, hst3⟩ := fld_step s k K R hlt hR hK hva2.1
      have HV := Lib.hid hva2.2
      have hRb : R ≤ 1114111 := by rw [← hR]; exact Lib.rune_le s k
      have hK1 : 1 ≤ K := by rw [← hK]; exact Lib.width_pos s k
      have hKs : k + K ≤ s.size := by rw [← hK]; exact width_le s k hlt
      rw [hR, hK] at hn
      have hit2 : (wr.iterAt w.heap.size s (k + K)).heap[w.heap.size]? = some (.stringIter s (k + K)) := Lib.iterAt_heap wr _ s k _ hit
      have hown2 := ownsRow_iterAt hown (k := w.heap.size) (by omega) s (k + K)
      have hbw2 : Below w.heap.size w (wr.iterAt w.heap.size s (k + K)) := Lib.below_iterAt hbw (by omega) s _
      clear hit hown hbw hva hva2
      generalize wr.iterAt w.heap.size s (k + K) = W at *
      clear hR hK
      by_cases hbl : R = 32 ∨ R = 9
      · have HS := Lib.hid (hst1 hbl)
        clear hst0 hst1 hst2 hst3
        rcases hbl with rfl | rfl
        · go_wp2
          go_roundg (s.size - (k + K))
          case measure => have := HG.out; omega
          case rel => exact ⟨k + K, bs, false, rfl, hown2, hit2, hbw2, HV.out, hKs, by omega, by rw [HS.out, HF.out], by simp, fun b hb => Nat.le_trans (HA.out b hb) (by omega), rfl⟩
        · go_wp2
          go_roundg (s.size - (k + K))
          case measure => have := HG.out; omega
          case rel => exact ⟨k + K, bs, false, rfl, hown2, hit2, hbw2, HV.out, hKs, by omega, by rw [HS.out, HF.out], by simp, fun b hb => Nat.le_trans (HA.out b hb) (by omega), rfl⟩
      · have HS2 := Lib.hid (hst2 hbl)
        have HS3 := Lib.hid (hst3 hbl)
        have e32 : ((R : Int) == 32) = false := by simp; omega
        have e9 : ((R : Int) == 9) = false := by simp; omega
        clear hst1 hst2 hst3 hbl
        cases ins with
        | false =>
          go_wp2_with (at_builtin; refine wpList_append_lies _ rfl _ _ 85 rfl (w.heap.size + 1) 9 i0 (.string ⟨#[]⟩) 1 16 Tryd.underlying85 hi0 hz0 hz1 hz2 rfl (by decide) _ _ _ rfl (hown2.alloc _) ⟨W.heap.size, 0, none⟩ 1 1 [.string ⟨#[]⟩] rfl rfl ?c1 ?c2 (by decide) ?c3 ?c4 ?c5 _ rfl ?_)
          case c1 =>
            intro j u hj
            match j, hj with
            | 0, hj => simp at hj; subst hj; simp [Addr.add]
          case c2 => intro u hu; simp at hu; subst hu; rfl
          case c3 => unfold maxLen; omega
          case c4 => omega
          case c5 => have := hbw2.size; simp; have := (Array.getElem?_eq_some_iff.1 hit2).1; omega
          · intro g cap w1 hown3 hgrow hat hgl
            obtain ⟨hbw3, hkeep⟩ := own_grown (by omega) hown2 hbw2 hgrow
            have hit3 := hkeep _ _ (by omega) hit2
            have hcl : w1.cell? ⟨g, bs.length, none⟩ = some (.string ⟨#[]⟩) := by rw [hown3.cellAt bs.length (by omega)]; simp
            have hfz := hown3.frozenAt bs.length
            have HO := Lib.hid hown3
            clear hgrow hat hkeep hown2 hit2 hbw2 hown3
            obtain ⟨m, hm⟩ : ∃ m, s.extract k (k + K) = m := ⟨_, rfl⟩
            have hmz : m.size = K := by rw [← hm]; simp; omega
            have hbig : ¬ 9223372036854775807 < K := by omega
            have hs1 : (k : Int) + (K : Int) ≤ (s.size : Int) := by omega
            have hs2 : (k : Int) ≤ (k : Int) + (K : Int) := by omega
            have hs3 : ((k : Int) + (K : Int)).toNat = k + K := by omega
            have hs4 : 0 ≤ (k : Int) + (K : Int) := by omega
            have hix : (bs.length : Int) < (bs.length : Int) + 1 := by omega
            have hwr : IntKind.i64.wrap (bs.length : Int) = (bs.length : Int) := by rw [IntKind.wrap_i64]; omega
            have hwk : IntKind.i64.wrap ((k : Int) + (K : Int)) = (k : Int) + (K : Int) := by rw [IntKind.wrap_i64]; omega
            go_wp2_with fail
            go_still_tail 16, (by kernel_rfl)
            change wpList _ _ _ _ _ w1.drew
            have hcl2 : w1.drew.cell? ⟨g, bs.length, none⟩ = some (.string ⟨#[]⟩) := hcl
            have hfz2 : w1.drew.frozen? ⟨g, bs.length, none⟩ = false := hfz
            have hit4 : w1.drew.heap[w.heap.size]? = some (.stringIter s (k + K)) := hit3
            have hbw4 : Below w.heap.size w w1.drew := hbw3.drew
            have HO2 : Hid (w1.drew.ownsRow (w.heap.size + 1) 9 1 (.slice (some ⟨g, 0, none⟩) (bs.length + 1) cap) (bs.length + 1) (bs.map Value.string ++ [.string ⟨#[]⟩])) := HO.out.drew
            clear hcl hfz hit3 hbw3 HO hgl hn
            generalize w1.drew = w2 at *
            have hgB : w.heap.size + 1 ≤ g := (HO2.out.lt g rfl).1
            have HE : Hid (s.extract k (k + K) = m) := hm
            clear hm
            go_wp2_with fail
            go_roundg (s.size - (k + K))
            case measure => have := HG.out; omega
            case rel =>
              have h1 := HO2.out.stored bs.length (.string (⟨#[]⟩ ++ m))
              refine ⟨k + K, bs ++ [⟨#[]⟩ ++ m], true, rfl, ?_, ?_, hbw4.setCell (p := ⟨g, bs.length, none⟩) (by show w.heap.size ≤ g; omega) _, HV.out, hKs, by simp; omega, ?_, by simp, ?_, rfl⟩
              · have h2 := h1.1
                rw [show (bs.map Value.string ++ [Value.string ⟨#[]⟩]).set bs.length (.string (⟨#[]⟩ ++ m)) = (bs ++ [⟨#[]⟩ ++ m]).map Value.string by simp] at h2
                rw [List.length_append]; exact h2
              · rw [Below.heap_setCell _ _ _ _ (by show w.heap.size ≠ g; omega)]; exact hit4
              · rw [HS2.out (by rw [HF.out]), HF.out, HE.out]; simp
              · intro b hb
                rcases List.mem_append.1 hb with hb | hb
                · exact Nat.le_trans (HA.out b hb) (by omega)
                · simp at hb; subst hb; rw [ByteArray.size_append, hmz]; show 0 + K ≤ _; omega
        | true =>
          obtain ⟨cs, x, rfl⟩ : ∃ cs x, bs = cs ++ [x] := ⟨bs.dropLast, bs.getLast (hin rfl), (List.dropLast_concat_getLast (hin rfl)).symm⟩
          have hxz : x.size ≤ k := HA.out x (by simp)
          obtain ⟨g, cap, rfl, hgB, -⟩ := hown2.form (by simp)
          have hcl : W.cell? ⟨g, cs.length, none⟩ = some (.string x) := by rw [hown2.cellAt cs.length (by simp)]; simp
          have hfz := hown2.frozenAt cs.length
          have HO : Hid (W.ownsRow (w.heap.size + 1) 9 1 (.slice (some ⟨g, 0, none⟩) (cs.length + 1) cap) (cs.length + 1) (cs.map Value.string ++ [.string x])) := by
            have := hown2
            rw [List.length_append, List.map_append] at this
            exact this
          rw [List.length_append] at hbk
          obtain ⟨m, hm⟩ : ∃ m, s.extract k (k + K) = m := ⟨_, rfl⟩
          have hmz : m.size = K := by rw [← hm]; simp; omega
          have hbig : ¬ 9223372036854775807 < x.size + K := by omega
          have hs1 : (k : Int) + (K : Int) ≤ (s.size : Int) := by omega
          have hs2 : (k : Int) ≤ (k : Int) + (K : Int) := by omega
          have hs3 : ((k : Int) + (K : Int)).toNat = k + K := by omega
          have hs4 : 0 ≤ (k : Int) + (K : Int) := by omega
          have hlen : (cs ++ [x]).length = cs.length + 1 := by simp
          have hix : (cs.length : Int) < (cs.length : Int) + 1 := by omega
          have hwr : IntKind.i64.wrap (cs.length : Int) = (cs.length : Int) := by rw [IntKind.wrap_i64]; simp at hbk; omega
          have hwk : IntKind.i64.wrap ((k : Int) + (K : Int)) = (k : Int) + (K : Int) := by rw [IntKind.wrap_i64]; omega
          clear hown2 hin
          rw [hlen]
          clear hlen
          go_wp2_with fail
          go_still_tail 16, (by kernel_rfl)
          change wpList _ _ _ _ _ W.drew
          have hcl2 : W.drew.cell? ⟨g, cs.length, none⟩ = some (.string x) := hcl
          have hfz2 : W.drew.frozen? ⟨g, cs.length, none⟩ = false := hfz
          have hit4 : W.drew.heap[w.heap.size]? = some (.stringIter s (k + K)) := hit2
          have hbw4 : Below w.heap.size w W.drew := hbw2.drew
          have HO2 : Hid (W.drew.ownsRow (w.heap.size + 1) 9 1 (.slice (some ⟨g, 0, none⟩) (cs.length + 1) cap) (cs.length + 1) (cs.map Value.string ++ [.string x])) := HO.out.drew
          clear hcl hfz hit2 hbw2 HO hn
          generalize W.drew = w2 at *
          have HE : Hid (s.extract k (k + K) = m) := hm
          clear hm
          go_wp2_with fail
          go_roundg (s.size - (k + K))
          case measure => have := HG.out; omega
          case rel =>
            have h1 := HO2.out.stored cs.length (.string (x ++ m))
            refine ⟨k + K, cs ++ [x ++ m], true, rfl, ?_, ?_, hbw4.setCell (p := ⟨g, cs.length, none⟩) (by show w.heap.size ≤ g; omega) _, HV.out, hKs, by simp at hbk ⊢; omega, ?_, by simp, ?_, rfl⟩
            · have h2 := h1.1
              rw [show (cs.map Value.string ++ [Value.string x]).set cs.length (.string (x ++ m)) = (cs ++ [x ++ m]).map Value.string by simp] at h2
              rw [List.length_append]; exact h2
            · rw [Below.heap_setCell _ _ _ _ (by show w.heap.size ≠ g; omega)]; exact hit4
            · rw [HS3.out (cs.map (·.data.toList)) x.data.toList (by rw [HF.out]; simp), HE.out]; simp
            · intro b hb
              rcases List.mem_append.1 hb with hb | hb
              · exact Nat.le_trans (HA.out b (by simp [hb])) (by omega)
              · simp at hb; subst hb; rw [ByteArray.size_append, hmz]; omega
    · have hn := fun ty => Lib.run_next_end_at (P := Tryd.prog) wr w.heap.size s k ty hit hlt
      have hks : k = s.size := by omega
      have HX : Hid (bs.map (·.data.toList) = flds s.data.toList) := by
        show _ = _
        have := HF.out
        rw [take_all s k (by omega)] at this
        unfold flds; rw [this]
      clear hks
      go_wp2
      go_ret
      exact ⟨⟨_, bs, rfl, own_le hown (by omega), HX.out, by omega, fun b hb => Nat.le_trans (HA.out b hb) hk⟩, hbw⟩
end Go.Proofs.YtdpaiaeaamokeaaDoor.Cron

namespace Go.Proofs.YtdpaiaeaamokeaaDoor.Cron

theorem pnum_digits {l : List UInt8} (h : 0 ≤ pnum l) : ∀ c ∈ l, isDig c = true := by
  unfold pnum at h
  split at h
  · omega
  · split at h
    · rename_i ha; exact List.all_eq_true.1 ha
    · omega
theorem cut1_mem (sep : UInt8) : ∀ (l : List UInt8) (c : UInt8), c ∈ l → c = sep ∨ c ∈ (cut1 sep l).1 ∨ ((cut1 sep l).2.2 = true ∧ c ∈ (cut1 sep l).2.1)
  | [], c, h => by simp at h
  | b :: l, c, h => by
    rw [cut1]
    by_cases hb : b = sep
    · rw [if_pos hb]
      rcases List.mem_cons.1 h with rfl | h
      · exact .inl hb
      · exact .inr (.inr ⟨rfl, h⟩)
    · rw [if_neg hb]
      rcases List.mem_cons.1 h with rfl | h
      · exact .inr (.inl (by simp))
      · rcases cut1_mem sep l c h with h | h | h
        · exact .inl h
        · exact .inr (.inl (by simp [h]))
        · exact .inr (.inr h)
theorem dig_low {c : UInt8} (h : isDig c = true) : c.toNat < 128 := by have := (isDig_iff c).1 h; omega
theorem pitem_low {l : List UInt8} {lo hi : Nat} (h : pitem l lo hi ≠ 0) : ∀ c ∈ l, c.toNat < 128 := by
  obtain ⟨y, hy⟩ : ∃ y, (if (cut1 45 l).2.2 = true then pnum (cut1 45 l).2.1 else pnum (cut1 45 l).1) = y := ⟨_, rfl⟩
  have hn : ¬ (pnum (cut1 45 l).1 < (lo : Int) ∨ (hi : Int) < y ∨ y < pnum (cut1 45 l).1) := by
    intro hh
    apply h
    unfold pitem
    dsimp only
    rw [hy, if_pos hh]
  intro c hc
  rcases cut1_mem 45 l c hc with rfl | h1 | ⟨h2, h3⟩
  · decide
  · exact dig_low (pnum_digits (by omega) c h1)
  · rw [if_pos h2] at hy
    exact dig_low (pnum_digits (l := (cut1 45 l).2.1) (by omega) c h3)
theorem pieces_mem (sep : UInt8) : ∀ (l : List UInt8) (c : UInt8), c ∈ l → c = sep ∨ ∃ p ∈ pieces sep l, c ∈ p
  | [], c, h => by simp at h
  | b :: l, c, h => by
    rw [pieces]
    by_cases hb : b = sep
    · rw [if_pos hb]
      rcases List.mem_cons.1 h with rfl | h
      · exact .inl hb
      · rcases pieces_mem sep l c h with h | ⟨p, hp, hc⟩
        · exact .inl h
        · exact .inr ⟨p, by simp [hp], hc⟩
    · rw [if_neg hb]
      rcases List.mem_cons.1 h with rfl | h
      · refine .inr ?_
        split
        · exact ⟨[c], by simp, by simp⟩
        · exact ⟨_, List.mem_cons_self, by simp⟩
      · rcases pieces_mem sep l c h with h | ⟨p, hp, hc⟩
        · exact .inl h
        · refine .inr ?_
          split
          · rename_i e; rw [e] at hp; simp at hp
          · rename_i q qs e
            rw [e] at hp
            rcases List.mem_cons.1 hp with rfl | hp
            · exact ⟨_, List.mem_cons_self, by simp [hc]⟩
            · exact ⟨p, by simp [hp], hc⟩
theorem pitems_low {lo hi : Nat} : ∀ (ps : List (List UInt8)) (acc : Nat), pitems lo hi ps acc ≠ 0 → ∀ p ∈ ps, ∀ c ∈ p, c.toNat < 128
  | [], _, _, p, hp => by simp at hp
  | q :: ps, acc, h, p, hp => by
    rw [pitems] at h
    split at h
    · exact absurd rfl h
    · rename_i hq
      rcases List.mem_cons.1 hp with rfl | hp
      · exact pitem_low hq
      · exact pitems_low ps _ h p hp
theorem pfield_low {l : List UInt8} {lo hi : Nat} (h : pfield l lo hi ≠ 0) : ∀ c ∈ l, c.toNat < 128 := by
  unfold pfield at h
  split at h
  · rename_i e; subst e; intro c hc; simp at hc; subst hc; decide
  · intro c hc
    rcases pieces_mem 44 l c hc with rfl | ⟨p, hp, hcp⟩
    · decide
    · exact pitems_low _ _ h p hp c hcp
theorem fold_mem : ∀ (l : List UInt8) (st : List (List UInt8) × Bool), (st.2 = true → st.1 ≠ []) → (∀ p ∈ st.1, ∀ c ∈ p, ∃ q ∈ (l.foldl fstep st).1, c ∈ q) ∧ ∀ c ∈ l, isBlank c = true ∨ ∃ q ∈ (l.foldl fstep st).1, c ∈ q
  | [], st, _ => ⟨fun p hp c hc => ⟨p, hp, hc⟩, by simp⟩
  | b :: l, (bs, ins), hst => by
    rw [List.foldl_cons]
    unfold fstep
    dsimp only at hst ⊢
    by_cases hb : isBlank b = true
    · rw [if_pos hb]
      have ih := fold_mem l (bs, false) (by simp)
      refine ⟨ih.1, fun c hc => ?_⟩
      rcases List.mem_cons.1 hc with rfl | hc
      · exact .inl hb
      · exact ih.2 c hc
    · rw [if_neg hb]
      cases ins with
      | false =>
        have ih := fold_mem l (bs ++ [[b]], true) (by simp)
        rw [if_neg (by simp)]
        refine ⟨fun p hp => ih.1 p (by simp [hp]), fun c hc => ?_⟩
        rcases List.mem_cons.1 hc with rfl | hc
        · exact .inr (ih.1 [c] (by simp) c (by simp))
        · exact ih.2 c hc
      | true =>
        obtain ⟨cs, x, rfl⟩ : ∃ cs x, bs = cs ++ [x] := ⟨bs.dropLast, bs.getLast (hst rfl), (List.dropLast_concat_getLast (hst rfl)).symm⟩
        have ih := fold_mem l (cs ++ [x ++ [b]], true) (by simp)
        rw [if_pos rfl]
        simp only [List.dropLast_concat, List.getLastD_concat]
        refine ⟨fun p hp c hc => ?_, fun c hc => ?_⟩
        · rcases List.mem_append.1 hp with hp | hp
          · exact ih.1 p (by simp [hp]) c hc
          · simp at hp; subst hp
            exact ih.1 (p ++ [b]) (by simp) c (by simp [hc])
        · rcases List.mem_cons.1 hc with rfl | hc
          · exact .inr (ih.1 (x ++ [c]) (by simp) c (by simp))
          · exact ih.2 c hc
theorem pex_low {l : List UInt8} {e : Ex} (h : pex l = some e) : ∀ c ∈ l, c.toNat < 128 := by
  have hm := (fold_mem l ([], false) (by simp)).2
  unfold pex at h
  split at h
  · rename_i a b c d f hf
    split at h
    · cases h
    · rename_i hn
      simp only [not_or] at hn
      intro x hx
      rcases hm x hx with hb | ⟨q, hq, hxq⟩
      · simp only [isBlank, decide_eq_true_eq] at hb; omega
      · have hq' : q ∈ flds l := hq
        rw [hf] at hq'
        simp at hq'
        rcases hq' with rfl | rfl | rfl | rfl | rfl
        · exact pfield_low hn.1 x hxq
        · exact pfield_low hn.2.1 x hxq
        · exact pfield_low hn.2.2.1 x hxq
        · exact pfield_low hn.2.2.2.1 x hxq
        · exact pfield_low hn.2.2.2.2 x hxq
  · cases h
theorem pex_high {l : List UInt8} (h : ∃ c ∈ l, 128 ≤ c.toNat) : pex l = none := by
  cases hp : pex l with
  | none => rfl
  | some e =>
    obtain ⟨c, hc, h8⟩ := h
    have := pex_low hp c hc
    omega
end Go.Proofs.YtdpaiaeaamokeaaDoor.Cron

