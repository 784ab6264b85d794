/- Joined: CronParse, CronText, CronLeap, CronDaysP, CronKnown, CronStepsK, CronBlanksK, OpenInts. -/
import Derived.Deep.RegionHeld3
import Derived.Deep.DeepCutAuto
import Derived.OpenShut
import Derived.Deep.AppendLies
import Derived.Laws.IdiomStrings
import Derived.WalkKit
import Derived.ProofKit
import Derived.ChangeSlices
import Derived.KernelRfl
import Derived.Lib.LaidU8
import Derived.Test.YtdpaiaeaamokeaaDoorCronB
import Derived.Test.YtdpaiaeaamokeaaDoorCronA
import Derived.Test.YtdpaiaeaamokeaaDoorCronD
import Derived.Test.YtdpaiaeaamokeaaDoorCronC
import Derived.Test.YtdpaiaeaamokeaaDoorCronE
import Derived.Test.YtdpaiaeaamokeaaDoorCalA
import Derived.Test.YtdpaiaeaamokeaaDoorProg
namespace Go.Proofs.YtdpaiaeaamokeaaDoor.Cron
open Go.RowKit Go

theorem par_keep {g : Nat} {v0 v1 v2 v3 v4 : Value} {W w' : World} (c0 : W.cell? ⟨g, 0, none⟩ = some v0) (c1 : W.cell? ⟨g, 1, none⟩ = some v1) (c2 : W.cell? ⟨g, 2, none⟩ = some v2) (c3 : W.cell? ⟨g, 3, none⟩ = some v3) (c4 : W.cell? ⟨g, 4, none⟩ = some v4)
    (hg : g < W.heap.size) (h : Below W.heap.size W w') :
    w'.cell? ⟨g, 0, none⟩ = some v0 ∧ w'.cell? ⟨g, 1, none⟩ = some v1 ∧ w'.cell? ⟨g, 2, none⟩ = some v2 ∧ w'.cell? ⟨g, 3, none⟩ = some v3 ∧ w'.cell? ⟨g, 4, none⟩ = some v4 ∧ Below W.heap.size W w' :=
  ⟨(keep0 h hg _).trans c0, (keep0 h hg _).trans c1, (keep0 h hg _).trans c2, (keep0 h hg _).trans c3, (keep0 h hg _).trans c4, h⟩

theorem below_realloc {W w3 : World} {o o' : Obj} (h : Below W.heap.size W (w3.alloc o)) (hs : W.heap.size ≤ w3.heap.size) : Below W.heap.size W (w3.alloc o') :=
  ⟨h.os, h.tape, h.output, by simp; omega, fun k hk => by
    have h1 := h.block k hk
    rw [Below.heap_alloc _ _ _ (by omega)] at h1 ⊢
    exact h1⟩

theorem par_set7 {g q : Nat} {v0 v1 v2 v3 v4 u0 u1 u2 u3 u4 u5 u6 : Value} {W w3 : World} (c0 : W.cell? ⟨g, 0, none⟩ = some v0) (c1 : W.cell? ⟨g, 1, none⟩ = some v1) (c2 : W.cell? ⟨g, 2, none⟩ = some v2) (c3 : W.cell? ⟨g, 3, none⟩ = some v3) (c4 : W.cell? ⟨g, 4, none⟩ = some v4) (hg : g < W.heap.size) (h : Below W.heap.size W w3) (hq : W.heap.size ≤ q) :
    World.cell? ((World.setCell (World.setCell (World.setCell (World.setCell (World.setCell (World.setCell (World.setCell w3 ⟨q, 0, none⟩ u0) ⟨q, 1, none⟩ u1) ⟨q, 2, none⟩ u2) ⟨q, 3, none⟩ u3) ⟨q, 4, none⟩ u4) ⟨q, 5, none⟩ u5) ⟨q, 6, none⟩ u6)) ⟨g, 0, none⟩ = some v0 ∧ World.cell? ((World.setCell (World.setCell (World.setCell (World.setCell (World.setCell (World.setCell (World.setCell w3 ⟨q, 0, none⟩ u0) ⟨q, 1, none⟩ u1) ⟨q, 2, none⟩ u2) ⟨q, 3, none⟩ u3) ⟨q, 4, none⟩ u4) ⟨q, 5, none⟩ u5) ⟨q, 6, none⟩ u6)) ⟨g, 1, none⟩ = some v1 ∧ World.cell? ((World.setCell (World.setCell (World.setCell (World.setCell (World.setCell (World.setCell (World.setCell w3 ⟨q, 0, none⟩ u0) ⟨q, 1, none⟩ u1) ⟨q, 2, none⟩ u2) ⟨q, 3, none⟩ u3) ⟨q, 4, none⟩ u4) ⟨q, 5, none⟩ u5) ⟨q, 6, none⟩ u6)) ⟨g, 2, none⟩ = some v2 ∧ World.cell? ((World.setCell (World.setCell (World.setCell (World.setCell (World.setCell (World.setCell (World.setCell w3 ⟨q, 0, none⟩ u0) ⟨q, 1, none⟩ u1) ⟨q, 2, none⟩ u2) ⟨q, 3, none⟩ u3) ⟨q, 4, none⟩ u4) ⟨q, 5, none⟩ u5) ⟨q, 6, none⟩ u6)) ⟨g, 3, none⟩ = some v3 ∧ World.cell? ((World.setCell (World.setCell (World.setCell (World.setCell (World.setCell (World.setCell (World.setCell w3 ⟨q, 0, none⟩ u0) ⟨q, 1, none⟩ u1) ⟨q, 2, none⟩ u2) ⟨q, 3, none⟩ u3) ⟨q, 4, none⟩ u4) ⟨q, 5, none⟩ u5) ⟨q, 6, none⟩ u6)) ⟨g, 4, none⟩ = some v4 ∧ Below W.heap.size W ((World.setCell (World.setCell (World.setCell (World.setCell (World.setCell (World.setCell (World.setCell w3 ⟨q, 0, none⟩ u0) ⟨q, 1, none⟩ u1) ⟨q, 2, none⟩ u2) ⟨q, 3, none⟩ u3) ⟨q, 4, none⟩ u4) ⟨q, 5, none⟩ u5) ⟨q, 6, none⟩ u6)) :=
  par_keep c0 c1 c2 c3 c4 hg (bset (bset (bset (bset (bset (bset (bset h (a := ⟨q, 0, none⟩) hq u0) (a := ⟨q, 1, none⟩) hq u1) (a := ⟨q, 2, none⟩) hq u2) (a := ⟨q, 3, none⟩) hq u3) (a := ⟨q, 4, none⟩) hq u4) (a := ⟨q, 5, none⟩) hq u5) (a := ⟨q, 6, none⟩) hq u6)
theorem par_alloc {g : Nat} {v0 v1 v2 v3 v4 : Value} {W w3 : World} {o : Obj} (c0 : W.cell? ⟨g, 0, none⟩ = some v0) (c1 : W.cell? ⟨g, 1, none⟩ = some v1) (c2 : W.cell? ⟨g, 2, none⟩ = some v2) (c3 : W.cell? ⟨g, 3, none⟩ = some v3) (c4 : W.cell? ⟨g, 4, none⟩ = some v4) (hg : g < W.heap.size) (h : Below W.heap.size W w3) :
    World.cell? (w3.alloc o) ⟨g, 0, none⟩ = some v0 ∧ World.cell? (w3.alloc o) ⟨g, 1, none⟩ = some v1 ∧ World.cell? (w3.alloc o) ⟨g, 2, none⟩ = some v2 ∧ World.cell? (w3.alloc o) ⟨g, 3, none⟩ = some v3 ∧ World.cell? (w3.alloc o) ⟨g, 4, none⟩ = some v4 ∧ Below W.heap.size W (w3.alloc o) :=
  par_keep c0 c1 c2 c3 c4 hg (bmore h o)
theorem par_realloc {g : Nat} {v0 v1 v2 v3 v4 : Value} {W w3 : World} {o o' : Obj} (c0 : W.cell? ⟨g, 0, none⟩ = some v0) (c1 : W.cell? ⟨g, 1, none⟩ = some v1) (c2 : W.cell? ⟨g, 2, none⟩ = some v2) (c3 : W.cell? ⟨g, 3, none⟩ = some v3) (c4 : W.cell? ⟨g, 4, none⟩ = some v4) (hg : g < W.heap.size) (h : Below W.heap.size W (w3.alloc o)) (hs : W.heap.size ≤ w3.heap.size) :
    World.cell? (w3.alloc o') ⟨g, 0, none⟩ = some v0 ∧ World.cell? (w3.alloc o') ⟨g, 1, none⟩ = some v1 ∧ World.cell? (w3.alloc o') ⟨g, 2, none⟩ = some v2 ∧ World.cell? (w3.alloc o') ⟨g, 3, none⟩ = some v3 ∧ World.cell? (w3.alloc o') ⟨g, 4, none⟩ = some v4 ∧ Below W.heap.size W (w3.alloc o') :=
  par_keep c0 c1 c2 c3 c4 hg (below_realloc h hs)

theorem par_allocD {g : Nat} {v0 v1 v2 v3 v4 : Value} {W w3 : World} {o : Obj} (c0 : W.cell? ⟨g, 0, none⟩ = some v0) (c1 : W.cell? ⟨g, 1, none⟩ = some v1) (c2 : W.cell? ⟨g, 2, none⟩ = some v2) (c3 : W.cell? ⟨g, 3, none⟩ = some v3) (c4 : W.cell? ⟨g, 4, none⟩ = some v4) (hg : g < W.heap.size) (h : Below W.heap.size W w3) :
    World.cell? ((w3.alloc o).drew) ⟨g, 0, none⟩ = some v0 ∧ World.cell? ((w3.alloc o).drew) ⟨g, 1, none⟩ = some v1 ∧ World.cell? ((w3.alloc o).drew) ⟨g, 2, none⟩ = some v2 ∧ World.cell? ((w3.alloc o).drew) ⟨g, 3, none⟩ = some v3 ∧ World.cell? ((w3.alloc o).drew) ⟨g, 4, none⟩ = some v4 ∧ Below W.heap.size W ((w3.alloc o).drew) :=
  par_keep c0 c1 c2 c3 c4 hg (bmore h o).drew
theorem keepND {W w1 : World} {c : Array Value} {t : TypeId} (hb : Below (W.alloc (.cells c t)).drew.heap.size (W.alloc (.cells c t)).drew w1) :
    (∀ o, w1.cell? ⟨W.heap.size, o, none⟩ = c[o]?) ∧ (∀ o, w1.frozen? ⟨W.heap.size, o, none⟩ = false) ∧ W.heap.size < w1.heap.size :=
  have hb' : Below (W.alloc (.cells c t)).heap.size (W.alloc (.cells c t)) w1 := ⟨hb.os, hb.tape, hb.output, hb.size, hb.block⟩
  ⟨keepN hb', keepF hb', size1 hb'⟩

theorem set7_cells {w3 : World} {q : Nat} {z0 z1 z2 z3 z4 z5 z6 u0 u1 u2 u3 u4 u5 u6 : Value} (hN : ∀ o, w3.cell? ⟨q, o, none⟩ = (#[z0, z1, z2, z3, z4, z5, z6] : Array Value)[o]?) :
    ∀ w4, w4 = (World.setCell (World.setCell (World.setCell (World.setCell (World.setCell (World.setCell (World.setCell w3 ⟨q, 0, none⟩ u0) ⟨q, 1, none⟩ u1) ⟨q, 2, none⟩ u2) ⟨q, 3, none⟩ u3) ⟨q, 4, none⟩ u4) ⟨q, 5, none⟩ u5) ⟨q, 6, none⟩ u6) →
    w4.cell? ⟨q, 0, none⟩ = some u0 ∧ w4.cell? ⟨q, 1, none⟩ = some u1 ∧ w4.cell? ⟨q, 2, none⟩ = some u2 ∧ w4.cell? ⟨q, 3, none⟩ = some u3 ∧ w4.cell? ⟨q, 4, none⟩ = some u4 ∧ w4.cell? ⟨q, 5, none⟩ = some u5 ∧ w4.cell? ⟨q, 6, none⟩ = some u6 := by
  rintro w4 rfl
  have hss := isSome_setCell
  have hcs := cell_same
  have hne : ∀ (W : World) (i j : Nat) (v : Value), i ≠ j → (W.setCell ⟨q, i, none⟩ v).cell? ⟨q, j, none⟩ = W.cell? ⟨q, j, none⟩ := fun W i j v h => by
    apply World.cell?_setCell_other
    simp [h]
  refine ⟨?_, ?_, ?_, ?_, ?_, ?_, ?_⟩
  all_goals
    repeat rw [hne _ _ _ _ (by decide)]
    rw [hcs]
    simp only [hss, hN]
    rfl

theorem field_int (s : ByteArray) (lo hi : Int) (w : World) (hm : MaxOk w) (hs : s.size < 4294967281) (h0 : 0 ≤ lo) (hl : lo ≤ hi) (hh : hi ≤ 62) :
    Calls Tryd.prog 57 #[.string s, .int .i64 lo, .int .i64 hi] w fun e w' => e = .returned (.int .u64 (pfield s.data.toList lo.toNat hi.toNat : Nat)) ∧ Below w.heap.size w w' := by
  obtain ⟨a, rfl⟩ : ∃ a : Nat, lo = a := ⟨lo.toNat, by omega⟩
  obtain ⟨b, rfl⟩ : ∃ b : Nat, hi = b := ⟨hi.toNat, by omega⟩
  simpa using field_any s a b w hm hs (by omega) (by omega)

/-- No expression; what Parse says of a text. -/
def zeroEx : Ex := ⟨0, 0, 0, 0, 0, false, false⟩
def pres (s : ByteArray) : Ex × Int := if 100 < s.size then (zeroEx, 5) else match pex s.data.toList with
  | none => (zeroEx, 25)
  | some e => (e, 0)
def ParPost (s : ByteArray) (e : Ending) : Prop := e = .returned (.tuple #[exV (pres s).1, .int .i64 (pres s).2])
theorem pres_none (s : ByteArray) (h : s.size ≤ 100) (hp : pex s.data.toList = none) : pres s = (zeroEx, 25) := by
  rw [pres, if_neg (by omega), hp]
theorem pres_some (s : ByteArray) (e : Ex) (h : s.size ≤ 100) (hp : pex s.data.toList = some e) : pres s = (e, 0) := by
  rw [pres, if_neg (by omega), hp]
theorem pex_five {l a b c d e : List UInt8} (h : flds l = [a, b, c, d, e]) :
    pex l = if pfield a 0 59 = 0 ∨ pfield b 0 23 = 0 ∨ pfield c 1 31 = 0 ∨ pfield d 1 12 = 0 ∨ pfield e 0 6 = 0 then none
      else some ⟨pfield a 0 59, pfield b 0 23, pfield c 1 31, pfield d 1 12, pfield e 0 6, decide (c = [42]), decide (e = [42])⟩ := by
  unfold pex; rw [h]
theorem pex_not5 {l : List UInt8} (h : (flds l).length ≠ 5) : pex l = none := by
  unfold pex
  split
  · rename_i e; rw [e] at h; simp at h
  · rfl
theorem zset7 {W w3 : World} {z0 z1 z2 z3 z4 z5 z6 : Value} (h : Below W.heap.size W w3) :
    Below W.heap.size W (World.setCell (World.setCell (World.setCell (World.setCell (World.setCell (World.setCell (World.setCell w3 ⟨W.heap.size, 0, none⟩ z0) ⟨W.heap.size, 1, none⟩ z1) ⟨W.heap.size, 2, none⟩ z2) ⟨W.heap.size, 3, none⟩ z3) ⟨W.heap.size, 4, none⟩ z4) ⟨W.heap.size, 5, none⟩ z5) ⟨W.heap.size, 6, none⟩ z6) :=
  bset (bset (bset (bset (bset (bset (bset h (Nat.le_refl _) _) (Nat.le_refl _) _) (Nat.le_refl _) _) (Nat.le_refl _) _) (Nat.le_refl _) _) (Nat.le_refl _) _) (Nat.le_refl _) _

theorem beq_dec (a b : List UInt8) : (a == b) = decide (a = b) := by rw [Bool.eq_iff_iff]; simp
theorem par_ret (b : Nat) (tmps : Array Value) (wf : World) (u0 u1 u2 u3 u4 u5 u6 : Value) (n : Int) {post : Ending → World → Prop} (h2 : tmps[2]?.getD undef = .pointer (some ⟨b, 0, none⟩)) (h3 : tmps[3]?.getD undef = .int .i64 n)
    (S7 : wf.cell? ⟨b, 0, none⟩ = some u0 ∧ wf.cell? ⟨b, 1, none⟩ = some u1 ∧ wf.cell? ⟨b, 2, none⟩ = some u2 ∧ wf.cell? ⟨b, 3, none⟩ = some u3 ∧ wf.cell? ⟨b, 4, none⟩ = some u4 ∧ wf.cell? ⟨b, 5, none⟩ = some u5 ∧ wf.cell? ⟨b, 6, none⟩ = some u6)
    (hp : post (.returned (.tuple #[.agg #[u0, u1, u2, u3, u4, u5, u6], .int .i64 n])) wf) : bodyPost Tryd.prog Tryd.f16 post .ret ⟨tmps, []⟩ wf := by
  obtain ⟨s0, s1, s2, s3, s4, s5, s6⟩ := S7
  exact bodyPost_ret (v := .tuple #[.agg #[u0, u1, u2, u3, u4, u5, u6], .int .i64 n]) (by simp [results, Tryd.results16, go_sem, h2, h3, s0, s1, s2, s3, s4, s5, s6]) rfl hp

set_option maxHeartbeats 1600000 in
set_option maxRecDepth 100000 in
theorem parse_short (s : ByteArray) (w : World) (hT : Tabs w) (hm : MaxOk w) (hs : s.size ≤ 100) :
    Calls Tryd.prog 16 #[.string s] w fun e w' => ParPost s e ∧ Below w.heap.size w w' := by
  go_enter Tryd.func16, Tryd.ntmps16
  go_wp2_with fail
  go_at_call 55
  refine (tov s _ (by omega) (hT.below ((Below.refl _ _).alloc (Nat.le_refl _) _))).mono ?_
  rintro e w1 ⟨⟨t, rfl, ht⟩, hb1⟩
  have hB1 := keepN hb1
  have hF1 := keepF hb1
  have hz1 := size1 hb1
  have hbel1 : Below w.heap.size w w1 := ((Below.refl _ _).alloc (Nat.le_refl _) _).trans (hb1.mono (by simp))
  clear hb1
  have hdec : t.toList = s.toList → t = s := fun h => by
    rw [Lib.toList_data, Lib.toList_data] at h
    exact ByteArray.ext (Array.toList_inj.1 h)
  by_cases hts : t = s
  case neg =>
    have hq : (t.toList == s.toList) = false := by simp; exact fun h => hts (hdec h)
    have hq2 : (t.toList != s.toList) = true := by simp [bne, hq]
    have HP : Hid (pres s = (zeroEx, 25)) := by
      show _ = _
      rcases ht with ⟨h, -⟩ | ⟨-, h⟩
      · exact absurd h hts
      · exact pres_none s hs (pex_high h)
    clear ht hdec hts
    go_wp2
    have S7 := set7_cells hB1 (u0 := .int .u64 0) (u1 := .int .u64 0) (u2 := .int .u64 0) (u3 := .int .u64 0) (u4 := .int .u64 0) (u5 := .bool false) (u6 := .bool false) _ rfl
    exact par_ret w.heap.size _ _ _ _ _ _ _ _ _ _ rfl rfl S7 ⟨by show _ = _; rw [HP.out]; rfl, zset7 hbel1⟩
  have hqe : (t.toList == s.toList) = true := by simp [hts]
  have hq2 : (t.toList != s.toList) = false := by simp [hts]
  have hv : Val s 0 := by
    rcases ht with ⟨-, h⟩ | ⟨h, -⟩
    · exact h
    · rw [hts] at h; omega
  clear ht hdec hts
  go_wp2_with fail
  go_at_call 56
  refine (fields_any s _ (by omega) hv).mono ?_
  rintro e w2 ⟨⟨v, bs, rfl, hown, hfl, hbl, hbz⟩, hb2⟩
  have hbel := bthen hbel1 hb2
  have hB2 := fun o => (keep0 hb2 hz1 o).trans (hB1 o)
  have hF2 := fun o => (keepF0 hb2 hz1 o).trans (hF1 o)
  have hz2 := Nat.lt_of_lt_of_le hz1 hb2.size
  clear hb2 hbel1 hB1 hF1 hz1
  have HB := Lib.hid hB2
  have HFr := Lib.hid hF2
  clear hB2 hF2
  by_cases h5 : bs.length = 5
  case neg =>
    have h5i : ((bs.length : Int) != 5) = true := by simp; omega
    have HP : Hid (pres s = (zeroEx, 25)) := by
      show _ = _
      exact pres_none s hs (pex_not5 (by rw [← hfl]; simpa using h5))
    have hBx := HB.out
    have hFx := HFr.out
    have hvl : v = .slice none 0 0 ∧ bs.length = 0 ∨ ∃ g cap, v = .slice (some ⟨g, 0, none⟩) bs.length cap := by
      rcases hown.2 with h | ⟨g, cap, cur, h, -⟩
      · exact .inl h
      · exact .inr ⟨g, cap, h⟩
    clear hown hfl hbl hbz h5
    rcases hvl with ⟨rfl, hz⟩ | ⟨g, cap, rfl⟩
    · clear h5i hz
      go_wp2
      have S7 := set7_cells hBx (u0 := .int .u64 0) (u1 := .int .u64 0) (u2 := .int .u64 0) (u3 := .int .u64 0) (u4 := .int .u64 0) (u5 := .bool false) (u6 := .bool false) _ rfl
      exact par_ret w.heap.size _ _ _ _ _ _ _ _ _ _ rfl rfl S7 ⟨by show _ = _; rw [HP.out]; rfl, zset7 hbel⟩
    · generalize bs.length = n at *
      go_wp2
      have S7 := set7_cells hBx (u0 := .int .u64 0) (u1 := .int .u64 0) (u2 := .int .u64 0) (u3 := .int .u64 0) (u4 := .int .u64 0) (u5 := .bool false) (u6 := .bool false) _ rfl
      exact par_ret w.heap.size _ _ _ _ _ _ _ _ _ _ rfl rfl S7 ⟨by show _ = _; rw [HP.out]; rfl, zset7 hbel⟩
  match bs, h5, hown, hfl, hbl, hbz with
  | [b0, b1, b2, b3, b4], _, hown, hfl, hbl, hbz =>
    obtain ⟨g, cap, rfl, hgB, hgl⟩ := hown.form (by simp)
    have z0 : b0.size ≤ s.size := hbz b0 (by simp)
    have z1 : b1.size ≤ s.size := hbz b1 (by simp)
    have z2 : b2.size ≤ s.size := hbz b2 (by simp)
    have z3 : b3.size ≤ s.size := hbz b3 (by simp)
    have z4 : b4.size ≤ s.size := hbz b4 (by simp)
    have c0 : w2.cell? ⟨g, 0, none⟩ = some (.string b0) := hown.cellAt 0 (by simp)
    have c1 : w2.cell? ⟨g, 1, none⟩ = some (.string b1) := hown.cellAt 1 (by simp)
    have c2 : w2.cell? ⟨g, 2, none⟩ = some (.string b2) := hown.cellAt 2 (by simp)
    have c3 : w2.cell? ⟨g, 3, none⟩ = some (.string b3) := hown.cellAt 3 (by simp)
    have c4 : w2.cell? ⟨g, 4, none⟩ = some (.string b4) := hown.cellAt 4 (by simp)
    have hbs : Below w2.heap.size w2 w2 := Below.refl _ _
    have HF := Lib.hid hfl
    have hm2 := hm.below hbel
    have HBL := Lib.hid hbel
    clear hown hfl hbl hbz hv hT hm hbel
    simp only [List.length_cons, List.length_nil]
    go_upto_region 8 with fail
    go_cut [5] (fun s5 wx => ∃ q : Nat, s5 = .pointer (some ⟨q, 0, none⟩) ∧ w2.heap.size ≤ q ∧ Below w2.heap.size w2 wx ∧ wx.cell? ⟨q, 0, none⟩ = some (.int .u64 (pfield b0.data.toList 0 59 : Nat)) ∧ wx.cell? ⟨q, 1, none⟩ = some (.int .u64 (pfield b1.data.toList 0 23 : Nat)) ∧ wx.cell? ⟨q, 2, none⟩ = some (.int .u64 (pfield b2.data.toList 1 31 : Nat)) ∧ wx.cell? ⟨q, 3, none⟩ = some (.int .u64 (pfield b3.data.toList 1 12 : Nat)) ∧ wx.cell? ⟨q, 4, none⟩ = some (.int .u64 (pfield b4.data.toList 0 6 : Nat)) ∧ wx.cell? ⟨q, 5, none⟩ = some (.bool (b2.toList == [42])) ∧ wx.cell? ⟨q, 6, none⟩ = some (.bool (b4.toList == [42])))
    case first =>
      go_region_held3 (fun w' => w'.cell? ⟨g, 0, none⟩ = some (.string b0) ∧ w'.cell? ⟨g, 1, none⟩ = some (.string b1) ∧ w'.cell? ⟨g, 2, none⟩ = some (.string b2) ∧ w'.cell? ⟨g, 3, none⟩ = some (.string b3) ∧ w'.cell? ⟨g, 4, none⟩ = some (.string b4) ∧ Below w2.heap.size w2 w')
        (first
          | (with_reducible refine par_set7 c0 c1 c2 c3 c4 hgl ?_ ?_
             · first | assumption | (go_split_ands; assumption)
             · first | exact Nat.le_refl _ | (refine Hid.out ?_; assumption))
          | (with_reducible refine par_alloc c0 c1 c2 c3 c4 hgl ?_
             first | assumption | exact hbs.drew | (go_split_ands; assumption))
          | (with_reducible refine par_allocD c0 c1 c2 c3 c4 hgl ?_
             first | assumption | (go_split_ands; assumption))
          | (with_reducible refine par_realloc c0 c1 c2 c3 c4 hgl (o := ?_) ?_ ?_
             rotate_left
             · first | assumption | (go_split_ands; assumption)
             · refine Hid.out ?_; assumption)
          | with_reducible exact par_keep c0 c1 c2 c3 c4 hgl hbs.drew
          | (with_reducible refine par_keep c0 c1 c2 c3 c4 hgl (bthen ?_ hb)
             first | assumption | exact hbs.drew | (go_split_ands; assumption))
          | go_keep)
        (first
          | (go_at_call 57; refine (field_int _ _ _ _ (hm2.below (by first | assumption | exact hbs.drew | (go_split_ands; assumption))) (by omega) (by omega) (by omega) (by omega)).mono ?_; rintro e w3 ⟨rfl, hb⟩
             have hs3 : Hid (w2.heap.size ≤ w3.heap.size) := (bthen (by first | assumption | exact hbs.drew | (go_split_ands; assumption)) hb).size
             first
               | (have hN := keepN hb; have hNF := keepF hb; have hNz := size1 hb)
               | (have hND := keepND hb; have hN := hND.1; have hNF := hND.2.1; have hNz := hND.2.2; clear hND)
               | (have hN2 := fun o => (keep0 hb hNz o).trans (hN o)
                  have hNF2 := fun o => (keepF0 hb hNz o).trans (hNF o)
                  have hNz2 := Nat.lt_of_lt_of_le hNz hb.size
                  clear hN hNF hNz
                  have hN := hN2
                  have hNF := hNF2
                  have hNz := hNz2
                  clear hN2 hNF2 hNz2)
               | skip
             have hsS := isSome_setCell
             have hsC := cell_same))
      all_goals (
        go_wp2_with fail
        go_meet
        first
          | exact ⟨_, rfl, (by first | exact Nat.le_refl _ | (refine Hid.out ?_; assumption)), (by first | with_reducible assumption | (go_split_ands; with_reducible assumption)), set7_cells hN _ rfl⟩
          | exact ⟨_, rfl, (by first | exact Nat.le_refl _ | (refine Hid.out ?_; assumption)), (by first | with_reducible assumption | (go_split_ands; with_reducible assumption)), alloc_new _ _ _ 0, alloc_new _ _ _ 1, alloc_new _ _ _ 2, alloc_new _ _ _ 3, alloc_new _ _ _ 4, alloc_new _ _ _ 5, alloc_new _ _ _ 6⟩
          | trace_state)
    case rest =>
      obtain ⟨q, rfl, hq, hbx, d0, d1, d2, d3, d4, d5, d6⟩ := hcut
      have hBx := fun o => (keep0 hbx hz2 o).trans (HB.out o)
      have hFx := fun o => (keepF0 hbx hz2 o).trans (HFr.out o)
      have hbelx := bthen HBL.out hbx
      obtain ⟨p0, e0⟩ : ∃ p0, pfield b0.data.toList 0 59 = p0 := ⟨_, rfl⟩
      obtain ⟨p1, e1⟩ : ∃ p1, pfield b1.data.toList 0 23 = p1 := ⟨_, rfl⟩
      obtain ⟨p2, e2⟩ : ∃ p2, pfield b2.data.toList 1 31 = p2 := ⟨_, rfl⟩
      obtain ⟨p3, e3⟩ : ∃ p3, pfield b3.data.toList 1 12 = p3 := ⟨_, rfl⟩
      obtain ⟨p4, e4⟩ : ∃ p4, pfield b4.data.toList 0 6 = p4 := ⟨_, rfl⟩
      rw [e0] at d0
      rw [e1] at d1
      rw [e2] at d2
      rw [e3] at d3
      rw [e4] at d4
      have E0 := Lib.hid e0
      have E1 := Lib.hid e1
      have E2 := Lib.hid e2
      have E3 := Lib.hid e3
      have E4 := Lib.hid e4
      clear e0 e1 e2 e3 e4 c0 c1 c2 c3 c4 hbs hbx HBL
      have hsS := isSome_setCell
      have hsC := cell_same
      have hsT := setCell_twice
      have HX : Hid (pex s.data.toList = if p0 = 0 ∨ p1 = 0 ∨ p2 = 0 ∨ p3 = 0 ∨ p4 = 0 then none else some ⟨p0, p1, p2, p3, p4, decide (b2.data.toList = [42]), decide (b4.data.toList = [42])⟩) := by
        show _ = _
        have := pex_five (l := s.data.toList) (HF.out.symm)
        rw [this, E0.out, E1.out, E2.out, E3.out, E4.out]
      by_cases k0 : p0 = 0
      · have t0 : ((p0 : Int) == 0) = true := by simp; exact k0
        have HP : Hid (pres s = (zeroEx, 25)) := by show _ = _; exact pres_none s hs (by rw [HX.out, if_pos (by omega)])
        clear k0
        go_wp2
        have S7 := set7_cells hBx (u0 := .int .u64 0) (u1 := .int .u64 0) (u2 := .int .u64 0) (u3 := .int .u64 0) (u4 := .int .u64 0) (u5 := .bool false) (u6 := .bool false) _ rfl
        exact par_ret w.heap.size _ _ _ _ _ _ _ _ _ _ rfl rfl S7 ⟨by show _ = _; rw [HP.out]; rfl, zset7 hbelx⟩
      have t0 : ((p0 : Int) == 0) = false := by simp; exact k0
      by_cases k1 : p1 = 0
      · have t1 : ((p1 : Int) == 0) = true := by simp; exact k1
        have HP : Hid (pres s = (zeroEx, 25)) := by show _ = _; exact pres_none s hs (by rw [HX.out, if_pos (by omega)])
        clear k1
        go_wp2
        have S7 := set7_cells hBx (u0 := .int .u64 0) (u1 := .int .u64 0) (u2 := .int .u64 0) (u3 := .int .u64 0) (u4 := .int .u64 0) (u5 := .bool false) (u6 := .bool false) _ rfl
        exact par_ret w.heap.size _ _ _ _ _ _ _ _ _ _ rfl rfl S7 ⟨by show _ = _; rw [HP.out]; rfl, zset7 hbelx⟩
      have t1 : ((p1 : Int) == 0) = false := by simp; exact k1
      by_cases k2 : p2 = 0
      · have t2 : ((p2 : Int) == 0) = true := by simp; exact k2
        have HP : Hid (pres s = (zeroEx, 25)) := by show _ = _; exact pres_none s hs (by rw [HX.out, if_pos (by omega)])
        clear k2
        go_wp2
        have S7 := set7_cells hBx (u0 := .int .u64 0) (u1 := .int .u64 0) (u2 := .int .u64 0) (u3 := .int .u64 0) (u4 := .int .u64 0) (u5 := .bool false) (u6 := .bool false) _ rfl
        exact par_ret w.heap.size _ _ _ _ _ _ _ _ _ _ rfl rfl S7 ⟨by show _ = _; rw [HP.out]; rfl, zset7 hbelx⟩
      have t2 : ((p2 : Int) == 0) = false := by simp; exact k2
      by_cases k3 : p3 = 0
      · have t3 : ((p3 : Int) == 0) = true := by simp; exact k3
        have HP : Hid (pres s = (zeroEx, 25)) := by show _ = _; exact pres_none s hs (by rw [HX.out, if_pos (by omega)])
        clear k3
        go_wp2
        have S7 := set7_cells hBx (u0 := .int .u64 0) (u1 := .int .u64 0) (u2 := .int .u64 0) (u3 := .int .u64 0) (u4 := .int .u64 0) (u5 := .bool false) (u6 := .bool false) _ rfl
        exact par_ret w.heap.size _ _ _ _ _ _ _ _ _ _ rfl rfl S7 ⟨by show _ = _; rw [HP.out]; rfl, zset7 hbelx⟩
      have t3 : ((p3 : Int) == 0) = false := by simp; exact k3
      by_cases k4 : p4 = 0
      · have t4 : ((p4 : Int) == 0) = true := by simp; exact k4
        have HP : Hid (pres s = (zeroEx, 25)) := by show _ = _; exact pres_none s hs (by rw [HX.out, if_pos (by omega)])
        clear k4
        go_wp2
        have S7 := set7_cells hBx (u0 := .int .u64 0) (u1 := .int .u64 0) (u2 := .int .u64 0) (u3 := .int .u64 0) (u4 := .int .u64 0) (u5 := .bool false) (u6 := .bool false) _ rfl
        exact par_ret w.heap.size _ _ _ _ _ _ _ _ _ _ rfl rfl S7 ⟨by show _ = _; rw [HP.out]; rfl, zset7 hbelx⟩
      have t4 : ((p4 : Int) == 0) = false := by simp; exact k4
      have HP : Hid (pres s = (⟨p0, p1, p2, p3, p4, decide (b2.data.toList = [42]), decide (b4.data.toList = [42])⟩, 0)) := by show _ = _; exact pres_some s _ hs (by rw [HX.out, if_neg (by omega)])
      clear k0 k1 k2 k3 k4
      go_wp2
      have S7 := set7_cells hBx (u0 := .int .u64 p0) (u1 := .int .u64 p1) (u2 := .int .u64 p2) (u3 := .int .u64 p3) (u4 := .int .u64 p4) (u5 := .bool (b2.toList == [42])) (u6 := .bool (b4.toList == [42])) _ rfl
      exact par_ret w.heap.size _ _ _ _ _ _ _ _ _ _ rfl rfl S7 ⟨by show _ = _; rw [HP.out]; simp only [exV, Lib.toList_data, beq_dec], zset7 hbelx⟩

set_option maxRecDepth 100000 in
theorem parse_any (s : ByteArray) (w : World) (hT : Tabs w) (hm : MaxOk w) (hs : s.size ≤ 9223372036854775807) :
    Calls Tryd.prog 16 #[.string s] w fun e w' => ParPost s e ∧ Below w.heap.size w w' := by
  by_cases h : s.size ≤ 100
  · exact parse_short s w hT hm h
  · have HP : Hid (pres s = (zeroEx, 5)) := by show _ = _; rw [pres, if_pos (by omega)]
    have h1 : (100 : Int) < (s.size : Int) := by omega
    go_enter Tryd.func16, Tryd.ntmps16
    go_wp2
    exact par_ret w.heap.size _ _ _ _ _ _ _ _ _ _ rfl rfl ⟨alloc_new _ _ _ 0, alloc_new _ _ _ 1, alloc_new _ _ _ 2, alloc_new _ _ _ 3, alloc_new _ _ _ 4, alloc_new _ _ _ 5, alloc_new _ _ _ 6⟩ ⟨by show _ = _; rw [HP.out]; rfl, (Below.refl _ _).alloc (Nat.le_refl _) _⟩
end Go.Proofs.YtdpaiaeaamokeaaDoor.Cron

namespace Go.Proofs.YtdpaiaeaamokeaaDoor.Cron
open Go.RowKit Go

theorem star_any (all : Bool) (b lo hi : Nat) (w : World) (hb : b < 18446744073709551616) (hl : lo ≤ hi) (hh : hi ≤ 62) :
    Calls Tryd.prog 60 #[.bool all, .int .u64 b, .int .i64 lo, .int .i64 hi] w fun e w' => e = .returned (.string (bytesOf (starL all b lo hi))) ∧ Below w.heap.size w w' := by
  cases all with
  | true =>
    have HS : Hid (starL true b lo hi = [42]) := rfl
    go_enter Tryd.func60, Tryd.ntmps60
    go_wp2
    go_ret
    exact ⟨by rw [HS.out]; rfl, Below.refl _ _⟩
  | false =>
    have HS : Hid (starL false b lo hi = toldL b lo hi) := by show _ = _; simp [starL]
    go_enter Tryd.func60, Tryd.ntmps60
    go_wp2_with fail
    go_at_call 92
    refine (told_any b lo hi _ hb hl hh).mono ?_
    rintro x w1 ⟨rfl, hb1⟩
    go_wp2
    go_ret
    exact ⟨by rw [HS.out]; rfl, hb1⟩
/-- .. over Int bounds: one contract for all calls. -/
theorem star_i (all : Bool) (b : Nat) (x y : Int) (w : World) (hb : b < 18446744073709551616) (h : 0 ≤ x ∧ x ≤ y ∧ y ≤ 62) :
    Calls Tryd.prog 60 #[.bool all, .int .u64 b, .int .i64 x, .int .i64 y] w fun e w' => e = .returned (.string (bytesOf (starL all b x.toNat y.toNat))) ∧ Below w.heap.size w w' := by
  have := star_any all b x.toNat y.toNat w hb (by omega) (by omega)
  rw [Int.toNat_of_nonneg (by omega), Int.toNat_of_nonneg (by omega)] at this
  exact this
theorem span_ib (x y : Int) (w : World) (h : 0 ≤ x ∧ x ≤ y ∧ y ≤ 62) : Calls Tryd.prog 61 #[.int .i64 x, .int .i64 y] w fun e w' => e = .returned (.int .u64 (spanN x.toNat y.toNat : Nat)) ∧ Below w.heap.size w w' :=
  (span_i x y w h).mono fun _ _ ⟨he, _, hw⟩ => ⟨he, hw ▸ below_drewN (Below.refl _ _) _⟩
theorem join_bytes (l : List (List UInt8)) : (l.map bytesOf).map (·.data.toList) = l := by
  rw [List.map_map]; exact List.map_id'' (fun x => rfl) l

theorem txt_keep {b : Nat} {C : Array Value} {w W : World} (hc : ∀ o, w.cell? ⟨b, o, none⟩ = C[o]?) (hl : b < w.heap.size) (hb : Below w.heap.size w W) :
    (∀ o, W.cell? ⟨b, o, none⟩ = C[o]?) ∧ Below w.heap.size w W := ⟨fun o => (keep0 hb hl o).trans (hc o), hb⟩
theorem txt_alloc {b : Nat} {C : Array Value} {w W : World} {x : Obj} (hc : ∀ o, w.cell? ⟨b, o, none⟩ = C[o]?) (hl : b < w.heap.size) (hb : Below w.heap.size w W) :
    (∀ o, (W.alloc x).cell? ⟨b, o, none⟩ = C[o]?) ∧ Below w.heap.size w (W.alloc x) := txt_keep hc hl (bmore hb x)
theorem txt_allocD {b : Nat} {C : Array Value} {w W : World} {x : Obj} (hc : ∀ o, w.cell? ⟨b, o, none⟩ = C[o]?) (hl : b < w.heap.size) (hb : Below w.heap.size w W) :
    (∀ o, ((W.alloc x).drew).cell? ⟨b, o, none⟩ = C[o]?) ∧ Below w.heap.size w ((W.alloc x).drew) := txt_keep hc hl (bmore hb x).drew
theorem join5 {X : World} {b : Nat} {S0 S1 S2 S3 S4 sep : ByteArray} (hc : ∀ j, X.cell? ⟨b, j, none⟩ = (#[Value.string S0, .string S1, .string S2, .string S3, .string S4] : Array Value)[j]?) (hb : b < X.heap.size)
    (hl : (Lib.join [S0.data.toList, S1.data.toList, S2.data.toList, S3.data.toList, S4.data.toList] sep.data.toList).length ≤ 140737488355328) :
    Calls Tryd.prog 52 #[.slice (some ⟨b, 0, none⟩) 5 5, .string sep] X fun e w' => e = .returned (.string (bytesOf (Lib.join [S0.data.toList, S1.data.toList, S2.data.toList, S3.data.toList, S4.data.toList] sep.data.toList))) ∧ Below X.heap.size X w' :=
  Tryd.strings_Join b 0 5 [S0, S1, S2, S3, S4] sep X (fun j x hx => by
    rw [Nat.zero_add, hc j]
    match j, hx with
    | 0, hx => cases hx; rfl
    | 1, hx => cases hx; rfl
    | 2, hx => cases hx; rfl
    | 3, hx => cases hx; rfl
    | 4, hx => cases hx; rfl
    | _ + 5, hx => simp at hx) hb (by simp) (by simp) hl
theorem starL_len (all : Bool) (b lo hi : Nat) (h : hi ≤ 62) : (starL all b lo hi).length ≤ 400 := by
  unfold starL; split
  · simp
  · exact toldL_len b lo hi h
theorem join5_len (a b c d e : List UInt8) (ha : a.length ≤ 400) (hb : b.length ≤ 400) (hc : c.length ≤ 400) (hd : d.length ≤ 400) (he : e.length ≤ 400) : (Lib.join [a, b, c, d, e] [32]).length ≤ 140737488355328 := by
  have := join_len [32] 400 [a, b, c, d, e] (by simp [ha, hb, hc, hd, he])
  simp at this; omega
theorem eq_dec (a b : Nat) : ((a : Int) == (b : Int)) = decide (a = b) := by rw [Bool.eq_iff_iff]; simp; omega

set_option maxHeartbeats 4000000 in
set_option maxRecDepth 100000 in
theorem text_any (e : Ex) (w : World) (he : ExOk e) :
    Calls Tryd.prog 19 #[exV e] w fun x w' => x = .returned (.string (bytesOf (textL e))) ∧ Below w.heap.size w w' := by
  obtain ⟨mi, ho, da, mo, wk, ad, aw⟩ := e
  obtain ⟨b1, b2, b3, b4, b5⟩ := he
  dsimp only at b1 b2 b3 b4 b5
  unfold exV
  have HT : Hid (textL ⟨mi, ho, da, mo, wk, ad, aw⟩ = Lib.join [starL ((mi : Int) == (spanN 0 59 : Nat)) mi 0 59, starL ((ho : Int) == (spanN 0 23 : Nat)) ho 0 23, starL ad da 1 31, starL ((mo : Int) == (spanN 1 12 : Nat)) mo 1 12, starL aw wk 0 6] [32]) := by
    show _ = _
    rw [eq_dec, eq_dec, eq_dec]; rfl
  go_enter Tryd.func19, Tryd.ntmps19
  go_wp2
  have hc := alloc_new w #[.int .u64 mi, .int .u64 ho, .int .u64 da, .int .u64 mo, .int .u64 wk, .bool ad, .bool aw] 35
  have hgl : w.heap.size < (w.alloc (.cells #[.int .u64 mi, .int .u64 ho, .int .u64 da, .int .u64 mo, .int .u64 wk, .bool ad, .bool aw] 35)).heap.size := by simp
  have hb0 : Below w.heap.size w (w.alloc (.cells #[.int .u64 mi, .int .u64 ho, .int .u64 da, .int .u64 mo, .int .u64 wk, .bool ad, .bool aw] 35)) := bmore (Below.refl _ _) _
  generalize w.alloc (.cells #[.int .u64 mi, .int .u64 ho, .int .u64 da, .int .u64 mo, .int .u64 wk, .bool ad, .bool aw] 35) = w2 at *
  have hbs : Below w2.heap.size w2 w2 := Below.refl _ _
  have HB0 := Lib.hid hb0
  clear hb0
  have HB1 : Hid (Below w.heap.size w w2) := HB0
  generalize w.heap.size = B at hc hgl HB0 ⊢
  go_region_held3 (fun w' => (∀ o, w'.cell? ⟨B, o, none⟩ = (#[.int .u64 mi, .int .u64 ho, .int .u64 da, .int .u64 mo, .int .u64 wk, .bool ad, .bool aw] : Array Value)[o]?) ∧ Below w2.heap.size w2 w')
    (first
      | with_reducible exact txt_keep hc hgl hbs.drew
      | (with_reducible refine txt_alloc hc hgl ?_
         first | assumption | exact hbs.drew | (go_split_ands; assumption))
      | (with_reducible refine txt_allocD hc hgl ?_
         first | assumption | exact hbs.drew | (go_split_ands; assumption))
      | (with_reducible refine txt_keep hc hgl (bthen ?_ hb)
         first | assumption | exact hbs.drew | (go_split_ands; assumption))
      | go_keep)
    (first
      | (go_at_call 61; refine (span_ib _ _ _ (by omega)).mono ?_; rintro e w3 ⟨rfl, hb⟩)
      | (go_at_call 60; refine (star_i _ _ _ _ _ (by assumption) (by omega)).mono ?_; rintro e w3 ⟨rfl, hb⟩)
      | (go_at_call 52; refine (join5 (alloc_new _ _ _) (by simp) (join5_len _ _ _ _ _ (starL_len _ _ _ _ (by omega)) (starL_len _ _ _ _ (by omega)) (starL_len _ _ _ _ (by omega)) (starL_len _ _ _ _ (by omega)) (starL_len _ _ _ _ (by omega)))).mono ?_; rintro e w3 ⟨rfl, hb⟩))
  all_goals (
    go_wp2_with fail
    go_ret
    refine ⟨by rw [HT.out]; rfl, bthen HB1.out ?_⟩
    go_split_ands
    assumption)
end Go.Proofs.YtdpaiaeaamokeaaDoor.Cron

namespace Go.Proofs.YtdpaiaeaamokeaaDoor.Cron
open Go.RowKit Go Go.Proofs.YtdpaiaeaamokeaaDoor.Cal

theorem day_ex (D : Int) (h : 0 ≤ D) : ∃ y m d, IsDay D y m d := by
  have key : ∀ k : Nat, ∃ y m d, IsDay (k : Int) y m d := by
    intro k
    induction k with
    | zero => exact ⟨1, 1, 1, by decide, by decide, by decide, by decide, by decide, by decide⟩
    | succ k ih =>
      obtain ⟨y, m, d, hd⟩ := ih
      obtain ⟨a, b, c⟩ := hd.next
      have := hd.dd
      have := hd.m12
      have e : ((k + 1 : Nat) : Int) = (k : Int) + 1 := by omega
      rw [e]
      by_cases h1 : d < dm y m
      · exact ⟨_, _, _, a h1⟩
      · by_cases h2 : m < 12
        · exact ⟨_, _, _, b (by omega) h2⟩
        · exact ⟨_, _, _, c (by omega) (by omega)⟩
  obtain ⟨y, m, d, hd⟩ := key D.toNat
  rw [Int.toNat_of_nonneg h] at hd
  exact ⟨y, m, d, hd⟩

/-- The 29th of February at midnight; the 30th. -/
def exL : Ex := ⟨1, 1, 536870912, 4, spanN 0 6, false, true⟩
def exN : Ex := ⟨1, 1, 1073741824, 4, spanN 0 6, false, true⟩
def exA : Ex := ⟨spanN 0 59, spanN 0 23, spanN 1 31, spanN 1 12, spanN 0 6, true, true⟩
theorem bit1 (i : Nat) : Nat.testBit 1 i = decide (0 = i) := Nat.testBit_two_pow (n := 0) (m := i)
theorem bit4 (i : Nat) : Nat.testBit 4 i = decide (2 = i) := Nat.testBit_two_pow (n := 2) (m := i)
theorem bit29 (i : Nat) : Nat.testBit 536870912 i = decide (29 = i) := Nat.testBit_two_pow (n := 29) (m := i)
theorem bit30 (i : Nat) : Nat.testBit 1073741824 i = decide (30 = i) := Nat.testBit_two_pow (n := 30) (m := i)
theorem exL_match (n : Int) : isMatch exL n ↔ -1035593280 ≤ n ∧ n ≤ 4223371679 ∧ n % 1440 = 0 ∧ ∃ y, IsDay ((n + 1035593280) / 1440) y 2 29 := by
  constructor
  · rintro ⟨h1, h2, y, m, d, hd, h3, h4, h5⟩
    simp only [exL, dayOk, bit1, bit4, bit29, Bool.false_and, Bool.and_true, if_true, if_false, Bool.and_eq_true, decide_eq_true_eq, Bool.false_eq_true] at h3 h4 h5
    have := hd.m1
    have := hd.d1
    obtain rfl : m = 2 := by omega
    obtain rfl : d = 29 := by omega
    exact ⟨h1, h2, by omega, y, hd⟩
  · rintro ⟨h1, h2, h0, y, hd⟩
    refine ⟨h1, h2, y, 2, 29, hd, ?_, ?_, ?_⟩
    · simp [exL, dayOk, bit4, bit29]
    · simp only [exL, bit1, decide_eq_true_eq]; omega
    · simp only [exL, bit1, decide_eq_true_eq]; omega
theorem exN_match (n : Int) : ¬ isMatch exN n := by
  rintro ⟨h1, h2, y, m, d, hd, h3, h4, h5⟩
  simp only [exN, dayOk, bit1, bit4, bit30, Bool.false_and, Bool.and_true, if_true, if_false, Bool.and_eq_true, decide_eq_true_eq, Bool.false_eq_true] at h3
  have := hd.m1
  have := hd.d1
  obtain rfl : m = 2 := by omega
  obtain rfl : d = 30 := by omega
  have h := hd.dd
  have := lq_01 y
  simp only [dm] at h
  omega
theorem leap_day {D y : Int} (h : IsDay D y 2 29) : lp y = true ∧ D = ah y + 59 ∧ 1 ≤ y := by
  have h1 := h.dd
  have h2 := h.at_
  have h3 := h.y1
  have c : cum y 2 = 31 := by simp [cum]
  have e : dm y 2 = 28 + lq y := by simp [dm]
  refine ⟨?_, by omega, h3⟩
  cases hl : lp y with
  | true => rfl
  | false => rw [e, lq_false hl] at h1; omega
theorem leap_is {y : Int} (h1 : 1 ≤ y) (hl : lp y = true) : IsDay (ah y + 59) y 2 29 :=
  ⟨h1, by omega, by omega, by omega, by simp [dm, lq_true hl], by simp [cum]; omega⟩
/-- The chapter's example: from 2096-03-01 on the next one is 2104-02-29: 2100 is no leap year. -/
theorem known_next : NextIs exL 66356640 70561440 0 := by
  refine .inr (.inl ⟨by omega, by omega, rfl, by omega, by omega, ?_, fun n h1 h2 hm => ?_⟩)
  · rw [exL_match]
    exact ⟨by omega, by omega, by omega, 2104, ⟨by decide, by decide, by decide, by decide, by decide, by decide⟩⟩
  · obtain ⟨k1, k2, k3, y, hd⟩ := (exL_match n).1 hm
    obtain ⟨a, b, c⟩ := leap_day hd
    rw [lp_iff] at a
    have h3 : ah 2096 = 765183 := by decide
    have h4 : ah 2104 = 768104 := by decide
    have y1 : 2096 ≤ y := by
      by_cases g : 2096 ≤ y
      · exact g
      · have := ah_strict (a := y) (b := 2096) c (by omega); omega
    have y2 : y ≤ 2104 := by
      by_cases g : y ≤ 2104
      · exact g
      · have := ah_strict (a := 2104) (b := y) (by omega) (by omega); omega
    by_cases g : y = 2096
    · subst g; omega
    · by_cases g2 : y = 2104
      · subst g2; omega
      · omega
theorem ah_far (y : Int) (h : 1 ≤ y) : ∀ k : Nat, ah (y + k) ≤ ah y + 366 * k
  | 0 => by simp
  | k + 1 => by
    have := ah_far y h k
    have h2 := ah_succ (y + k) (by omega)
    have := lq_01 (y + k)
    rw [show y + ((k + 1 : Nat) : Int) = y + k + 1 by omega, h2]
    omega
/-- One of the next eight years is a leap year; the eighth only behind one. -/
theorem leap_soon (y : Int) : ∃ k : Nat, 1 ≤ k ∧ k ≤ 8 ∧ lp (y + k) = true ∧ (k = 8 → lp y = true) := by
  simp only [lp_iff]
  by_cases q : y % 4 = 0
  · by_cases q2 : (y + 4) % 100 ≠ 0 ∨ (y + 4) % 400 = 0
    · exact ⟨4, by omega, by omega, by omega, by omega⟩
    · exact ⟨8, by omega, by omega, by omega, by omega⟩
  · have hr : y % 4 = 1 ∨ y % 4 = 2 ∨ y % 4 = 3 := by omega
    rcases hr with hr | hr | hr
    · by_cases q2 : (y + 3) % 100 ≠ 0 ∨ (y + 3) % 400 = 0
      · exact ⟨3, by omega, by omega, by omega, by omega⟩
      · exact ⟨7, by omega, by omega, by omega, by omega⟩
    · by_cases q2 : (y + 2) % 100 ≠ 0 ∨ (y + 2) % 400 = 0
      · exact ⟨2, by omega, by omega, by omega, by omega⟩
      · exact ⟨6, by omega, by omega, by omega, by omega⟩
    · by_cases q2 : (y + 1) % 100 ≠ 0 ∨ (y + 1) % 400 = 0
      · exact ⟨1, by omega, by omega, by omega, by omega⟩
      · exact ⟨5, by omega, by omega, by omega, by omega⟩
/-- Each minute has a leap day within eight years ahead, but at the calendar's end. -/
theorem leap_near (n y m d : Int) (h1 : -1035593280 ≤ n) (hd : IsDay ((n + 1035593280) / 1440) y m d) (hy : y ≤ 9991) :
    ∃ p, n < p ∧ p ≤ n + 4216320 ∧ isMatch exL p := by
  have iy := hd.in_year
  have y1 := hd.y1
  obtain ⟨D, hD⟩ : ∃ D, (n + 1035593280) / 1440 = D := ⟨_, rfl⟩
  rw [hD] at iy
  clear hd
  have put : ∀ L, 1 ≤ L → L ≤ 9999 → lp L = true → D < ah L + 59 → ah L + 59 ≤ D + 2928 → ∃ p, n < p ∧ p ≤ n + 4216320 ∧ isMatch exL p := by
    intro L k1 k2 k3 k4 k5
    have b0 := (ah_bd L k1 (by omega)).1
    have b9 := ah_mono (a := L + 1) (b := 10000) (by omega) (by omega)
    rw [ah_10000, ah_succ L k1] at b9
    have b8 := (lq_01 L).1
    refine ⟨-1035593280 + (ah L + 59) * 1440, by omega, by omega, (exL_match _).2 ⟨by omega, by omega, by omega, L, ?_⟩⟩
    rw [show (-1035593280 + (ah L + 59) * 1440 + 1035593280) / 1440 = ah L + 59 by omega]
    exact leap_is k1 k3
  by_cases g : lp y = true ∧ D < ah y + 59
  · exact put y y1 (by omega) g.1 g.2 (by omega)
  · obtain ⟨k, k1, k2, k3, k4⟩ := leap_soon y
    have a0 := ah_far y y1 k
    have a2 := ah_mono (a := y + 1) (b := y + k) (by omega) (by omega)
    refine put (y + k) (by omega) (by omega) k3 (by omega) ?_
    by_cases e : k = 8
    · have := k4 e
      have : ah y + 59 ≤ D := by
        by_cases c : D < ah y + 59
        · exact absurd ⟨this, c⟩ g
        · omega
      omega
    · omega
theorem exA_match (n : Int) (h1 : -1035593280 ≤ n) (h2 : n ≤ 4223371679) : isMatch exA n := by
  obtain ⟨y, m, d, hd⟩ := day_ex ((n + 1035593280) / 1440) (by omega)
  have a1 := hd.m1
  have a2 := hd.m12
  have a3 := hd.d1
  have a4 := hd.dd
  have a5 := (dm_bd y m).2
  refine ⟨h1, h2, y, m, d, hd, ?_, ?_, ?_⟩
  · simp only [exA, dayOk, Bool.and_self, if_true, Bool.and_true]
    rw [span_test 1 12 _ (by omega)]
    simp; omega
  · simp only [exA]
    rw [span_test 0 23 _ (by omega)]
    simp; omega
  · simp only [exA]
    rw [span_test 0 59 _ (by omega)]
    simp; omega
/-- The next minute, the last minute, where all is a star. -/
theorem exA_next (n : Int) (h1 : -1035593280 ≤ n) (h2 : n < 4223371679) : NextIs exA n (n + 1) 0 :=
  .inr (.inl ⟨h1, by omega, rfl, by omega, by omega, exA_match _ (by omega) (by omega), fun m k1 k2 => by omega⟩)
theorem exA_prev (n a : Int) (h1 : -1035593280 ≤ n) (h2 : n ≤ 4223371679) (ha : a < n) : PrevIs exA n a n 0 :=
  .inr (.inl ⟨h1, h2, ha, rfl, ha, by omega, by omega, exA_match _ h1 h2, fun m k1 k2 => by omega⟩)
end Go.Proofs.YtdpaiaeaamokeaaDoor.Cron

namespace Go.Proofs.YtdpaiaeaamokeaaDoor.Cron
open Go.RowKit Go Go.Proofs.YtdpaiaeaamokeaaDoor.Cal

def exD (d wk : Nat) (sd sw : Bool) : Ex := ⟨spanN 0 59, spanN 0 23, if sd then spanN 1 31 else 2 ^ d, spanN 1 12, if sw then spanN 0 6 else 2 ^ wk, sd, sw⟩
def dayTxt (d : Nat) (sd : Bool) : List UInt8 := if sd then [42] else [UInt8.ofNat (48 + d / 10), UInt8.ofNat (48 + d % 10)]
def wkTxt (wk : Nat) (sw : Bool) : List UInt8 := if sw then [42] else [UInt8.ofNat (48 + wk)]
def daysTxt (d wk : Nat) (sd sw : Bool) : List UInt8 := [42, 32, 42, 32] ++ dayTxt d sd ++ [32, 42, 32] ++ wkTxt wk sw
theorem days_pex : ∀ d, d < 32 → 1 ≤ d → ∀ wk, wk < 7 → ∀ sd sw : Bool, pex (daysTxt d wk sd sw) = some (exD d wk sd sw) := by decide +kernel
theorem exD_match (d wk : Nat) (sd sw : Bool) (n D y m dd : Int) (h1 : -1035593280 ≤ n) (h2 : n ≤ 4223371679) (hD : (n + 1035593280) / 1440 = D) (hd : IsDay D y m dd) :
    mt (exD d wk sd sw) n = (if sd && sw then true else if sd then decide ((D + 1) % 7 = wk) else if sw then decide (dd = d) else (decide (dd = d) || decide ((D + 1) % 7 = wk))) := by
  have a1 := hd.m1
  have a2 := hd.m12
  have a3 := hd.d1
  have a4 := hd.dd
  have a5 := (dm_bd y m).2
  have hd' := hd
  rw [← hD] at hd'
  rw [mt_at _ n y m dd h1 h2 hd', hD]
  simp only [exD, dayOk]
  rw [span_test 0 23 _ (by omega), span_test 0 59 _ (by omega), span_test 1 12 _ (by omega)]
  have e1 : decide (0 ≤ ((n + 1035593280) % 1440 / 60).toNat ∧ ((n + 1035593280) % 1440 / 60).toNat ≤ 23) = true := by simp; omega
  have e2 : decide (0 ≤ ((n + 1035593280) % 60).toNat ∧ ((n + 1035593280) % 60).toNat ≤ 59) = true := by simp; omega
  have e3 : decide (1 ≤ m.toNat ∧ m.toNat ≤ 12) = true := by simp; omega
  rw [e1, e2, e3]
  have f1 : (2 ^ d).testBit dd.toNat = decide (dd = d) := by
    rw [Nat.testBit_two_pow]
    by_cases c : dd = d
    · simp [c]
    · have : ¬ d = dd.toNat := by omega
      simp [c, this]
  have f2 : (2 ^ wk).testBit ((D + 1) % 7).toNat = decide ((D + 1) % 7 = wk) := by
    rw [Nat.testBit_two_pow]
    by_cases c : (D + 1) % 7 = wk
    · simp [c]
    · have : ¬ wk = ((D + 1) % 7).toNat := by omega
      simp [c, this]
  cases sd <;> cases sw <;> simp [f1, f2]
end Go.Proofs.YtdpaiaeaamokeaaDoor.Cron

namespace Go.Proofs.YtdpaiaeaamokeaaDoor.Cron
open Go.RowKit Go Go.Proofs.YtdpaiaeaamokeaaDoor.Cal

/-- What the statements' start gives: the tables that the library reads. -/
structure Laid (w : World) : Prop where
  tabs : Tabs w
  max : MaxOk w
  db : TabAt 2 Lib.deBruijn64tab w
theorem Laid.below {w w' : World} (h : Laid w) (hb : Below w.heap.size w w') : Laid w' := ⟨h.tabs.below hb, h.max.below hb, h.db.below hb⟩

theorem pres_ok (s : ByteArray) : ExOk (pres s).1 := by
  have key : ∀ e, ExFit e → ExOk e := by
    intro e h
    have big : ∀ b lo hi, InBd b lo hi → hi < 64 → b < 18446744073709551616 := by
      intro b lo hi hb hh
      apply Nat.lt_of_not_le
      intro hc
      obtain ⟨i, hi1, hi2⟩ := Nat.exists_ge_and_testBit_of_ge_two_pow (n := 64) (x := b) hc
      have := hb i hi2
      omega
    exact ⟨big _ _ _ h.mi.1 (by omega), big _ _ _ h.ho.1 (by omega), big _ _ _ h.da.1 (by omega), big _ _ _ h.mo.1 (by omega), big _ _ _ h.wk.1 (by omega)⟩
  unfold pres
  split
  · exact ⟨by decide, by decide, by decide, by decide, by decide⟩
  · split
    · exact ⟨by decide, by decide, by decide, by decide, by decide⟩
    · exact key _ (pex_fit _ _ ‹_›)

theorem within6 (a n : Int) (w : World) (h1 : 0 < n) (h2 : n ≤ 4611686018427387904) :
    Calls Tryd.prog 21 #[.int .i64 a, .int .i64 n] w fun e w' => e = .returned (.int .i64 (a % n)) ∧ w = w' := by
  obtain ⟨t1, t2, t3, t4⟩ := tmod_within a n h1
  have hz : (n == 0) = false := by simp; omega
  by_cases c : a.tmod n < 0
  · have H := Lib.hid (t1 c)
    clear t1 t2
    go_enter Tryd.func21, Tryd.ntmps21
    go_wp2
    go_ret
    exact ⟨ret_int H.out, rfl⟩
  · have H := Lib.hid (t2 c)
    clear t1 t2
    go_enter Tryd.func21, Tryd.ntmps21
    go_wp2
    go_ret
    exact ⟨ret_int H.out, rfl⟩
theorem minute6 (n m : Int) (w : World) (hm : n % 5250000000 - 1035500000 = m) :
    Calls Tryd.prog 22 #[.int .i64 n] w fun e w' => e = .returned (.int .i64 m) ∧ w = w' := by
  obtain ⟨k, hk⟩ : ∃ k, n % 5250000000 = k := ⟨_, rfl⟩
  have hkb : 0 ≤ k ∧ k < 5250000000 := by omega
  rw [hk] at hm
  have HK := Lib.hid hk
  clear hk
  go_enter Tryd.func22, Tryd.ntmps22
  go_wp2_with fail
  go_at_call 21
  refine (within6 n 5250000000 _ (by omega) (by omega)).mono ?_
  rintro x w1 ⟨rfl, rfl⟩
  rw [HK.out]
  go_wp2
  go_ret
  exact ⟨rfl, rfl⟩
theorem minute_lit (y m d h mi wd v : Int) (w : World) (hv : okd y m d h mi) (e : -1035593280 + (ah y + d - 1 + cum y m) * 1440 + 60 * h + mi = v) :
    Calls Tryd.prog 54 #[.agg #[.int .i64 y, .int .i64 m, .int .i64 d, .int .i64 h, .int .i64 mi, .int .i64 wd]] w fun x w' =>
      x = .returned (.tuple #[.int .i64 v, .int .i64 0]) ∧ Below w.heap.size w w' := by subst e; exact minute_in y m d h mi wd w hv

theorem known_pres : pres ⟨#[48, 32, 48, 32, 50, 57, 32, 50, 32, 42]⟩ = (exL, 0) := by decide +kernel
theorem known_text : ((bytesOf (textL exL)).toList == [48, 32, 48, 32, 50, 57, 32, 50, 32, 42]) = true := by
  rw [Lib.toList_data]
  show ((textL exL) == _) = true
  decide +kernel

set_option maxHeartbeats 1000000 in
set_option maxRecDepth 100000 in
theorem known6 (w : World) (hL : Laid w) : Calls Tryd.prog 15 #[] w fun e w' => e = .returned (.bool true) ∧ Below w.heap.size w w' := by
  go_enter Tryd.func15, Tryd.ntmps15
  go_wp2_with fail
  go_at_call 16
  refine (parse_any _ _ hL.tabs hL.max (by decide)).mono ?_
  rintro x w1 ⟨hx, hb1⟩
  unfold ParPost at hx
  rw [known_pres] at hx
  have hOk : ExOk exL := by have := pres_ok ⟨#[48, 32, 48, 32, 50, 57, 32, 50, 32, 42]⟩; rw [known_pres] at this; exact this
  have ht := known_text
  have hN := known_next
  dsimp only at hx
  generalize exL = e at hx hOk ht hN
  obtain ⟨mi, ho, da, mo, wk, ad, aw⟩ := e
  unfold exV at hx
  subst hx
  have HOk : Hid (ExOk ⟨mi, ho, da, mo, wk, ad, aw⟩) := hOk
  have HN : Hid (NextIs ⟨mi, ho, da, mo, wk, ad, aw⟩ 66356640 70561440 0) := hN
  clear hOk hN
  have hbel := hb1
  clear hb1
  go_wp2_with fail
  go_at_call 54
  refine (minute_lit 2096 3 1 0 0 0 66356640 _ ⟨by decide, by decide, by decide, by decide, by decide, by decide, by decide, by decide⟩ (by decide)).mono ?_
  rintro x w2 ⟨rfl, hb2⟩
  have hB2 := keepN hb2
  have hz2 := size1 hb2
  have hbel2 := bthen (bmore hbel _) hb2
  clear hb2 hbel
  go_wp2_with fail
  go_at_call 54
  refine (minute_lit 2104 2 29 0 0 0 70561440 _ ⟨by decide, by decide, by decide, by decide, by decide, by decide, by decide, by decide⟩ (by decide)).mono ?_
  rintro x w3 ⟨rfl, hb3⟩
  have hB3 := fun o => (keep0 hb3 hz2 o).trans (hB2 o)
  have hz3 := Nat.lt_of_lt_of_le hz2 hb3.size
  have hbel3 := bthen hbel2 hb3
  clear hb3 hbel2 hB2 hz2
  go_wp2_with fail
  go_at_call 25
  refine (next_any ⟨mi, ho, da, mo, wk, ad, aw⟩ 66356640 _ HOk.out (hL.below hbel3).db).mono ?_
  rintro x w4 ⟨⟨r, c, rfl, hn⟩, hb4⟩
  obtain ⟨rfl, rfl⟩ := hn.uniq HN.out
  have hB4 := fun o => (keep0 hb4 hz3 o).trans (hB3 o)
  have hbel4 := bthen hbel3 hb4
  clear hb4 hbel3 hB3 hz3 hn
  go_wp2_with fail
  go_at_call 19
  refine (text_any ⟨mi, ho, da, mo, wk, ad, aw⟩ _ HOk.out).mono ?_
  rintro x w5 ⟨rfl, hb5⟩
  have hbel5 := bthen hbel4 hb5
  clear hb5 hbel4 hB4
  go_wp2
  go_ret
  exact ⟨rfl, hbel5⟩
end Go.Proofs.YtdpaiaeaamokeaaDoor.Cron

namespace Go.Proofs.YtdpaiaeaamokeaaDoor.Cron
open Go.RowKit Go Go.Proofs.YtdpaiaeaamokeaaDoor.Cal

/-- What comes behind a, again and again. -/
def Chain (e : Ex) : Int → List Int → Prop
  | _, [] => True
  | a, x :: xs => NextIs e a x 0 ∧ Chain e x xs
theorem chain_snoc (e : Ex) : ∀ (xs : List Int) (a y : Int), Chain e a xs → NextIs e (xs.getLastD a) y 0 → Chain e a (xs ++ [y])
  | [], a, y, _, h => ⟨h, trivial⟩
  | x :: xs, a, y, ⟨h1, h2⟩, h => ⟨h1, chain_snoc e xs x y h2 (by rw [List.getLastD_cons] at h; exact h)⟩
theorem next_pos {e : Ex} {a x : Int} (h : NextIs e a x 0) : a < x ∧ x ≤ a + 4216320 ∧ isMatch e x ∧ (∀ m, a < m → m < x → ¬ isMatch e m) ∧ -1035593280 ≤ x ∧ x ≤ 4223371679 := by
  rcases h with ⟨-, -, k⟩ | ⟨-, -, -, k4, k5, k6, k7⟩ | ⟨-, -, k, -⟩
  · omega
  · exact ⟨k4, k5, k6, k7, k6.1, k6.2.1⟩
  · omega
/-- The place k of a chain, and what stands ahead of it. -/
def before (a : Int) (xs : List Int) (k : Nat) : Int := if k = 0 then a else xs.getD (k - 1) 0
theorem chain_at (e : Ex) : ∀ (xs : List Int) (a : Int) (k : Nat), Chain e a xs → k < xs.length → NextIs e (before a xs k) (xs.getD k 0) 0
  | [], _, _, _, h => by simp at h
  | x :: xs, a, 0, ⟨h1, _⟩, _ => h1
  | x :: xs, a, k + 1, ⟨_, h2⟩, h => by
    have := chain_at e xs x k h2 (by simpa using h)
    unfold before at this ⊢
    cases k with
    | zero => simpa using this
    | succ k => simpa using this
theorem chain_gt (e : Ex) : ∀ (xs : List Int) (a : Int) (k : Nat), Chain e a xs → k < xs.length → a < xs.getD k 0
  | [], _, _, _, h => by simp at h
  | x :: xs, a, 0, ⟨h1, _⟩, _ => (next_pos h1).1
  | x :: xs, a, k + 1, ⟨h1, h2⟩, h => by
    have := chain_gt e xs x k h2 (by simpa using h)
    have := (next_pos h1).1
    simp at *
    omega
/-- From a minute between a chain's place and the next one back, the last one is that place. -/
theorem chain_prev (e : Ex) (xs : List Int) (a now : Int) (k : Nat) (h : Chain e a xs) (hk : k < xs.length) (hn : now = xs.getD k 0 ∨ (k + 1 < xs.length ∧ now = xs.getD (k + 1) 0 - 1)) : PrevIs e now a (xs.getD k 0) 0 := by
  have g := next_pos (chain_at e xs a k h hk)
  have gt := chain_gt e xs a k h hk
  rcases hn with rfl | ⟨hk2, rfl⟩
  · exact .inr (.inl ⟨g.2.2.2.2.1, g.2.2.2.2.2, gt, rfl, gt, by omega, by omega, g.2.2.1, fun m h1 h2 => by omega⟩)
  · have g2 := next_pos (chain_at e xs a (k + 1) h hk2)
    have e1 : before a xs (k + 1) = xs.getD k 0 := by simp [before]
    rw [e1] at g2
    exact .inr (.inl ⟨by omega, by omega, by omega, rfl, gt, by omega, by omega, g.2.2.1, fun m h1 h2 => g2.2.2.2.1 m h1 (by omega)⟩)
theorem own_below {w w' : World} {B : Nat} {e : TypeId} {z : Nat} {v : Value} {n : Nat} {xs : List Value} (h : w.ownsRow B e z v n xs) (hb : Below w.heap.size w w') : w'.ownsRow B e z v n xs :=
  h.kept (row := none) ⟨hb.os, hb.tape, hb.output, hb.size, fun k hk _ => hb.block k hk⟩ (by cases v.ownBlock <;> simp)
theorem last_at (xs : List Int) (m : Int) (k : Nat) (h : xs.length = k + 1) : xs.getLastD m = xs.getD k 0 := by
  rw [List.getLastD_eq_getLast?, List.getLast?_eq_getElem?, h, List.getD_eq_getElem?_getD, Nat.add_sub_cancel, List.getElem?_eq_getElem (by omega)]; rfl
theorem cneI {a b : Int} (h : a ≠ b) : (a == b) = false ∧ (a != b) = true := by simp [h]
theorem cneC {c : Int} (h : c ≠ 0) : (c == 0) = false ∧ (c != 0) = true := by simp [h]
theorem Tryd.infoInt : (Tryd.prog.info? 3).map (fun i => (i.zero, i.size, i.bytes)) = some (some (.int .i64 0), 1, 8) := by kernel_rfl
theorem within6y (a n : Int) (w : World) (h1 : 0 < n) (h2 : n ≤ 4611686018427387904) :
    Calls Tryd.prog 21 #[.int .i64 a, .int .i64 n] w fun e w' => (∃ q, e = .returned (.int .i64 q) ∧ 0 ≤ q ∧ q < n) ∧ w = w' :=
  (within6 a n w h1 h2).mono fun _ _ ⟨he, hw⟩ => ⟨⟨_, he, Int.emod_nonneg _ (by omega), Int.emod_lt_of_pos _ h1⟩, hw⟩

end Go.Proofs.YtdpaiaeaamokeaaDoor.Cron

namespace Go.Proofs.YtdpaiaeaamokeaaDoor.Cron
open Go.RowKit Go Go.Proofs.YtdpaiaeaamokeaaDoor.Cal

theorem fold_snoc (l : List UInt8) (c : UInt8) : fold (l ++ [c]) = fstep (fold l) c := by rw [fold_append]; rfl
theorem fold_bl (l : List UInt8) (c : UInt8) (h : isBlank c = true) : fold (l ++ [c]) = ((fold l).1, false) := by rw [fold_snoc, fstep, if_pos h]
/-- Blanks around change nothing. -/
theorem pex_pad (l m : List UInt8) (h : (fold l).1 = (fold m).1) : pex (32 :: (l ++ [9])) = pex m := by
  have e : flds (32 :: (l ++ [9])) = flds m := by
    unfold flds
    rw [← h]
    have h2 : fold (32 :: (l ++ [9])) = fold (l ++ [9]) := by
      unfold fold
      rw [List.foldl_cons]
      congr 1
    rw [h2, fold_bl l 9 (by decide)]
  unfold pex
  rw [e]
theorem pres_pad (s T : ByteArray) (h : (fold T.data.toList).1 = (fold s.data.toList).1) (hs : s.size ≤ 100) (hT : T.size ≤ 98) : pres ((⟨#[32]⟩ : ByteArray) ++ T ++ ⟨#[9]⟩) = pres s := by
  have hz : ((⟨#[32]⟩ : ByteArray) ++ T ++ ⟨#[9]⟩).size ≤ 100 := by
    rw [ByteArray.size_append, ByteArray.size_append]
    show 1 + T.size + 1 ≤ 100
    omega
  have hd : ((⟨#[32]⟩ : ByteArray) ++ T ++ ⟨#[9]⟩).data.toList = 32 :: (T.data.toList ++ [9]) := by simp
  unfold pres
  rw [if_neg (by omega), if_neg (by omega), hd, pex_pad _ _ h]
theorem conv1b (w : World) (x : Int) (b cap : Nat) (h0 : w.cell? ⟨b, 0, none⟩ = some (.int .u8 x)) :
    (convert 50 9 (.slice (some ⟨b, 0, none⟩) 1 cap)).run Tryd.prog w = .ok (.string ⟨#[UInt8.ofNat x.toNat]⟩) w := by
  rw [run_convert_bytes_string w _ _ _ _ _ _ Tryd.underlying50 Tryd.underlying5 Tryd.underlying9]
  rw [run_bytesToString w ⟨b, 0, none⟩ 1 cap [x] (run_loadCells_list w _ [.int .u8 x] (fun j v hj => by
    match j, hj with
    | 0, hj => cases hj; exact h0
    | _ + 1, hj => simp at hj))]
  rfl
theorem cneB {c : Int} : (c == c) = true := by simp
theorem extract_one (s : ByteArray) (i : Nat) (h : i < s.size) : (s.extract i (i + 1)).data.toList = [s[i]] := by
  have := extract_take s i 1 (by omega)
  rw [take_snoc s i h] at this
  exact (List.append_cancel_left this).symm

theorem app_one (T : ByteArray) (x : UInt8) : (T ++ ⟨#[x]⟩).data.toList = T.data.toList ++ [x] := by simp
theorem app_list (T E : ByteArray) : (T ++ E).data.toList = T.data.toList ++ E.data.toList := by simp
end Go.Proofs.YtdpaiaeaamokeaaDoor.Cron

namespace Go.Proofs.YtdpaiaeaamokeaaDoor
open Go.ChangeShapes Go.WideShapes Go.ChangeAt Go.RowKit Go

/-- The cells of a slice of integers that came in. -/
def SlOk (w : World) (ao : Option Addr) (xs : List Int) : Prop :=
  ∀ i, i < xs.length → ∃ b o : Nat, ao = some ⟨b, o, none⟩ ∧ b < w.heap.size ∧ w.cell? ⟨b, o + i, none⟩ = some (.int .i64 (xs.getD i 0)) ∧ -9223372036854775808 ≤ xs.getD i 0 ∧ xs.getD i 0 ≤ 9223372036854775807
theorem cellsOf_int : Tryd.prog.cellsOf 3 = 1 := by kernel_rfl
set_option maxRecDepth 100000 in
theorem open_is {H : Type} {enc : TypeId × Value → H} {w : World} {r : Reach} {b0 base : Nat} {spare : Nat → Bool} {held : Bool} {v : Value} {d : DataW H} {p : List MemPlace}
    (hv : Value.okWide Tryd.prog w r b0 22 v) (h : DataW.Trod enc Tryd.prog w base spare held 22 v d p) :
    ∃ (ao : Option Addr) (cap : Nat) (xs : List Int), v = .slice ao xs.length cap ∧ SlOk w ao xs ∧ xs.length ≤ 9223372036854775807 := by
  obtain ⟨fuel, hf⟩ := h
  obtain ⟨a', len', cap', rfl⟩ := okWide_slice Tryd.underlying22 hv
  rcases open_ints Tryd.underlying22 Tryd.underlying3 cellsOf_int hf with ⟨hc, -⟩ | ⟨a, len, cap, zs, hc, -, hl, hm, hzl, -, hcell, hwf⟩
  · simp [Value.cells] at hc
    obtain ⟨rfl, rfl, rfl⟩ := hc
    exact ⟨none, 0, [], rfl, fun i hi => by simp at hi, by simp⟩
  · simp [Value.cells] at hc
    obtain ⟨rfl, rfl, rfl⟩ := hc
    have hle : len' ≤ zs.length := by rw [hzl]; split <;> omega
    have hxl : (zs.take len').length = len' := by rw [List.length_take]; omega
    refine ⟨some a, cap', zs.take len', by rw [hxl], fun i hi => ?_, by rw [hxl]; unfold maxLen at hm; omega⟩
    rw [hxl] at hi
    have hc := hcell i (by omega)
    obtain ⟨b, o, sp⟩ := a
    have hg : (zs.take len').getD i 0 = zs.getD i 0 := by
      rw [List.getD_eq_getElem?_getD, List.getD_eq_getElem?_getD, List.getElem?_take_of_lt hi]
    rw [hg]
    have h0 := hcell 0 (by omega)
    have hsp : sp = none := cell_spot (show w.cell? ⟨b, o, sp⟩ = some (.int .i64 (zs.getD 0 0)) by simpa [Addr.add] using h0)
    subst hsp
    have ha : (⟨b, o, none⟩ : Addr).add i = ⟨b, o + i, none⟩ := by unfold Addr.add; split <;> simp_all
    rw [ha] at hc
    have hb : b < w.heap.size := by
      by_cases c : b < w.heap.size
      · exact c
      · simp [World.cell?, Array.getElem?_eq_none (Nat.le_of_not_lt c)] at hc
    have hw := hwf (zs.getD i 0) (by rw [List.getD_eq_getElem?_getD, List.getElem?_eq_getElem (by omega)]; exact List.getElem_mem _)
    exact ⟨b, o, rfl, hb, hc, (bounds_i64 hw).1, (bounds_i64 hw).2⟩
end Go.Proofs.YtdpaiaeaamokeaaDoor

