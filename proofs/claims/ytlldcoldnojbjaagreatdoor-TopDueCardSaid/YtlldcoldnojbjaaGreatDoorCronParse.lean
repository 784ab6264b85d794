/- The contract of cron.Parse. -/
import Derived.Test.YtlldcoldnojbjaaGreatDoorCronFields
import Derived.Test.YtlldcoldnojbjaaGreatDoorCronField
import Derived.Test.YtlldcoldnojbjaaGreatDoorCronMatch
import Derived.Test.YtlldcoldnojbjaaGreatDoorCronAscii
import Derived.Deep.RegionHeld3
import Derived.Deep.DeepCutAuto
namespace Go.Proofs.YtlldcoldnojbjaaGreatDoor.Cron
open Go.RowKit Go

theorem par_keep {g : Nat} {v0 v1 v2 v3 v4 : Value} {W w' : World} (c0 : W.cell? ⟨g, 0, none⟩ = some v0) (c1 : W.cell? ⟨g, 1, none⟩ = some v1) (c2 : W.cell? ⟨g, 2, none⟩ = some v2) (c3 : W.cell? ⟨g, 3, none⟩ = some v3) (c4 : W.cell? ⟨g, 4, none⟩ = some v4)
    (hg : g < W.heap.size) (h : Below W.heap.size W w') :
    w'.cell? ⟨g, 0, none⟩ = some v0 ∧ w'.cell? ⟨g, 1, none⟩ = some v1 ∧ w'.cell? ⟨g, 2, none⟩ = some v2 ∧ w'.cell? ⟨g, 3, none⟩ = some v3 ∧ w'.cell? ⟨g, 4, none⟩ = some v4 ∧ Below W.heap.size W w' :=
  ⟨(keep0 h hg _).trans c0, (keep0 h hg _).trans c1, (keep0 h hg _).trans c2, (keep0 h hg _).trans c3, (keep0 h hg _).trans c4, h⟩

theorem below_realloc {W w3 : World} {o o' : Obj} (h : Below W.heap.size W (w3.alloc o)) (hs : W.heap.size ≤ w3.heap.size) : Below W.heap.size W (w3.alloc o') :=
  ⟨h.os, h.tape, h.output, by simp; omega, fun k hk => by
    have h1 := h.block k hk
    rw [Below.heap_alloc _ _ _ (by omega)] at h1 ⊢
    exact h1⟩

theorem par_set7 {g q : Nat} {v0 v1 v2 v3 v4 u0 u1 u2 u3 u4 u5 u6 : Value} {W w3 : World} (c0 : W.cell? ⟨g, 0, none⟩ = some v0) (c1 : W.cell? ⟨g, 1, none⟩ = some v1) (c2 : W.cell? ⟨g, 2, none⟩ = some v2) (c3 : W.cell? ⟨g, 3, none⟩ = some v3) (c4 : W.cell? ⟨g, 4, none⟩ = some v4) (hg : g < W.heap.size) (h : Below W.heap.size W w3) (hq : W.heap.size ≤ q) :
    World.cell? ((World.setCell (World.setCell (World.setCell (World.setCell (World.setCell (World.setCell (World.setCell w3 ⟨q, 0, none⟩ u0) ⟨q, 1, none⟩ u1) ⟨q, 2, none⟩ u2) ⟨q, 3, none⟩ u3) ⟨q, 4, none⟩ u4) ⟨q, 5, none⟩ u5) ⟨q, 6, none⟩ u6)) ⟨g, 0, none⟩ = some v0 ∧ World.cell? ((World.setCell (World.setCell (World.setCell (World.setCell (World.setCell (World.setCell (World.setCell w3 ⟨q, 0, none⟩ u0) ⟨q, 1, none⟩ u1) ⟨q, 2, none⟩ u2) ⟨q, 3, none⟩ u3) ⟨q, 4, none⟩ u4) ⟨q, 5, none⟩ u5) ⟨q, 6, none⟩ u6)) ⟨g, 1, none⟩ = some v1 ∧ World.cell? ((World.setCell (World.setCell (World.setCell (World.setCell (World.setCell (World.setCell (World.setCell w3 ⟨q, 0, none⟩ u0) ⟨q, 1, none⟩ u1) ⟨q, 2, none⟩ u2) ⟨q, 3, none⟩ u3) ⟨q, 4, none⟩ u4) ⟨q, 5, none⟩ u5) ⟨q, 6, none⟩ u6)) ⟨g, 2, none⟩ = some v2 ∧ World.cell? ((World.setCell (World.setCell (World.setCell (World.setCell (World.setCell (World.setCell (World.setCell w3 ⟨q, 0, none⟩ u0) ⟨q, 1, none⟩ u1) ⟨q, 2, none⟩ u2) ⟨q, 3, none⟩ u3) ⟨q, 4, none⟩ u4) ⟨q, 5, none⟩ u5) ⟨q, 6, none⟩ u6)) ⟨g, 3, none⟩ = some v3 ∧ World.cell? ((World.setCell (World.setCell (World.setCell (World.setCell (World.setCell (World.setCell (World.setCell w3 ⟨q, 0, none⟩ u0) ⟨q, 1, none⟩ u1) ⟨q, 2, none⟩ u2) ⟨q, 3, none⟩ u3) ⟨q, 4, none⟩ u4) ⟨q, 5, none⟩ u5) ⟨q, 6, none⟩ u6)) ⟨g, 4, none⟩ = some v4 ∧ Below W.heap.size W ((World.setCell (World.setCell (World.setCell (World.setCell (World.setCell (World.setCell (World.setCell w3 ⟨q, 0, none⟩ u0) ⟨q, 1, none⟩ u1) ⟨q, 2, none⟩ u2) ⟨q, 3, none⟩ u3) ⟨q, 4, none⟩ u4) ⟨q, 5, none⟩ u5) ⟨q, 6, none⟩ u6)) :=
  par_keep c0 c1 c2 c3 c4 hg (bset (bset (bset (bset (bset (bset (bset h (a := ⟨q, 0, none⟩) hq u0) (a := ⟨q, 1, none⟩) hq u1) (a := ⟨q, 2, none⟩) hq u2) (a := ⟨q, 3, none⟩) hq u3) (a := ⟨q, 4, none⟩) hq u4) (a := ⟨q, 5, none⟩) hq u5) (a := ⟨q, 6, none⟩) hq u6)
theorem par_alloc {g : Nat} {v0 v1 v2 v3 v4 : Value} {W w3 : World} {o : Obj} (c0 : W.cell? ⟨g, 0, none⟩ = some v0) (c1 : W.cell? ⟨g, 1, none⟩ = some v1) (c2 : W.cell? ⟨g, 2, none⟩ = some v2) (c3 : W.cell? ⟨g, 3, none⟩ = some v3) (c4 : W.cell? ⟨g, 4, none⟩ = some v4) (hg : g < W.heap.size) (h : Below W.heap.size W w3) :
    World.cell? (w3.alloc o) ⟨g, 0, none⟩ = some v0 ∧ World.cell? (w3.alloc o) ⟨g, 1, none⟩ = some v1 ∧ World.cell? (w3.alloc o) ⟨g, 2, none⟩ = some v2 ∧ World.cell? (w3.alloc o) ⟨g, 3, none⟩ = some v3 ∧ World.cell? (w3.alloc o) ⟨g, 4, none⟩ = some v4 ∧ Below W.heap.size W (w3.alloc o) :=
  par_keep c0 c1 c2 c3 c4 hg (bmore h o)
theorem par_realloc {g : Nat} {v0 v1 v2 v3 v4 : Value} {W w3 : World} {o o' : Obj} (c0 : W.cell? ⟨g, 0, none⟩ = some v0) (c1 : W.cell? ⟨g, 1, none⟩ = some v1) (c2 : W.cell? ⟨g, 2, none⟩ = some v2) (c3 : W.cell? ⟨g, 3, none⟩ = some v3) (c4 : W.cell? ⟨g, 4, none⟩ = some v4) (hg : g < W.heap.size) (h : Below W.heap.size W (w3.alloc o)) (hs : W.heap.size ≤ w3.heap.size) :
    World.cell? (w3.alloc o') ⟨g, 0, none⟩ = some v0 ∧ World.cell? (w3.alloc o') ⟨g, 1, none⟩ = some v1 ∧ World.cell? (w3.alloc o') ⟨g, 2, none⟩ = some v2 ∧ World.cell? (w3.alloc o') ⟨g, 3, none⟩ = some v3 ∧ World.cell? (w3.alloc o') ⟨g, 4, none⟩ = some v4 ∧ Below W.heap.size W (w3.alloc o') :=
  par_keep c0 c1 c2 c3 c4 hg (below_realloc h hs)

theorem par_allocD {g : Nat} {v0 v1 v2 v3 v4 : Value} {W w3 : World} {o : Obj} (c0 : W.cell? ⟨g, 0, none⟩ = some v0) (c1 : W.cell? ⟨g, 1, none⟩ = some v1) (c2 : W.cell? ⟨g, 2, none⟩ = some v2) (c3 : W.cell? ⟨g, 3, none⟩ = some v3) (c4 : W.cell? ⟨g, 4, none⟩ = some v4) (hg : g < W.heap.size) (h : Below W.heap.size W w3) :
    World.cell? ((w3.alloc o).drew) ⟨g, 0, none⟩ = some v0 ∧ World.cell? ((w3.alloc o).drew) ⟨g, 1, none⟩ = some v1 ∧ World.cell? ((w3.alloc o).drew) ⟨g, 2, none⟩ = some v2 ∧ World.cell? ((w3.alloc o).drew) ⟨g, 3, none⟩ = some v3 ∧ World.cell? ((w3.alloc o).drew) ⟨g, 4, none⟩ = some v4 ∧ Below W.heap.size W ((w3.alloc o).drew) :=
  par_keep c0 c1 c2 c3 c4 hg (bmore h o).drew
theorem keepND {W w1 : World} {c : Array Value} {t : TypeId} (hb : Below (W.alloc (.cells c t)).drew.heap.size (W.alloc (.cells c t)).drew w1) :
    (∀ o, w1.cell? ⟨W.heap.size, o, none⟩ = c[o]?) ∧ (∀ o, w1.frozen? ⟨W.heap.size, o, none⟩ = false) ∧ W.heap.size < w1.heap.size :=
  have hb' : Below (W.alloc (.cells c t)).heap.size (W.alloc (.cells c t)) w1 := ⟨hb.os, hb.tape, hb.output, hb.size, hb.block⟩
  ⟨keepN hb', keepF hb', size1 hb'⟩

theorem set7_cells {w3 : World} {q : Nat} {z0 z1 z2 z3 z4 z5 z6 u0 u1 u2 u3 u4 u5 u6 : Value} (hN : ∀ o, w3.cell? ⟨q, o, none⟩ = (#[z0, z1, z2, z3, z4, z5, z6] : Array Value)[o]?) :
    ∀ w4, w4 = (World.setCell (World.setCell (World.setCell (World.setCell (World.setCell (World.setCell (World.setCell w3 ⟨q, 0, none⟩ u0) ⟨q, 1, none⟩ u1) ⟨q, 2, none⟩ u2) ⟨q, 3, none⟩ u3) ⟨q, 4, none⟩ u4) ⟨q, 5, none⟩ u5) ⟨q, 6, none⟩ u6) →
    w4.cell? ⟨q, 0, none⟩ = some u0 ∧ w4.cell? ⟨q, 1, none⟩ = some u1 ∧ w4.cell? ⟨q, 2, none⟩ = some u2 ∧ w4.cell? ⟨q, 3, none⟩ = some u3 ∧ w4.cell? ⟨q, 4, none⟩ = some u4 ∧ w4.cell? ⟨q, 5, none⟩ = some u5 ∧ w4.cell? ⟨q, 6, none⟩ = some u6 := by
  rintro w4 rfl
  have hss := isSome_setCell
  have hcs := cell_same
  have hne : ∀ (W : World) (i j : Nat) (v : Value), i ≠ j → (W.setCell ⟨q, i, none⟩ v).cell? ⟨q, j, none⟩ = W.cell? ⟨q, j, none⟩ := fun W i j v h => by
    apply World.cell?_setCell_other
    simp [h]
  refine ⟨?_, ?_, ?_, ?_, ?_, ?_, ?_⟩
  all_goals
    repeat rw [hne _ _ _ _ (by decide)]
    rw [hcs]
    simp only [hss, hN]
    rfl

theorem field_int (s : ByteArray) (lo hi : Int) (w : World) (hm : MaxOk w) (hs : s.size < 4294967281) (h0 : 0 ≤ lo) (hl : lo ≤ hi) (hh : hi ≤ 62) :
    Calls Tryz.prog 17 #[.string s, .int .i64 lo, .int .i64 hi] w fun e w' => e = .returned (.int .u64 (pfield s.data.toList lo.toNat hi.toNat : Nat)) ∧ Below w.heap.size w w' := by
  obtain ⟨a, rfl⟩ : ∃ a : Nat, lo = a := ⟨lo.toNat, by omega⟩
  obtain ⟨b, rfl⟩ : ∃ b : Nat, hi = b := ⟨hi.toNat, by omega⟩
  simpa using field_any s a b w hm hs (by omega) (by omega)

/-- No expression; what Parse says of a text. -/
def zeroEx : Ex := ⟨0, 0, 0, 0, 0, false, false⟩
def pres (s : ByteArray) : Ex × Int := if 100 < s.size then (zeroEx, 5) else match pex s.data.toList with
  | none => (zeroEx, 25)
  | some e => (e, 0)
def ParPost (s : ByteArray) (e : Ending) : Prop := e = .returned (.tuple #[exV (pres s).1, .int .i64 (pres s).2])
theorem pres_none (s : ByteArray) (h : s.size ≤ 100) (hp : pex s.data.toList = none) : pres s = (zeroEx, 25) := by
  rw [pres, if_neg (by omega), hp]
theorem pres_some (s : ByteArray) (e : Ex) (h : s.size ≤ 100) (hp : pex s.data.toList = some e) : pres s = (e, 0) := by
  rw [pres, if_neg (by omega), hp]
theorem pex_five {l a b c d e : List UInt8} (h : flds l = [a, b, c, d, e]) :
    pex l = if pfield a 0 59 = 0 ∨ pfield b 0 23 = 0 ∨ pfield c 1 31 = 0 ∨ pfield d 1 12 = 0 ∨ pfield e 0 6 = 0 then none
      else some ⟨pfield a 0 59, pfield b 0 23, pfield c 1 31, pfield d 1 12, pfield e 0 6, decide (c = [42]), decide (e = [42])⟩ := by
  unfold pex; rw [h]
theorem pex_not5 {l : List UInt8} (h : (flds l).length ≠ 5) : pex l = none := by
  unfold pex
  split
  · rename_i e; rw [e] at h; simp at h
  · rfl
theorem zset7 {W w3 : World} {z0 z1 z2 z3 z4 z5 z6 : Value} (h : Below W.heap.size W w3) :
    Below W.heap.size W (World.setCell (World.setCell (World.setCell (World.setCell (World.setCell (World.setCell (World.setCell w3 ⟨W.heap.size, 0, none⟩ z0) ⟨W.heap.size, 1, none⟩ z1) ⟨W.heap.size, 2, none⟩ z2) ⟨W.heap.size, 3, none⟩ z3) ⟨W.heap.size, 4, none⟩ z4) ⟨W.heap.size, 5, none⟩ z5) ⟨W.heap.size, 6, none⟩ z6) :=
  bset (bset (bset (bset (bset (bset (bset h (Nat.le_refl _) _) (Nat.le_refl _) _) (Nat.le_refl _) _) (Nat.le_refl _) _) (Nat.le_refl _) _) (Nat.le_refl _) _) (Nat.le_refl _) _

theorem beq_dec (a b : List UInt8) : (a == b) = decide (a = b) := by rw [Bool.eq_iff_iff]; simp
theorem par_ret (b : Nat) (tmps : Array Value) (wf : World) (u0 u1 u2 u3 u4 u5 u6 : Value) (n : Int) {post : Ending → World → Prop} (h2 : tmps[2]?.getD undef = .pointer (some ⟨b, 0, none⟩)) (h3 : tmps[3]?.getD undef = .int .i64 n)
    (S7 : wf.cell? ⟨b, 0, none⟩ = some u0 ∧ wf.cell? ⟨b, 1, none⟩ = some u1 ∧ wf.cell? ⟨b, 2, none⟩ = some u2 ∧ wf.cell? ⟨b, 3, none⟩ = some u3 ∧ wf.cell? ⟨b, 4, none⟩ = some u4 ∧ wf.cell? ⟨b, 5, none⟩ = some u5 ∧ wf.cell? ⟨b, 6, none⟩ = some u6)
    (hp : post (.returned (.tuple #[.agg #[u0, u1, u2, u3, u4, u5, u6], .int .i64 n])) wf) : bodyPost Tryz.prog Tryz.f5 post .ret ⟨tmps, []⟩ wf := by
  obtain ⟨s0, s1, s2, s3, s4, s5, s6⟩ := S7
  exact bodyPost_ret (v := .tuple #[.agg #[u0, u1, u2, u3, u4, u5, u6], .int .i64 n]) (by simp [results, Tryz.results5, go_sem, h2, h3, s0, s1, s2, s3, s4, s5, s6]) rfl hp

set_option maxHeartbeats 1600000 in
set_option maxRecDepth 100000 in
theorem parse_short (s : ByteArray) (w : World) (hT : Tabs w) (hm : MaxOk w) (hs : s.size ≤ 100) :
    Calls Tryz.prog 5 #[.string s] w fun e w' => ParPost s e ∧ Below w.heap.size w w' := by
  go_enter Tryz.func5, Tryz.ntmps5
  go_wp2_with fail
  go_at_call 15
  refine (tov s _ (by omega) (hT.below ((Below.refl _ _).alloc (Nat.le_refl _) _))).mono ?_
  rintro e w1 ⟨⟨t, rfl, ht⟩, hb1⟩
  have hB1 := keepN hb1
  have hF1 := keepF hb1
  have hz1 := size1 hb1
  have hbel1 : Below w.heap.size w w1 := ((Below.refl _ _).alloc (Nat.le_refl _) _).trans (hb1.mono (by simp))
  clear hb1
  have hdec : t.toList = s.toList → t = s := fun h => by
    rw [Lib.toList_data, Lib.toList_data] at h
    exact ByteArray.ext (Array.toList_inj.1 h)
  by_cases hts : t = s
  case neg =>
    have hq : (t.toList == s.toList) = false := by simp; exact fun h => hts (hdec h)
    have hq2 : (t.toList != s.toList) = true := by simp [bne, hq]
    have HP : Hid (pres s = (zeroEx, 25)) := by
      show _ = _
      rcases ht with ⟨h, -⟩ | ⟨-, h⟩
      · exact absurd h hts
      · exact pres_none s hs (pex_high h)
    clear ht hdec hts
    go_wp2
    have S7 := set7_cells hB1 (u0 := .int .u64 0) (u1 := .int .u64 0) (u2 := .int .u64 0) (u3 := .int .u64 0) (u4 := .int .u64 0) (u5 := .bool false) (u6 := .bool false) _ rfl
    exact par_ret w.heap.size _ _ _ _ _ _ _ _ _ _ rfl rfl S7 ⟨by show _ = _; rw [HP.out]; rfl, zset7 hbel1⟩
  have hqe : (t.toList == s.toList) = true := by simp [hts]
  have hq2 : (t.toList != s.toList) = false := by simp [hts]
  have hv : Val s 0 := by
    rcases ht with ⟨-, h⟩ | ⟨h, -⟩
    · exact h
    · rw [hts] at h; omega
  clear ht hdec hts
  go_wp2_with fail
  go_at_call 16
  refine (fields_any s _ (by omega) hv).mono ?_
  rintro e w2 ⟨⟨v, bs, rfl, hown, hfl, hbl, hbz⟩, hb2⟩
  have hbel := bthen hbel1 hb2
  have hB2 := fun o => (keep0 hb2 hz1 o).trans (hB1 o)
  have hF2 := fun o => (keepF0 hb2 hz1 o).trans (hF1 o)
  have hz2 := Nat.lt_of_lt_of_le hz1 hb2.size
  clear hb2 hbel1 hB1 hF1 hz1
  have HB := Lib.hid hB2
  have HFr := Lib.hid hF2
  clear hB2 hF2
  by_cases h5 : bs.length = 5
  case neg =>
    have h5i : ((bs.length : Int) != 5) = true := by simp; omega
    have HP : Hid (pres s = (zeroEx, 25)) := by
      show _ = _
      exact pres_none s hs (pex_not5 (by rw [← hfl]; simpa using h5))
    have hBx := HB.out
    have hFx := HFr.out
    have hvl : v = .slice none 0 0 ∧ bs.length = 0 ∨ ∃ g cap, v = .slice (some ⟨g, 0, none⟩) bs.length cap := by
      rcases hown.2 with h | ⟨g, cap, cur, h, -⟩
      · exact .inl h
      · exact .inr ⟨g, cap, h⟩
    clear hown hfl hbl hbz h5
    rcases hvl with ⟨rfl, hz⟩ | ⟨g, cap, rfl⟩
    · clear h5i hz
      go_wp2
      have S7 := set7_cells hBx (u0 := .int .u64 0) (u1 := .int .u64 0) (u2 := .int .u64 0) (u3 := .int .u64 0) (u4 := .int .u64 0) (u5 := .bool false) (u6 := .bool false) _ rfl
      exact par_ret w.heap.size _ _ _ _ _ _ _ _ _ _ rfl rfl S7 ⟨by show _ = _; rw [HP.out]; rfl, zset7 hbel⟩
    · generalize bs.length = n at *
      go_wp2
      have S7 := set7_cells hBx (u0 := .int .u64 0) (u1 := .int .u64 0) (u2 := .int .u64 0) (u3 := .int .u64 0) (u4 := .int .u64 0) (u5 := .bool false) (u6 := .bool false) _ rfl
      exact par_ret w.heap.size _ _ _ _ _ _ _ _ _ _ rfl rfl S7 ⟨by show _ = _; rw [HP.out]; rfl, zset7 hbel⟩
  match bs, h5, hown, hfl, hbl, hbz with
  | [b0, b1, b2, b3, b4], _, hown, hfl, hbl, hbz =>
    obtain ⟨g, cap, rfl, hgB, hgl⟩ := hown.form (by simp)
    have z0 : b0.size ≤ s.size := hbz b0 (by simp)
    have z1 : b1.size ≤ s.size := hbz b1 (by simp)
    have z2 : b2.size ≤ s.size := hbz b2 (by simp)
    have z3 : b3.size ≤ s.size := hbz b3 (by simp)
    have z4 : b4.size ≤ s.size := hbz b4 (by simp)
    have c0 : w2.cell? ⟨g, 0, none⟩ = some (.string b0) := hown.cellAt 0 (by simp)
    have c1 : w2.cell? ⟨g, 1, none⟩ = some (.string b1) := hown.cellAt 1 (by simp)
    have c2 : w2.cell? ⟨g, 2, none⟩ = some (.string b2) := hown.cellAt 2 (by simp)
    have c3 : w2.cell? ⟨g, 3, none⟩ = some (.string b3) := hown.cellAt 3 (by simp)
    have c4 : w2.cell? ⟨g, 4, none⟩ = some (.string b4) := hown.cellAt 4 (by simp)
    have hbs : Below w2.heap.size w2 w2 := Below.refl _ _
    have HF := Lib.hid hfl
    have hm2 := hm.below hbel
    have HBL := Lib.hid hbel
    clear hown hfl hbl hbz hv hT hm hbel
    simp only [List.length_cons, List.length_nil]
    go_upto_region 8 with fail
    go_cut [5] (fun s5 wx => ∃ q : Nat, s5 = .pointer (some ⟨q, 0, none⟩) ∧ w2.heap.size ≤ q ∧ Below w2.heap.size w2 wx ∧ wx.cell? ⟨q, 0, none⟩ = some (.int .u64 (pfield b0.data.toList 0 59 : Nat)) ∧ wx.cell? ⟨q, 1, none⟩ = some (.int .u64 (pfield b1.data.toList 0 23 : Nat)) ∧ wx.cell? ⟨q, 2, none⟩ = some (.int .u64 (pfield b2.data.toList 1 31 : Nat)) ∧ wx.cell? ⟨q, 3, none⟩ = some (.int .u64 (pfield b3.data.toList 1 12 : Nat)) ∧ wx.cell? ⟨q, 4, none⟩ = some (.int .u64 (pfield b4.data.toList 0 6 : Nat)) ∧ wx.cell? ⟨q, 5, none⟩ = some (.bool (b2.toList == [42])) ∧ wx.cell? ⟨q, 6, none⟩ = some (.bool (b4.toList == [42])))
    case first =>
      go_region_held3 (fun w' => w'.cell? ⟨g, 0, none⟩ = some (.string b0) ∧ w'.cell? ⟨g, 1, none⟩ = some (.string b1) ∧ w'.cell? ⟨g, 2, none⟩ = some (.string b2) ∧ w'.cell? ⟨g, 3, none⟩ = some (.string b3) ∧ w'.cell? ⟨g, 4, none⟩ = some (.string b4) ∧ Below w2.heap.size w2 w')
        (first
          | (with_reducible refine par_set7 c0 c1 c2 c3 c4 hgl ?_ ?_
             · first | assumption | (go_split_ands; assumption)
             · first | exact Nat.le_refl _ | (refine Hid.out ?_; assumption))
          | (with_reducible refine par_alloc c0 c1 c2 c3 c4 hgl ?_
             first | assumption | exact hbs.drew | (go_split_ands; assumption))
          | (with_reducible refine par_allocD c0 c1 c2 c3 c4 hgl ?_
             first | assumption | (go_split_ands; assumption))
          | (with_reducible refine par_realloc c0 c1 c2 c3 c4 hgl (o := ?_) ?_ ?_
             rotate_left
             · first | assumption | (go_split_ands; assumption)
             · refine Hid.out ?_; assumption)
          | with_reducible exact par_keep c0 c1 c2 c3 c4 hgl hbs.drew
          | (with_reducible refine par_keep c0 c1 c2 c3 c4 hgl (bthen ?_ hb)
             first | assumption | exact hbs.drew | (go_split_ands; assumption))
          | go_keep)
        (first
          | (go_at_call 17; refine (field_int _ _ _ _ (hm2.below (by first | assumption | exact hbs.drew | (go_split_ands; assumption))) (by omega) (by omega) (by omega) (by omega)).mono ?_; rintro e w3 ⟨rfl, hb⟩
             have hs3 : Hid (w2.heap.size ≤ w3.heap.size) := (bthen (by first | assumption | exact hbs.drew | (go_split_ands; assumption)) hb).size
             first
               | (have hN := keepN hb; have hNF := keepF hb; have hNz := size1 hb)
               | (have hND := keepND hb; have hN := hND.1; have hNF := hND.2.1; have hNz := hND.2.2; clear hND)
               | (have hN2 := fun o => (keep0 hb hNz o).trans (hN o)
                  have hNF2 := fun o => (keepF0 hb hNz o).trans (hNF o)
                  have hNz2 := Nat.lt_of_lt_of_le hNz hb.size
                  clear hN hNF hNz
                  have hN := hN2
                  have hNF := hNF2
                  have hNz := hNz2
                  clear hN2 hNF2 hNz2)
               | skip
             have hsS := isSome_setCell
             have hsC := cell_same))
      all_goals (
        go_wp2_with fail
        go_meet
        first
          | exact ⟨_, rfl, (by first | exact Nat.le_refl _ | (refine Hid.out ?_; assumption)), (by first | with_reducible assumption | (go_split_ands; with_reducible assumption)), set7_cells hN _ rfl⟩
          | exact ⟨_, rfl, (by first | exact Nat.le_refl _ | (refine Hid.out ?_; assumption)), (by first | with_reducible assumption | (go_split_ands; with_reducible assumption)), alloc_new _ _ _ 0, alloc_new _ _ _ 1, alloc_new _ _ _ 2, alloc_new _ _ _ 3, alloc_new _ _ _ 4, alloc_new _ _ _ 5, alloc_new _ _ _ 6⟩
          | trace_state)
    case rest =>
      obtain ⟨q, rfl, hq, hbx, d0, d1, d2, d3, d4, d5, d6⟩ := hcut
      have hBx := fun o => (keep0 hbx hz2 o).trans (HB.out o)
      have hFx := fun o => (keepF0 hbx hz2 o).trans (HFr.out o)
      have hbelx := bthen HBL.out hbx
      obtain ⟨p0, e0⟩ : ∃ p0, pfield b0.data.toList 0 59 = p0 := ⟨_, rfl⟩
      obtain ⟨p1, e1⟩ : ∃ p1, pfield b1.data.toList 0 23 = p1 := ⟨_, rfl⟩
      obtain ⟨p2, e2⟩ : ∃ p2, pfield b2.data.toList 1 31 = p2 := ⟨_, rfl⟩
      obtain ⟨p3, e3⟩ : ∃ p3, pfield b3.data.toList 1 12 = p3 := ⟨_, rfl⟩
      obtain ⟨p4, e4⟩ : ∃ p4, pfield b4.data.toList 0 6 = p4 := ⟨_, rfl⟩
      rw [e0] at d0
      rw [e1] at d1
      rw [e2] at d2
      rw [e3] at d3
      rw [e4] at d4
      have E0 := Lib.hid e0
      have E1 := Lib.hid e1
      have E2 := Lib.hid e2
      have E3 := Lib.hid e3
      have E4 := Lib.hid e4
      clear e0 e1 e2 e3 e4 c0 c1 c2 c3 c4 hbs hbx HBL
      have hsS := isSome_setCell
      have hsC := cell_same
      have hsT := setCell_twice
      have HX : Hid (pex s.data.toList = if p0 = 0 ∨ p1 = 0 ∨ p2 = 0 ∨ p3 = 0 ∨ p4 = 0 then none else some ⟨p0, p1, p2, p3, p4, decide (b2.data.toList = [42]), decide (b4.data.toList = [42])⟩) := by
        show _ = _
        have := pex_five (l := s.data.toList) (HF.out.symm)
        rw [this, E0.out, E1.out, E2.out, E3.out, E4.out]
      by_cases k0 : p0 = 0
      · have t0 : ((p0 : Int) == 0) = true := by simp; exact k0
        have HP : Hid (pres s = (zeroEx, 25)) := by show _ = _; exact pres_none s hs (by rw [HX.out, if_pos (by omega)])
        clear k0
        go_wp2
        have S7 := set7_cells hBx (u0 := .int .u64 0) (u1 := .int .u64 0) (u2 := .int .u64 0) (u3 := .int .u64 0) (u4 := .int .u64 0) (u5 := .bool false) (u6 := .bool false) _ rfl
        exact par_ret w.heap.size _ _ _ _ _ _ _ _ _ _ rfl rfl S7 ⟨by show _ = _; rw [HP.out]; rfl, zset7 hbelx⟩
      have t0 : ((p0 : Int) == 0) = false := by simp; exact k0
      by_cases k1 : p1 = 0
      · have t1 : ((p1 : Int) == 0) = true := by simp; exact k1
        have HP : Hid (pres s = (zeroEx, 25)) := by show _ = _; exact pres_none s hs (by rw [HX.out, if_pos (by omega)])
        clear k1
        go_wp2
        have S7 := set7_cells hBx (u0 := .int .u64 0) (u1 := .int .u64 0) (u2 := .int .u64 0) (u3 := .int .u64 0) (u4 := .int .u64 0) (u5 := .bool false) (u6 := .bool false) _ rfl
        exact par_ret w.heap.size _ _ _ _ _ _ _ _ _ _ rfl rfl S7 ⟨by show _ = _; rw [HP.out]; rfl, zset7 hbelx⟩
      have t1 : ((p1 : Int) == 0) = false := by simp; exact k1
      by_cases k2 : p2 = 0
      · have t2 : ((p2 : Int) == 0) = true := by simp; exact k2
        have HP : Hid (pres s = (zeroEx, 25)) := by show _ = _; exact pres_none s hs (by rw [HX.out, if_pos (by omega)])
        clear k2
        go_wp2
        have S7 := set7_cells hBx (u0 := .int .u64 0) (u1 := .int .u64 0) (u2 := .int .u64 0) (u3 := .int .u64 0) (u4 := .int .u64 0) (u5 := .bool false) (u6 := .bool false) _ rfl
        exact par_ret w.heap.size _ _ _ _ _ _ _ _ _ _ rfl rfl S7 ⟨by show _ = _; rw [HP.out]; rfl, zset7 hbelx⟩
      have t2 : ((p2 : Int) == 0) = false := by simp; exact k2
      by_cases k3 : p3 = 0
      · have t3 : ((p3 : Int) == 0) = true := by simp; exact k3
        have HP : Hid (pres s = (zeroEx, 25)) := by show _ = _; exact pres_none s hs (by rw [HX.out, if_pos (by omega)])
        clear k3
        go_wp2
        have S7 := set7_cells hBx (u0 := .int .u64 0) (u1 := .int .u64 0) (u2 := .int .u64 0) (u3 := .int .u64 0) (u4 := .int .u64 0) (u5 := .bool false) (u6 := .bool false) _ rfl
        exact par_ret w.heap.size _ _ _ _ _ _ _ _ _ _ rfl rfl S7 ⟨by show _ = _; rw [HP.out]; rfl, zset7 hbelx⟩
      have t3 : ((p3 : Int) == 0) = false := by simp; exact k3
      by_cases k4 : p4 = 0
      · have t4 : ((p4 : Int) == 0) = true := by simp; exact k4
        have HP : Hid (pres s = (zeroEx, 25)) := by show _ = _; exact pres_none s hs (by rw [HX.out, if_pos (by omega)])
        clear k4
        go_wp2
        have S7 := set7_cells hBx (u0 := .int .u64 0) (u1 := .int .u64 0) (u2 := .int .u64 0) (u3 := .int .u64 0) (u4 := .int .u64 0) (u5 := .bool false) (u6 := .bool false) _ rfl
        exact par_ret w.heap.size _ _ _ _ _ _ _ _ _ _ rfl rfl S7 ⟨by show _ = _; rw [HP.out]; rfl, zset7 hbelx⟩
      have t4 : ((p4 : Int) == 0) = false := by simp; exact k4
      have HP : Hid (pres s = (⟨p0, p1, p2, p3, p4, decide (b2.data.toList = [42]), decide (b4.data.toList = [42])⟩, 0)) := by show _ = _; exact pres_some s _ hs (by rw [HX.out, if_neg (by omega)])
      clear k0 k1 k2 k3 k4
      go_wp2
      have S7 := set7_cells hBx (u0 := .int .u64 p0) (u1 := .int .u64 p1) (u2 := .int .u64 p2) (u3 := .int .u64 p3) (u4 := .int .u64 p4) (u5 := .bool (b2.toList == [42])) (u6 := .bool (b4.toList == [42])) _ rfl
      exact par_ret w.heap.size _ _ _ _ _ _ _ _ _ _ rfl rfl S7 ⟨by show _ = _; rw [HP.out]; simp only [exV, Lib.toList_data, beq_dec], zset7 hbelx⟩

set_option maxRecDepth 100000 in
theorem parse_any (s : ByteArray) (w : World) (hT : Tabs w) (hm : MaxOk w) (hs : s.size ≤ 9223372036854775807) :
    Calls Tryz.prog 5 #[.string s] w fun e w' => ParPost s e ∧ Below w.heap.size w w' := by
  by_cases h : s.size ≤ 100
  · exact parse_short s w hT hm h
  · have HP : Hid (pres s = (zeroEx, 5)) := by show _ = _; rw [pres, if_pos (by omega)]
    have h1 : (100 : Int) < (s.size : Int) := by omega
    go_enter Tryz.func5, Tryz.ntmps5
    go_wp2
    exact par_ret w.heap.size _ _ _ _ _ _ _ _ _ _ rfl rfl ⟨alloc_new _ _ _ 0, alloc_new _ _ _ 1, alloc_new _ _ _ 2, alloc_new _ _ _ 3, alloc_new _ _ _ 4, alloc_new _ _ _ 5, alloc_new _ _ _ 6⟩ ⟨by show _ = _; rw [HP.out]; rfl, (Below.refl _ _).alloc (Nat.le_refl _) _⟩
end Go.Proofs.YtlldcoldnojbjaaGreatDoor.Cron
