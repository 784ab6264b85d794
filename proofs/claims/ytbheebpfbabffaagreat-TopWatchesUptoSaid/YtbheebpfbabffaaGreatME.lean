/- Joined: a part of the proof of TopWatches. -/
import Derived.Test.YtbheebpfbabffaaGreatMach13
import Derived.Test.YtbheebpfbabffaaGreatMach14
set_option linter.unusedSimpArgs false
set_option linter.unusedVariables false
namespace Go.Proofs.YtbheebpfbabffaaGreat.Mach
open Go.RowKit Go

set_option maxRecDepth 100000 in
theorem equal_n (w : World) : Calls Tryz.prog 56 #[.slice none 0 0, .slice none 0 0] w fun e w' => e = .returned (.bool true) ∧ w = w' := by
  go_enter Tryz.func56, Tryz.ntmps56
  go_wp2
  refine wp_loop_rounds 1 ?_
  rw [rounds_succ]
  go_wp2
  go_ret
  exact ⟨rfl, rfl⟩
set_option maxRecDepth 100000 in
theorem same1_a (w : World) : Calls Tryz.prog 55 #[.agg #[.int .i64 0, .slice none 0 0], .agg #[.int .i64 0, .slice none 0 0]] w fun e w' => e = .returned (.bool true) ∧ Below w.heap.size w w' := by
  go_enter Tryz.func55, Tryz.ntmps55
  go_wp2_with fail
  go_at_call 56
  refine (equal_n _).mono ?_
  rintro e w' ⟨rfl, rfl⟩
  go_wp2
  go_ret
  exact ⟨rfl, bmore (bmore (Below.refl _ _) _) _⟩
set_option maxHeartbeats 2000000 in
set_option maxRecDepth 100000 in
theorem eqfunc_a (r1 c1 r2 c2 : Nat) (w : World) (h10 : w.cell? ⟨r1, 0, none⟩ = some (.int .i64 0)) (h11 : w.cell? ⟨r1, 1, none⟩ = some (.slice none 0 0)) (h20 : w.cell? ⟨r2, 0, none⟩ = some (.int .i64 0)) (h21 : w.cell? ⟨r2, 1, none⟩ = some (.slice none 0 0)) (hl : r2 < w.heap.size) :
    Calls Tryz.prog 54 #[.slice (some ⟨r1, 0, none⟩) 1 c1, .slice (some ⟨r2, 0, none⟩) 1 c2, .func (.func 55) #[] #[]] w fun e w' => e = .returned (.bool true) ∧ Below w.heap.size w w' := by
  go_enter Tryz.func54, Tryz.ntmps54
  go_wp2
  refine wp_loop_rounds 2 ?_
  rw [rounds_succ]
  go_wp2_with fail
  go_at_call 55
  refine (same1_a _).mono ?_
  rintro e w2 ⟨rfl, hb⟩
  have hbel := bthen (bmore (bmore (Below.refl _ _) _) _) hb
  clear hb h10 h11 h20 h21
  go_wp2
  rw [rounds_succ]
  go_wp2
  go_ret
  exact ⟨rfl, hbel⟩
set_option maxHeartbeats 2000000 in
set_option maxRecDepth 100000 in
theorem samereply_a (r1 c1 r2 c2 : Nat) (w : World) (h10 : w.cell? ⟨r1, 0, none⟩ = some (.int .i64 0)) (h11 : w.cell? ⟨r1, 1, none⟩ = some (.slice none 0 0)) (h20 : w.cell? ⟨r2, 0, none⟩ = some (.int .i64 0)) (h21 : w.cell? ⟨r2, 1, none⟩ = some (.slice none 0 0)) (hl1 : r1 < w.heap.size) (hl : r2 < w.heap.size) :
    Calls Tryz.prog 21 #[.agg #[.int .i64 0, .int .i64 1, .bool true, .slice (some ⟨r1, 0, none⟩) 1 c1, .int .i64 0], .agg #[.int .i64 0, .int .i64 1, .bool true, .slice (some ⟨r2, 0, none⟩) 1 c2, .int .i64 0]] w fun e w' => e = .returned (.bool true) ∧ Below w.heap.size w w' := by
  go_enter Tryz.func21, Tryz.ntmps21
  go_wp2_with fail
  go_at_call 54
  refine (eqfunc_a r1 c1 r2 c2 _ ?_ ?_ ?_ ?_ ?_).mono ?_
  · exact (alloc_old _ _ (by simp; omega) 0).trans ((alloc_old _ _ hl1 0).trans h10)
  · exact (alloc_old _ _ (by simp; omega) 1).trans ((alloc_old _ _ hl1 1).trans h11)
  · exact (alloc_old _ _ (by simp; omega) 0).trans ((alloc_old _ _ hl 0).trans h20)
  · exact (alloc_old _ _ (by simp; omega) 1).trans ((alloc_old _ _ hl 1).trans h21)
  · simp; omega
  rintro e w2 ⟨rfl, hb⟩
  have hbel := bthen (bmore (bmore (Below.refl _ _) _) _) hb
  clear hb h10 h11 h20 h21
  go_wp2
  go_ret
  exact ⟨rfl, hbel⟩
end Go.Proofs.YtbheebpfbabffaaGreat.Mach

namespace Go.Proofs.YtbheebpfbabffaaGreat.Mach
open Go.RowKit Go

theorem s1_only {C : Array Value} {x : Nat} {F : Nat → Prop} {W W' : World} (hS : (∀ o, W.cell? ⟨x, o, none⟩ = C[o]?) ∧ x < W.heap.size) (hO : Only F W W') (h1 : ¬ F x) : (∀ o, W'.cell? ⟨x, o, none⟩ = C[o]?) ∧ x < W'.heap.size :=
  ⟨fun o => (hO.cell hS.2 h1 o).trans (hS.1 o), Nat.lt_of_lt_of_le hS.2 hO.size⟩
theorem s1_keep {C : Array Value} {x : Nat} {W W' : World} (hS : (∀ o, W.cell? ⟨x, o, none⟩ = C[o]?) ∧ x < W.heap.size) (hb : Below W.heap.size W W') : (∀ o, W'.cell? ⟨x, o, none⟩ = C[o]?) ∧ x < W'.heap.size :=
  ⟨fun o => (keep0 hb hS.2 o).trans (hS.1 o), Nat.lt_of_lt_of_le hS.2 hb.size⟩
theorem Fresh.only {F : Nat → Prop} {w w' : World} {n : Nat} (h : Fresh w n) (hO : Only F w w') (hF : ∀ k, n ≤ k → k ≤ n + 7 → ¬ F k) : Fresh w' n :=
  ⟨h.m.only hO (hF _ (by omega) (by omega)), h.ix.only hO (hF _ (by omega) (by omega)), h.vs.only hO (hF _ (by omega) (by omega)), h.st.only hO (hF _ (by omega) (by omega)), h.lm.only hO (hF _ (by omega) (by omega)), h.bk.only hO (hF _ (by omega) (by omega)), h.fm.only hO (hF _ (by omega) (by omega)), h.tb.only hO (hF _ (by omega) (by omega))⟩
theorem cell_lt {w : World} {b o : Nat} {v : Value} (h : w.cell? ⟨b, o, none⟩ = some v) : b < w.heap.size := by
  rcases Nat.lt_or_ge b w.heap.size with hl | hl
  · exact hl
  · simp [World.cell?, Array.getElem?_eq_none hl] at h

set_option maxHeartbeats 8000000 in
set_option maxRecDepth 100000 in
theorem known_t (w : World) : Calls Tryz.prog 5 #[] w fun e w' => e = .returned (.bool true) ∧ Below w.heap.size w w' := by
  go_enter Tryz.func5, Tryz.ntmps5
  go_wp2_with fail
  go_at_call 6
  refine (mnew w).mono ?_
  rintro e w1 ⟨rfl, hF1, hb1⟩
  go_wp2_with fail
  go_at_call 6
  refine (mnew w1).mono ?_
  rintro e w2 ⟨rfl, hF2, hb2⟩
  have hA := hF1.keep hb2
  have hl1 := hF1.tb.lt
  have hl2 := hF2.tb.lt
  have hb := bthen hb1 hb2
  have hz := hb1.size
  clear hF1 hb1 hb2
  go_wp2_with fail
  have hA4 := hA.keep (bmore (bmore (Below.refl w2.heap.size w2) (.cells #[.int .i64 0, .string ⟨#[97]⟩, .string ⟨#[]⟩, .string ⟨#[120]⟩, .int .i64 0, .int .i64 0] 72)) (.cells #[.int .i64 0, .int .i64 0, .int .i64 0, .slice none 0 0, .slice (some ⟨w2.heap.size, 0, none⟩) 1 1, .slice none 0 0, .int .i64 0, .int .i64 0, .int .i64 0, .int .i64 0] 41))
  have hF4 := hF2.keep (bmore (bmore (Below.refl w2.heap.size w2) (.cells #[.int .i64 0, .string ⟨#[97]⟩, .string ⟨#[]⟩, .string ⟨#[120]⟩, .int .i64 0, .int .i64 0] 72)) (.cells #[.int .i64 0, .int .i64 0, .int .i64 0, .slice none 0 0, .slice (some ⟨w2.heap.size, 0, none⟩) 1 1, .slice none 0 0, .int .i64 0, .int .i64 0, .int .i64 0, .int .i64 0] 41))
  have kop : Blk ((w2.alloc (.cells #[.int .i64 0, .string ⟨#[97]⟩, .string ⟨#[]⟩, .string ⟨#[120]⟩, .int .i64 0, .int .i64 0] 72)).alloc (.cells #[.int .i64 0, .int .i64 0, .int .i64 0, .slice none 0 0, .slice (some ⟨w2.heap.size, 0, none⟩) 1 1, .slice none 0 0, .int .i64 0, .int .i64 0, .int .i64 0, .int .i64 0] 41)) w2.heap.size opC := (Blk.new w2 opC 72).alloc _
  have kcm : Blk ((w2.alloc (.cells #[.int .i64 0, .string ⟨#[97]⟩, .string ⟨#[]⟩, .string ⟨#[120]⟩, .int .i64 0, .int .i64 0] 72)).alloc (.cells #[.int .i64 0, .int .i64 0, .int .i64 0, .slice none 0 0, .slice (some ⟨w2.heap.size, 0, none⟩) 1 1, .slice none 0 0, .int .i64 0, .int .i64 0, .int .i64 0, .int .i64 0] 41)) (w2.heap.size + 1) #[.int .i64 0, .int .i64 0, .int .i64 0, .slice none 0 0, .slice (some ⟨w2.heap.size, 0, none⟩) 1 1, .slice none 0 0, .int .i64 0, .int .i64 0, .int .i64 0, .int .i64 0] := Blk.newAt (by simp)
  have hb4 := bmore (bmore hb (.cells #[.int .i64 0, .string ⟨#[97]⟩, .string ⟨#[]⟩, .string ⟨#[120]⟩, .int .i64 0, .int .i64 0] 72)) (.cells #[.int .i64 0, .int .i64 0, .int .i64 0, .slice none 0 0, .slice (some ⟨w2.heap.size, 0, none⟩) 1 1, .slice none 0 0, .int .i64 0, .int .i64 0, .int .i64 0, .int .i64 0] 41)
  generalize (w2.alloc (.cells #[.int .i64 0, .string ⟨#[97]⟩, .string ⟨#[]⟩, .string ⟨#[120]⟩, .int .i64 0, .int .i64 0] 72)).alloc (.cells #[.int .i64 0, .int .i64 0, .int .i64 0, .slice none 0 0, .slice (some ⟨w2.heap.size, 0, none⟩) 1 1, .slice none 0 0, .int .i64 0, .int .i64 0, .int .i64 0, .int .i64 0] 41) = w4 at *
  clear hA hF2 hb
  have hFd := hF4.drew
  have hAd := hA4.drew
  have hkd := kop.drew
  have hbd := hb4.drew
  have hap := fun n w => apply_a n w2.heap.size w
  unfold cmdC at hap
  have hS : (∀ o, w4.drew.cell? ⟨w2.heap.size + 1, o, none⟩ = (#[.int .i64 0, .int .i64 0, .int .i64 0, .slice none 0 0, .slice (some ⟨w2.heap.size, 0, none⟩) 1 1, .slice none 0 0, .int .i64 0, .int .i64 0, .int .i64 0, .int .i64 0] : Array Value)[o]?) ∧ w2.heap.size + 1 < w4.drew.heap.size := ⟨kcm.cell, kcm.lt⟩
  go_region_held3 (fun w' => (∀ o, w'.cell? ⟨w2.heap.size + 1, o, none⟩ = (#[.int .i64 0, .int .i64 0, .int .i64 0, .slice none 0 0, .slice (some ⟨w2.heap.size, 0, none⟩) 1 1, .slice none 0 0, .int .i64 0, .int .i64 0, .int .i64 0, .int .i64 0] : Array Value)[o]?) ∧ w2.heap.size + 1 < w'.heap.size)
    (first
      | with_reducible assumption
      | with_reducible exact hS
      | (refine s1_only ?_ hO5 (by omega); with_reducible exact hS)
      | (refine s1_only ?_ hO6 (by omega); with_reducible assumption)
      | (with_reducible refine s1_keep ?_ hb7; with_reducible assumption))
    (first
      | (go_at_call_of 14 (Value.pointer (some (Addr.mk w.heap.size 0 none))); refine (hap w.heap.size _ hAd hkd).mono ?_; rintro e w5 ⟨rb1, cap1, cl1, rfl, hrb1, hO5, hB5, hx10, hx11⟩; have hm5 := hAd.m.only hO5 (by omega); have hF5 := hFd.only hO5 (by intro k h1 h2; omega); have hk5 := hkd.only hO5 (by omega); have hl5 := cell_lt hx10)
      | (go_at_call_of 14 (Value.pointer (some (Addr.mk w1.heap.size 0 none))); refine (hap w1.heap.size _ hF5 hk5).mono ?_; rintro e w6 ⟨rb2, cap2, cl2, rfl, hrb2, hO6, hB6, hx20, hx21⟩; have hm6 := hm5.only hO6 (by omega); have hB5' := hB5.only hO6 (by omega); have hx10' := (hO6.cell hl5 (by have := hO5.size; have hq : w2.heap.size + 1 < w4.drew.heap.size := hS.2; omega) 0).trans hx10; have hx11' := (hO6.cell hl5 (by have := hO5.size; have hq : w2.heap.size + 1 < w4.drew.heap.size := hS.2; omega) 1).trans hx11; have hl6 := cell_lt hx10'; have hl6' := cell_lt hx20)
      | (go_at_call 21; refine (samereply_a rb1 cap1 rb2 cap2 _ hx10' hx11' hx20 hx21 hl6 hl6').mono ?_; rintro e w7 ⟨rfl, hb7⟩; have hm7 := hm6.keep hb7; have hB7 := (hB5'.keep hb7).cell 0)
      | (go_at_call 8; refine (mstore_m _ w.heap.size hm7).mono ?_; rintro e w8 ⟨rfl, rfl⟩)
      | (go_at_call 13; refine (rev_a _ _ _ hB7).mono ?_; rintro e w8 ⟨rfl, rfl⟩))
  all_goals (
    have hfin := ((hbd.trans (hO5.below w.heap.size hbd.size (fun k hk => by omega))).trans (hO6.below w.heap.size (by have := hbd.size; have := hO5.size; omega) (fun k hk => by omega))).trans (hb7.mono (by have := hbd.size; have := hO5.size; have := hO6.size; omega))
    clear hap hO5 hO6 hb7 hB5 hB5' hB6 hx10 hx11 hx20 hx21 hx10' hx11' hF5 hk5 hm5 hm6 hm7
    go_wp2
    go_ret
    exact ⟨rfl, hfin⟩)
end Go.Proofs.YtbheebpfbabffaaGreat.Mach

