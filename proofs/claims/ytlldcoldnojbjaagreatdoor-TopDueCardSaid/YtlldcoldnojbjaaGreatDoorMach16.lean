/- The chapter's example holds: horologetop.known answers true. -/
import Derived.Test.YtlldcoldnojbjaaGreatDoorMach14
import Derived.Test.YtlldcoldnojbjaaGreatDoorMach15
namespace Go.Proofs.YtlldcoldnojbjaaGreatDoor.Mach
open Go.RowKit Go

theorem s1_only {C : Array Value} {x : Nat} {F : Nat → Prop} {W W' : World} (hS : (∀ o, W.cell? ⟨x, o, none⟩ = C[o]?) ∧ x < W.heap.size) (hO : Only F W W') (h1 : ¬ F x) : (∀ o, W'.cell? ⟨x, o, none⟩ = C[o]?) ∧ x < W'.heap.size :=
  ⟨fun o => (hO.cell hS.2 h1 o).trans (hS.1 o), Nat.lt_of_lt_of_le hS.2 hO.size⟩
theorem s1_keep {C : Array Value} {x : Nat} {W W' : World} (hS : (∀ o, W.cell? ⟨x, o, none⟩ = C[o]?) ∧ x < W.heap.size) (hb : Below W.heap.size W W') : (∀ o, W'.cell? ⟨x, o, none⟩ = C[o]?) ∧ x < W'.heap.size :=
  ⟨fun o => (keep0 hb hS.2 o).trans (hS.1 o), Nat.lt_of_lt_of_le hS.2 hb.size⟩
theorem Fresh.only {F : Nat → Prop} {w w' : World} {n : Nat} (h : Fresh w n) (hO : Only F w w') (hF : ∀ k, n ≤ k → k ≤ n + 7 → ¬ F k) : Fresh w' n :=
  ⟨h.m.only hO (hF _ (by omega) (by omega)), h.ix.only hO (hF _ (by omega) (by omega)), h.vs.only hO (hF _ (by omega) (by omega)), h.st.only hO (hF _ (by omega) (by omega)), h.lm.only hO (hF _ (by omega) (by omega)), h.bk.only hO (hF _ (by omega) (by omega)), h.fm.only hO (hF _ (by omega) (by omega)), h.tb.only hO (hF _ (by omega) (by omega))⟩
theorem cell_lt {w : World} {b o : Nat} {v : Value} (h : w.cell? ⟨b, o, none⟩ = some v) : b < w.heap.size := by
  rcases Nat.lt_or_ge b w.heap.size with hl | hl
  · exact hl
  · simp [World.cell?, Array.getElem?_eq_none hl] at h

set_option maxHeartbeats 8000000 in
set_option maxRecDepth 100000 in
theorem known_t (w : World) : Calls Tryz.prog 4 #[] w fun e w' => e = .returned (.bool true) ∧ Below w.heap.size w w' := by
  go_enter Tryz.func4, Tryz.ntmps4
  go_wp2_with fail
  go_at_call 10
  refine (mnew w).mono ?_
  rintro e w1 ⟨rfl, hF1, hb1⟩
  go_wp2_with fail
  go_at_call 10
  refine (mnew w1).mono ?_
  rintro e w2 ⟨rfl, hF2, hb2⟩
  have hA := hF1.keep hb2
  have hl1 := hF1.tb.lt
  have hl2 := hF2.tb.lt
  have hb := bthen hb1 hb2
  have hz := hb1.size
  clear hF1 hb1 hb2
  go_wp2_with fail
  have hA4 := hA.keep (bmore (bmore (Below.refl w2.heap.size w2) (.cells #[.int .i64 0, .string ⟨#[97]⟩, .string ⟨#[]⟩, .string ⟨#[120]⟩, .int .i64 0, .int .i64 0] 41)) (.cells #[.int .i64 0, .int .i64 0, .int .i64 0, .slice none 0 0, .slice (some ⟨w2.heap.size, 0, none⟩) 1 1, .slice none 0 0, .int .i64 0, .int .i64 0, .int .i64 0, .int .i64 0] 47))
  have hF4 := hF2.keep (bmore (bmore (Below.refl w2.heap.size w2) (.cells #[.int .i64 0, .string ⟨#[97]⟩, .string ⟨#[]⟩, .string ⟨#[120]⟩, .int .i64 0, .int .i64 0] 41)) (.cells #[.int .i64 0, .int .i64 0, .int .i64 0, .slice none 0 0, .slice (some ⟨w2.heap.size, 0, none⟩) 1 1, .slice none 0 0, .int .i64 0, .int .i64 0, .int .i64 0, .int .i64 0] 47))
  have kop : Blk ((w2.alloc (.cells #[.int .i64 0, .string ⟨#[97]⟩, .string ⟨#[]⟩, .string ⟨#[120]⟩, .int .i64 0, .int .i64 0] 41)).alloc (.cells #[.int .i64 0, .int .i64 0, .int .i64 0, .slice none 0 0, .slice (some ⟨w2.heap.size, 0, none⟩) 1 1, .slice none 0 0, .int .i64 0, .int .i64 0, .int .i64 0, .int .i64 0] 47)) w2.heap.size opC := (Blk.new w2 opC 41).alloc _
  have kcm : Blk ((w2.alloc (.cells #[.int .i64 0, .string ⟨#[97]⟩, .string ⟨#[]⟩, .string ⟨#[120]⟩, .int .i64 0, .int .i64 0] 41)).alloc (.cells #[.int .i64 0, .int .i64 0, .int .i64 0, .slice none 0 0, .slice (some ⟨w2.heap.size, 0, none⟩) 1 1, .slice none 0 0, .int .i64 0, .int .i64 0, .int .i64 0, .int .i64 0] 47)) (w2.heap.size + 1) #[.int .i64 0, .int .i64 0, .int .i64 0, .slice none 0 0, .slice (some ⟨w2.heap.size, 0, none⟩) 1 1, .slice none 0 0, .int .i64 0, .int .i64 0, .int .i64 0, .int .i64 0] := Blk.newAt (by simp)
  have hb4 := bmore (bmore hb (.cells #[.int .i64 0, .string ⟨#[97]⟩, .string ⟨#[]⟩, .string ⟨#[120]⟩, .int .i64 0, .int .i64 0] 41)) (.cells #[.int .i64 0, .int .i64 0, .int .i64 0, .slice none 0 0, .slice (some ⟨w2.heap.size, 0, none⟩) 1 1, .slice none 0 0, .int .i64 0, .int .i64 0, .int .i64 0, .int .i64 0] 47)
  generalize (w2.alloc (.cells #[.int .i64 0, .string ⟨#[97]⟩, .string ⟨#[]⟩, .string ⟨#[120]⟩, .int .i64 0, .int .i64 0] 41)).alloc (.cells #[.int .i64 0, .int .i64 0, .int .i64 0, .slice none 0 0, .slice (some ⟨w2.heap.size, 0, none⟩) 1 1, .slice none 0 0, .int .i64 0, .int .i64 0, .int .i64 0, .int .i64 0] 47) = w4 at *
  clear hA hF2 hb
  have hFd := hF4.drew
  have hAd := hA4.drew
  have hkd := kop.drew
  have hbd := hb4.drew
  have hap := fun n w => apply_a n w2.heap.size w
  unfold cmdC at hap
  have hS : (∀ o, w4.drew.cell? ⟨w2.heap.size + 1, o, none⟩ = (#[.int .i64 0, .int .i64 0, .int .i64 0, .slice none 0 0, .slice (some ⟨w2.heap.size, 0, none⟩) 1 1, .slice none 0 0, .int .i64 0, .int .i64 0, .int .i64 0, .int .i64 0] : Array Value)[o]?) ∧ w2.heap.size + 1 < w4.drew.heap.size := ⟨kcm.cell, kcm.lt⟩
  go_region_held3 (fun w' => (∀ o, w'.cell? ⟨w2.heap.size + 1, o, none⟩ = (#[.int .i64 0, .int .i64 0, .int .i64 0, .slice none 0 0, .slice (some ⟨w2.heap.size, 0, none⟩) 1 1, .slice none 0 0, .int .i64 0, .int .i64 0, .int .i64 0, .int .i64 0] : Array Value)[o]?) ∧ w2.heap.size + 1 < w'.heap.size)
    (first
      | with_reducible assumption
      | with_reducible exact hS
      | (refine s1_only ?_ hO5 (by omega); with_reducible exact hS)
      | (refine s1_only ?_ hO6 (by omega); with_reducible assumption)
      | (with_reducible refine s1_keep ?_ hb7; with_reducible assumption))
    (first
      | (go_at_call_of 12 (Value.pointer (some (Addr.mk w.heap.size 0 none))); refine (hap w.heap.size _ hAd hkd).mono ?_; rintro e w5 ⟨rb1, cap1, cl1, rfl, hrb1, hO5, hB5, hx10, hx11⟩; have hm5 := hAd.m.only hO5 (by omega); have hF5 := hFd.only hO5 (by intro k h1 h2; omega); have hk5 := hkd.only hO5 (by omega); have hl5 := cell_lt hx10)
      | (go_at_call_of 12 (Value.pointer (some (Addr.mk w1.heap.size 0 none))); refine (hap w1.heap.size _ hF5 hk5).mono ?_; rintro e w6 ⟨rb2, cap2, cl2, rfl, hrb2, hO6, hB6, hx20, hx21⟩; have hm6 := hm5.only hO6 (by omega); have hB5' := hB5.only hO6 (by omega); have hx10' := (hO6.cell hl5 (by have := hO5.size; have hq : w2.heap.size + 1 < w4.drew.heap.size := hS.2; omega) 0).trans hx10; have hx11' := (hO6.cell hl5 (by have := hO5.size; have hq : w2.heap.size + 1 < w4.drew.heap.size := hS.2; omega) 1).trans hx11; have hl6 := cell_lt hx10'; have hl6' := cell_lt hx20)
      | (go_at_call 11; refine (samereply_a rb1 cap1 rb2 cap2 _ hx10' hx11' hx20 hx21 hl6 hl6').mono ?_; rintro e w7 ⟨rfl, hb7⟩; have hm7 := hm6.keep hb7; have hB7 := (hB5'.keep hb7).cell 0)
      | (go_at_call 13; refine (mstore_m _ w.heap.size hm7).mono ?_; rintro e w8 ⟨rfl, rfl⟩)
      | (go_at_call 14; refine (rev_a _ _ _ hB7).mono ?_; rintro e w8 ⟨rfl, rfl⟩))
  all_goals (
    have hfin := ((hbd.trans (hO5.below w.heap.size hbd.size (fun k hk => by omega))).trans (hO6.below w.heap.size (by have := hbd.size; have := hO5.size; omega) (fun k hk => by omega))).trans (hb7.mono (by have := hbd.size; have := hO5.size; have := hO6.size; omega))
    clear hap hO5 hO6 hb7 hB5 hB5' hB6 hx10 hx11 hx20 hx21 hx10' hx11' hF5 hk5 hm5 hm6 hm7
    go_wp2
    go_ret
    exact ⟨rfl, hfin⟩)
end Go.Proofs.YtlldcoldnojbjaaGreatDoor.Mach
