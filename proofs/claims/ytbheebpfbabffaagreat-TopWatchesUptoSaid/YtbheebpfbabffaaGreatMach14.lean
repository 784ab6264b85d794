/- The machine's Apply at the example. -/
import Derived.Test.YtbheebpfbabffaaGreatMach13
set_option linter.unusedSimpArgs false
set_option linter.unusedVariables false
namespace Go.Proofs.YtbheebpfbabffaaGreat.Mach
open Go.RowKit Go

theorem s2_keep {C D : Array Value} {x b : Nat} {W W' : World} (hS : (∀ o, W.cell? ⟨x, o, none⟩ = C[o]?) ∧ (∀ o, W.cell? ⟨b, o, none⟩ = D[o]?) ∧ x < W.heap.size ∧ b < W.heap.size) (hb : Below W.heap.size W W') :
    (∀ o, W'.cell? ⟨x, o, none⟩ = C[o]?) ∧ (∀ o, W'.cell? ⟨b, o, none⟩ = D[o]?) ∧ x < W'.heap.size ∧ b < W'.heap.size := s2_only hS (Only.of_below (F := fun _ => False) hb) (fun h => h) (fun h => h)
theorem s2_alloc {C D : Array Value} {x b : Nat} {W : World} (hS : (∀ o, W.cell? ⟨x, o, none⟩ = C[o]?) ∧ (∀ o, W.cell? ⟨b, o, none⟩ = D[o]?) ∧ x < W.heap.size ∧ b < W.heap.size) (o : Obj) :
    (∀ q, (W.alloc o).cell? ⟨x, q, none⟩ = C[q]?) ∧ (∀ q, (W.alloc o).cell? ⟨b, q, none⟩ = D[q]?) ∧ x < (W.alloc o).heap.size ∧ b < (W.alloc o).heap.size := s2_keep hS (bmore (Below.refl _ _) o)

theorem s2_allocd {C D : Array Value} {x b : Nat} {W : World} (hS : (∀ o, W.drew.cell? ⟨x, o, none⟩ = C[o]?) ∧ (∀ o, W.drew.cell? ⟨b, o, none⟩ = D[o]?) ∧ x < W.drew.heap.size ∧ b < W.drew.heap.size) (o : Obj) :
    (∀ q, (W.alloc o).drew.cell? ⟨x, q, none⟩ = C[q]?) ∧ (∀ q, (W.alloc o).drew.cell? ⟨b, q, none⟩ = D[q]?) ∧ x < (W.alloc o).drew.heap.size ∧ b < (W.alloc o).drew.heap.size := s2_alloc (W := W.drew) hS o

theorem s2_setd {C D : Array Value} {x b : Nat} {W : World} (a : Addr) (v : Value) (hS : (∀ o, W.drew.cell? ⟨x, o, none⟩ = C[o]?) ∧ (∀ o, W.drew.cell? ⟨b, o, none⟩ = D[o]?) ∧ x < W.drew.heap.size ∧ b < W.drew.heap.size) (h1 : x ≠ a.block) (h2 : b ≠ a.block) :
    (∀ o, (W.setCell a v).drew.cell? ⟨x, o, none⟩ = C[o]?) ∧ (∀ o, (W.setCell a v).drew.cell? ⟨b, o, none⟩ = D[o]?) ∧ x < (W.setCell a v).drew.heap.size ∧ b < (W.setCell a v).drew.heap.size := s2_set (W := W.drew) hS a v h1 h2

theorem s3c_keep {C D E : Array Value} {x b y : Nat} {W W' : World} (hS : (∀ o, W.cell? ⟨x, o, none⟩ = C[o]?) ∧ (∀ o, W.cell? ⟨b, o, none⟩ = D[o]?) ∧ (∀ o, W.cell? ⟨y, o, none⟩ = E[o]?) ∧ x < W.heap.size ∧ b < W.heap.size ∧ y < W.heap.size) (hb : Below W.heap.size W W') :
    (∀ o, W'.cell? ⟨x, o, none⟩ = C[o]?) ∧ (∀ o, W'.cell? ⟨b, o, none⟩ = D[o]?) ∧ (∀ o, W'.cell? ⟨y, o, none⟩ = E[o]?) ∧ x < W'.heap.size ∧ b < W'.heap.size ∧ y < W'.heap.size :=
  ⟨fun o => (keep0 hb hS.2.2.2.1 o).trans (hS.1 o), fun o => (keep0 hb hS.2.2.2.2.1 o).trans (hS.2.1 o), fun o => (keep0 hb hS.2.2.2.2.2 o).trans (hS.2.2.1 o), Nat.lt_of_lt_of_le hS.2.2.2.1 hb.size, Nat.lt_of_lt_of_le hS.2.2.2.2.1 hb.size, Nat.lt_of_lt_of_le hS.2.2.2.2.2 hb.size⟩

/-- What Apply leaves. -/
def ApPost (n : Nat) (e : Ending) (w w' : World) : Prop := ∃ rb cap cl, e = .returned (.agg #[.int .i64 0, .int .i64 1, .bool true, .slice (some ⟨rb, 0, none⟩) 1 cap, .int .i64 0]) ∧ w.heap.size ≤ rb ∧ Only (fun x => x = n + 1 ∨ x = n + 2 ∨ x = n + 3) w w' ∧
  Blk w' (n + 3) #[.int .i64 1, .int .i64 0, .int .i64 1, .pointer (some ⟨n + 1, 0, none⟩), .map (some (n + 2)), cl, .pointer none] ∧ w'.cell? ⟨rb, 0, none⟩ = some (.int .i64 0) ∧ w'.cell? ⟨rb, 1, none⟩ = some (.slice none 0 0)

set_option maxHeartbeats 8000000 in
set_option maxRecDepth 100000 in
theorem apply_a (n cb : Nat) (w : World) (h : Fresh w n) (hcb : Blk w cb opC) :
    Calls Tryz.prog 14 #[.pointer (some ⟨n, 0, none⟩), .agg (cmdC cb)] w fun e w' => ApPost n e w w' := by
  have hcl := hcb.lt
  have hsl := h.tb.lt
  unfold cmdC
  go_enter Tryz.func14, Tryz.ntmps14
  go_wp2_with fail
  have hb := bmore (bmore (Below.refl w.heap.size w) (.cells #[.int .i64 0, .int .i64 0, .int .i64 0, .slice none 0 0, .slice (some ⟨cb, 0, none⟩) 1 1, .slice none 0 0, .int .i64 0, .int .i64 0, .int .i64 0, .int .i64 0] 41)) (.cells #[.int .i64 0, .int .i64 0, .bool false, .slice none 0 0, .int .i64 0] 46)
  have k0 := (Blk.new w #[.int .i64 0, .int .i64 0, .int .i64 0, .slice none 0 0, .slice (some ⟨cb, 0, none⟩) 1 1, .slice none 0 0, .int .i64 0, .int .i64 0, .int .i64 0, .int .i64 0] 41).alloc (.cells #[.int .i64 0, .int .i64 0, .bool false, .slice none 0 0, .int .i64 0] 46)
  have k1 : Blk ((w.alloc (.cells #[.int .i64 0, .int .i64 0, .int .i64 0, .slice none 0 0, .slice (some ⟨cb, 0, none⟩) 1 1, .slice none 0 0, .int .i64 0, .int .i64 0, .int .i64 0, .int .i64 0] 41)).alloc (.cells #[.int .i64 0, .int .i64 0, .bool false, .slice none 0 0, .int .i64 0] 46)) (w.heap.size + 1) #[.int .i64 0, .int .i64 0, .bool false, .slice none 0 0, .int .i64 0] := Blk.newAt (by simp)
  have hF1 := h.keep hb
  have hcb1 := hcb.keep hb
  generalize (w.alloc (.cells #[.int .i64 0, .int .i64 0, .int .i64 0, .slice none 0 0, .slice (some ⟨cb, 0, none⟩) 1 1, .slice none 0 0, .int .i64 0, .int .i64 0, .int .i64 0, .int .i64 0] 41)).alloc (.cells #[.int .i64 0, .int .i64 0, .bool false, .slice none 0 0, .int .i64 0] 46) = wa at *
  have hFd := hF1.drew
  go_cut [6] (fun s wx => s = .bool true ∧ Below wa.heap.size wa wx)
  case first =>
    have hS : (∀ o, wa.drew.cell? ⟨n, o, none⟩ = (#[.iface 29 (.pointer (some ⟨n + 3, 0, none⟩)), .iface 78 (.pointer (some ⟨n + 5, 0, none⟩)), .iface 80 (.pointer (some ⟨n + 7, 0, none⟩)), .int .i64 0] : Array Value)[o]?) ∧ (∀ o, wa.drew.cell? ⟨w.heap.size, o, none⟩ = (#[.int .i64 0, .int .i64 0, .int .i64 0, .slice none 0 0, .slice (some ⟨cb, 0, none⟩) 1 1, .slice none 0 0, .int .i64 0, .int .i64 0, .int .i64 0, .int .i64 0] : Array Value)[o]?) ∧ n < wa.drew.heap.size ∧ w.heap.size < wa.drew.heap.size := ⟨hF1.m.cell, k0.cell, hF1.m.lt, k0.lt⟩
    have hln := hF1.m.lt
    have hlw := k0.lt
    go_region_held3 (fun w' => (∀ o, w'.cell? ⟨n, o, none⟩ = (#[.iface 29 (.pointer (some ⟨n + 3, 0, none⟩)), .iface 78 (.pointer (some ⟨n + 5, 0, none⟩)), .iface 80 (.pointer (some ⟨n + 7, 0, none⟩)), .int .i64 0] : Array Value)[o]?) ∧ (∀ o, w'.cell? ⟨w.heap.size, o, none⟩ = (#[.int .i64 0, .int .i64 0, .int .i64 0, .slice none 0 0, .slice (some ⟨cb, 0, none⟩) 1 1, .slice none 0 0, .int .i64 0, .int .i64 0, .int .i64 0, .int .i64 0] : Array Value)[o]?) ∧ n < w'.heap.size ∧ w.heap.size < w'.heap.size)
      (first
        | with_reducible assumption
        | with_reducible exact hS
        | (with_reducible refine s2_allocd ?_ _; with_reducible exact hS)
        | (with_reducible refine s2_keep ?_ hb; first | with_reducible assumption | with_reducible exact hS)
        | (with_reducible refine s2_alloc ?_ _; first | with_reducible assumption | with_reducible exact hS)
        | (refine s2_set ?_ _ _ (by simp <;> omega) (by simp <;> omega); (repeat (refine s2_set ?_ _ _ (by simp <;> omega) (by simp <;> omega))); first | with_reducible assumption | with_reducible exact hS))
      (first
        | (go_at_call 31; refine (table_m _ n (by first | with_reducible exact hFd.m | with_reducible exact (hF1.m.alloc _).drew)).mono ?_; rintro e w5 ⟨rfl, rfl⟩)
        | (go_at_call 32; refine (ask_0 n _ (by first | with_reducible exact hFd.tb | with_reducible exact (hF1.tb.alloc _).drew) (by first | with_reducible exact hFd.fm | with_reducible exact (hF1.fm.alloc _).drew)).mono ?_; rintro e w5 ⟨rfl, hb⟩; (try (with_reducible have hNn := Blk.keep (Blk.drew (Blk.new wa #[.int .i64 0, .int .i64 0, .bool false, .slice none 0 0, .int .i64 0] 46)) hb)); (try have hNc := hNn.cell); (try have hNf := hNn.frz)))
    all_goals (
      first
        | (have hfin := Below.trans (Below.drew (Below.refl wa.heap.size wa)) hb
           go_wp2_with fail
           go_meet
           exact ⟨rfl, bmore hfin _⟩)
        | (have hfin := Below.trans (Below.drew (bmore (Below.refl wa.heap.size wa) (.cells #[.int .i64 0, .int .i64 0, .bool false, .slice none 0 0, .int .i64 0] 46))) (Below.mono hb (by simp))
           go_wp2_with fail
           go_meet
           refine ⟨rfl, ?_⟩
           repeat (first | exact hfin | refine bset ?_ (Nat.le_refl _) _)))
  case rest =>
    obtain ⟨rfl, hbc⟩ := hcut
    have m0 := k0.keep hbc
    have m1 := k1.keep hbc
    have hF2 := hF1.keep hbc
    have hcb2 := hcb1.keep hbc
    have hb2 := bthen hb hbc
    have hzb : w.heap.size + 1 < wc.heap.size := m1.lt
    have hc0 := m0.cell
    clear k0 k1 hF1 hcb1 hbc hFd hb
    go_wp2_with fail
    go_at_call 34
    refine (does_a cb _).mono ?_
    rintro e w3 ⟨rfl, hb3⟩
    have p0 := m0.keep hb3
    have p1 := m1.keep hb3
    have hF3 := hF2.keep hb3
    have hcb3 := hcb2.keep hb3
    have hb4 := bthen hb2 hb3
    have hz3 : w.heap.size + 1 < w3.heap.size := p1.lt
    clear hc0 m0 m1 hF2 hcb2 hb2 hb3 hzb
    go_wp2_with fail
    go_at_call 33
    have hdo := mdo_a n cb w3 hF3 hcb3
    unfold txnC at hdo
    refine hdo.mono ?_
    rintro e w7 ⟨rb, cap, cl, rfl, hrb, hO7, hB7, hx0, hx1⟩
    have q0 := p0.only hO7 (by omega)
    have q1 := p1.only hO7 (by omega)
    have qm := hF3.m.only hO7 (by omega)
    have qt := hF3.tb.only hO7 (by omega)
    have qf := hF3.fm.only hO7 (by omega)
    have hO8 := (Only.of_below (F := fun x => x = n + 1 ∨ x = n + 2 ∨ x = n + 3) hb4).trans hO7 (fun _ _ h => h)
    have hz7 : w3.heap.size ≤ w7.heap.size := hO7.size
    have hlr : rb < w7.heap.size := by
      rcases Nat.lt_or_ge rb w7.heap.size with h | h
      · exact h
      · simp [World.cell?, Array.getElem?_eq_none h] at hx0
    have q7 := Blk.new w7 #[.int .i64 0, .int .i64 0, .bool true, .slice (some ⟨rb, 0, none⟩) 1 cap, .int .i64 0] 46
    clear p0 p1 hF3 hcb3 hb4 hO7 hdo
    go_wp2_with fail
    have nm := qm.alloc (.cells #[.int .i64 0, .int .i64 0, .bool true, .slice (some ⟨rb, 0, none⟩) 1 cap, .int .i64 0] 46)
    have nB := hB7.alloc (.cells #[.int .i64 0, .int .i64 0, .bool true, .slice (some ⟨rb, 0, none⟩) 1 cap, .int .i64 0] 46)
    have n0 := q0.alloc (.cells #[.int .i64 0, .int .i64 0, .bool true, .slice (some ⟨rb, 0, none⟩) 1 cap, .int .i64 0] 46)
    have n1 := q1.alloc (.cells #[.int .i64 0, .int .i64 0, .bool true, .slice (some ⟨rb, 0, none⟩) 1 cap, .int .i64 0] 46)
    have nt := qt.alloc (.cells #[.int .i64 0, .int .i64 0, .bool true, .slice (some ⟨rb, 0, none⟩) 1 cap, .int .i64 0] 46)
    have nf := qf.alloc (.cells #[.int .i64 0, .int .i64 0, .bool true, .slice (some ⟨rb, 0, none⟩) 1 cap, .int .i64 0] 46)
    have hO9 := hO8.alloc (.cells #[.int .i64 0, .int .i64 0, .bool true, .slice (some ⟨rb, 0, none⟩) 1 cap, .int .i64 0] 46)
    have nx0 := (alloc_old w7 (.cells #[.int .i64 0, .int .i64 0, .bool true, .slice (some ⟨rb, 0, none⟩) 1 cap, .int .i64 0] 46) hlr 0).trans hx0
    have nx1 := (alloc_old w7 (.cells #[.int .i64 0, .int .i64 0, .bool true, .slice (some ⟨rb, 0, none⟩) 1 cap, .int .i64 0] 46) hlr 1).trans hx1
    have hsz9 : (w7.alloc (.cells #[.int .i64 0, .int .i64 0, .bool true, .slice (some ⟨rb, 0, none⟩) 1 cap, .int .i64 0] 46)).heap.size = w7.heap.size + 1 := asz _ _
    have hHz := Lib.hid hsz9
    clear hsz9
    generalize w7.alloc (.cells #[.int .i64 0, .int .i64 0, .bool true, .slice (some ⟨rb, 0, none⟩) 1 cap, .int .i64 0] 46) = w8 at *
    clear q0 q1 qm qt qf hO8 hx0 hx1 hB7
    go_cut [] (fun wx => Blk wx w7.heap.size #[.int .i64 0, .int .i64 1, .bool true, .slice (some ⟨rb, 0, none⟩) 1 cap, .int .i64 0] ∧ Only (fun x => x = w7.heap.size) w8 wx)
    case first =>
      have hnl := nm.lt
      have hBl := nB.lt
      have h7l := q7.lt
      have hw7c := q7.cell
      have hw7f := q7.frz
      have hmd := nm.drew
      have hcd : w8.drew.cell? ⟨n + 3, 0, none⟩ = some (.int .i64 1) := nB.cell 0
      have h7c : ∀ o, w8.drew.cell? ⟨w7.heap.size, o, none⟩ = (#[.int .i64 0, .int .i64 0, .bool true, .slice (some ⟨rb, 0, none⟩) 1 cap, .int .i64 0] : Array Value)[o]? := q7.cell
      have h7f : ∀ o, w8.drew.frozen? ⟨w7.heap.size, o, none⟩ = false := q7.frz
      have hS : (∀ o, w8.drew.cell? ⟨n, o, none⟩ = (#[.iface 29 (.pointer (some ⟨n + 3, 0, none⟩)), .iface 78 (.pointer (some ⟨n + 5, 0, none⟩)), .iface 80 (.pointer (some ⟨n + 7, 0, none⟩)), .int .i64 0] : Array Value)[o]?) ∧ (∀ o, w8.drew.cell? ⟨n + 3, o, none⟩ = (#[.int .i64 1, .int .i64 0, .int .i64 1, .pointer (some ⟨n + 1, 0, none⟩), .map (some (n + 2)), cl, .pointer none] : Array Value)[o]?) ∧ n < w8.drew.heap.size ∧ n + 3 < w8.drew.heap.size := ⟨nm.cell, nB.cell, nm.lt, nB.lt⟩
      go_region_held3 (fun w' => (∀ o, w'.cell? ⟨n, o, none⟩ = (#[.iface 29 (.pointer (some ⟨n + 3, 0, none⟩)), .iface 78 (.pointer (some ⟨n + 5, 0, none⟩)), .iface 80 (.pointer (some ⟨n + 7, 0, none⟩)), .int .i64 0] : Array Value)[o]?) ∧ (∀ o, w'.cell? ⟨n + 3, o, none⟩ = (#[.int .i64 1, .int .i64 0, .int .i64 1, .pointer (some ⟨n + 1, 0, none⟩), .map (some (n + 2)), cl, .pointer none] : Array Value)[o]?) ∧ n < w'.heap.size ∧ n + 3 < w'.heap.size)
        (first
          | with_reducible assumption
          | with_reducible exact hS
          | (refine s2_setd _ _ ?_ (by simp <;> omega) (by simp <;> omega); (repeat (refine s2_setd _ _ ?_ (by simp <;> omega) (by simp <;> omega))); first | with_reducible assumption | with_reducible exact hS)
          | (refine s2_set ?_ _ _ (by simp <;> omega) (by simp <;> omega); (repeat (refine s2_set ?_ _ _ (by simp <;> omega) (by simp <;> omega))); first | with_reducible assumption | with_reducible exact hS))
        (first
          | (go_at_call 29; refine (store_m _ n hmd).mono ?_; rintro e w5 ⟨rfl, rfl⟩)
          | (go_at_call 13; refine (rev_a (n + 3) _ _ hcd).mono ?_; rintro e w5 ⟨rfl, rfl⟩))
      all_goals (
        go_wp2_with fail
        go_meet
        have z1 := (q7.setCell 1 (.int .i64 1)).setCell 4 (.int .i64 0)
        have z2 := (q7.setCell 4 (.int .i64 0)).setCell 1 (.int .i64 1)
        simp at z1 z2
        first
          | exact ⟨z1.drew, (((Only.refl (fun x => x = w7.heap.size) w8).set ⟨w7.heap.size, 1, none⟩ (fun _ => rfl) _).set ⟨w7.heap.size, 4, none⟩ (fun _ => rfl) _).drew⟩
          | exact ⟨z2.drew, (((Only.refl (fun x => x = w7.heap.size) w8).set ⟨w7.heap.size, 4, none⟩ (fun _ => rfl) _).set ⟨w7.heap.size, 1, none⟩ (fun _ => rfl) _).drew⟩)
    case rest =>
      obtain ⟨r7, hOc⟩ := hcut
      have hsz9 := hHz.out
      have sm := nm.only hOc (by omega)
      have sB := nB.only hOc (by omega)
      have s0 := n0.only hOc (by omega)
      have s1 := n1.only hOc (by omega)
      have st := nt.only hOc (by omega)
      have sf := nf.only hOc (by omega)
      have sx0 := (hOc.cell (b := rb) (by omega) (by omega) 0).trans nx0
      have sx1 := (hOc.cell (b := rb) (by omega) (by omega) 1).trans nx1
      have hO10 := hO9.trans hOc (fun x hx hx2 => by omega)
      have hlr2 : rb < wc.heap.size := by have := hOc.size; omega
      clear q7 nm nB n0 n1 nt nf nx0 nx1 hO9 hOc hHz
      clear hsz9
      go_wp2_with fail
      go_cut [] (fun wx => Below wc.heap.size wc wx)
      case first =>
        have hS : (∀ o, wc.drew.cell? ⟨n, o, none⟩ = (#[.iface 29 (.pointer (some ⟨n + 3, 0, none⟩)), .iface 78 (.pointer (some ⟨n + 5, 0, none⟩)), .iface 80 (.pointer (some ⟨n + 7, 0, none⟩)), .int .i64 0] : Array Value)[o]?) ∧ (∀ o, wc.drew.cell? ⟨w.heap.size, o, none⟩ = (#[.int .i64 0, .int .i64 0, .int .i64 0, .slice none 0 0, .slice (some ⟨cb, 0, none⟩) 1 1, .slice none 0 0, .int .i64 0, .int .i64 0, .int .i64 0, .int .i64 0] : Array Value)[o]?) ∧ (∀ o, wc.drew.cell? ⟨w7.heap.size, o, none⟩ = (#[.int .i64 0, .int .i64 1, .bool true, .slice (some ⟨rb, 0, none⟩) 1 cap, .int .i64 0] : Array Value)[o]?) ∧ n < wc.drew.heap.size ∧ w.heap.size < wc.drew.heap.size ∧ w7.heap.size < wc.drew.heap.size := ⟨sm.cell, s0.cell, r7.cell, sm.lt, s0.lt, r7.lt⟩
        have hmd := sm.drew
        have htd := st.drew
        have hfd := sf.drew
        go_region_held3 (fun w' => (∀ o, w'.cell? ⟨n, o, none⟩ = (#[.iface 29 (.pointer (some ⟨n + 3, 0, none⟩)), .iface 78 (.pointer (some ⟨n + 5, 0, none⟩)), .iface 80 (.pointer (some ⟨n + 7, 0, none⟩)), .int .i64 0] : Array Value)[o]?) ∧ (∀ o, w'.cell? ⟨w.heap.size, o, none⟩ = (#[.int .i64 0, .int .i64 0, .int .i64 0, .slice none 0 0, .slice (some ⟨cb, 0, none⟩) 1 1, .slice none 0 0, .int .i64 0, .int .i64 0, .int .i64 0, .int .i64 0] : Array Value)[o]?) ∧ (∀ o, w'.cell? ⟨w7.heap.size, o, none⟩ = (#[.int .i64 0, .int .i64 1, .bool true, .slice (some ⟨rb, 0, none⟩) 1 cap, .int .i64 0] : Array Value)[o]?) ∧ n < w'.heap.size ∧ w.heap.size < w'.heap.size ∧ w7.heap.size < w'.heap.size)
          (first
            | with_reducible assumption
            | with_reducible exact hS
            | (with_reducible refine s3c_keep ?_ hb; with_reducible exact hS))
          (first
            | (go_at_call 31; refine (table_m _ n hmd).mono ?_; rintro e w5 ⟨rfl, rfl⟩)
            | (go_at_call 35; refine (note_0 (.bool true) #[.int .i64 0, .int .i64 1, .bool true, .slice (some ⟨rb, 0, none⟩) 1 cap, .int .i64 0] rfl _ n htd hfd).mono ?_; rintro e w5 ⟨rfl, hb⟩))
        all_goals (
          have hfin := Below.trans (Below.drew (Below.refl wc.heap.size wc)) hb
          go_wp2_with fail
          go_meet
          exact hfin)
      case rest =>
        have t7 := r7.keep hcut
        have t1 := s1.keep hcut
        have tB := sB.keep hcut
        have tx0 := (keep0 hcut hlr2 0).trans sx0
        have tx1 := (keep0 hcut hlr2 1).trans sx1
        have hO11 := hO10.then hcut
        have hc7 := t7.cell
        have hc1 := t1.cell
        have hf1 := t1.frz
        clear r7 s1 sB sx0 sx1 hO10 hcut sm s0 st sf
        go_wp2
        refine bodyPost_ret (v := .agg #[.int .i64 0, .int .i64 1, .bool true, .slice (some ⟨rb, 0, none⟩) 1 cap, .int .i64 0]) (by simp [results, Tryz.results14, go_sem, hc1, hf1]) rfl ⟨rb, cap, cl, rfl, by omega, ?_, ?_, ?_, ?_⟩
        · repeat (first | exact hO11 | refine Only.set ?_ _ (fun h => by simp at h; omega) _)
        · repeat (first | exact tB | refine Blk.setOther ?_ _ (by simp <;> omega) _)
        · repeat rw [cell_setOther _ _ _ _ _ (by simp <;> omega)]
          exact tx0
        · repeat rw [cell_setOther _ _ _ _ _ (by simp <;> omega)]
          exact tx1
end Go.Proofs.YtbheebpfbabffaaGreat.Mach

