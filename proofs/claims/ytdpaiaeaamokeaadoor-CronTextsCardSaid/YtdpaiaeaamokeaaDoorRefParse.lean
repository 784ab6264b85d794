/- The contract of the reference's Parse. -/
import Derived.Test.YtdpaiaeaamokeaaDoorRefFldC
import Derived.Test.YtdpaiaeaamokeaaDoorRefFields
import Derived.Test.YtdpaiaeaamokeaaDoorCronParse
namespace Go.Proofs.YtdpaiaeaamokeaaDoor.Cron
open Go.RowKit Go

theorem cells_set {W : World} {q : Nat} {A : Array Value} (h : ∀ o, W.cell? ⟨q, o, none⟩ = A[o]?) (i : Nat) (v : Value) (hi : i < A.size) : ∀ o, (W.setCell ⟨q, i, none⟩ v).cell? ⟨q, o, none⟩ = (A.setIfInBounds i v)[o]? := by
  intro o
  by_cases e : i = o
  · subst e
    rw [cell_same _ _ _ _ (by rw [h]; simp [hi]), Array.getElem?_setIfInBounds]
    simp [hi]
  · rw [World.cell?_setCell_other _ _ _ _ (by simp [e]), h, Array.getElem?_setIfInBounds]
    simp [e]
theorem rpar_ret (b : Nat) (tmps : Array Value) (wf : World) (u0 u1 u2 u3 u4 u5 u6 : Value) (n : Int) {post : Ending → World → Prop} (h2 : tmps[2]?.getD undef = .pointer (some ⟨b, 0, none⟩)) (h3 : tmps[3]?.getD undef = .int .i64 n)
    (S7 : wf.cell? ⟨b, 0, none⟩ = some u0 ∧ wf.cell? ⟨b, 1, none⟩ = some u1 ∧ wf.cell? ⟨b, 2, none⟩ = some u2 ∧ wf.cell? ⟨b, 3, none⟩ = some u3 ∧ wf.cell? ⟨b, 4, none⟩ = some u4 ∧ wf.cell? ⟨b, 5, none⟩ = some u5 ∧ wf.cell? ⟨b, 6, none⟩ = some u6)
    (hp : post (.returned (.tuple #[.agg #[u0, u1, u2, u3, u4, u5, u6], .int .i64 n])) wf) : bodyPost Tryd.prog Tryd.f17 post .ret ⟨tmps, []⟩ wf := by
  obtain ⟨s0, s1, s2, s3, s4, s5, s6⟩ := S7
  exact bodyPost_ret (v := .tuple #[.agg #[u0, u1, u2, u3, u4, u5, u6], .int .i64 n]) (by simp [results, Tryd.results17, go_sem, h2, h3, s0, s1, s2, s3, s4, s5, s6]) rfl hp

set_option maxHeartbeats 4000000 in
set_option maxRecDepth 100000 in
theorem rparse_short (s : ByteArray) (w : World) (hs : s.size ≤ 100) :
    Calls Tryd.prog 17 #[.string s] w fun e w' => ParPost s e ∧ Below w.heap.size w w' := by
  go_enter Tryd.func17, Tryd.ntmps17
  go_wp2_with fail
  go_at_call 58
  refine (rfields_any s _ (by omega)).mono ?_
  rintro e w2 ⟨⟨v, bs, rfl, hown, hfl, hbl, hbz⟩, hb2⟩
  have HB := Lib.hid (keepN hb2)
  have HFr := Lib.hid (keepF hb2)
  have hz2 := size1 hb2
  have hbel : Below w.heap.size w w2 := ((Below.refl _ _).alloc (Nat.le_refl _) _).trans (hb2.mono (by simp))
  clear hb2
  obtain ⟨ao5, cap5, rfl⟩ : ∃ ao cap, v = .slice ao bs.length cap := by
    rcases hown.2 with ⟨h, h0⟩ | ⟨g, cap, cur, h, -⟩
    · exact ⟨none, 0, by rw [h, h0]⟩
    · exact ⟨_, cap, h⟩
  by_cases h5 : bs.length = 5
  case neg =>
    have h5i : ((bs.length : Int) == 5) = false := by simp only [beq_eq_false_iff_ne]; omega
    have HP : Hid (pres s = (zeroEx, 25)) := by
      show _ = _
      exact pres_none s hs (pex_not5 (by rw [← hfl]; simpa using h5))
    have hBx := HB.out
    have HFx := HFr.out
    have hbelx := hbel
    clear hown hfl hbl hbz h5 hbel
    generalize bs.length = n at *
    go_wp2
    have S7 := set7_cells hBx (u0 := .int .u64 0) (u1 := .int .u64 0) (u2 := .int .u64 0) (u3 := .int .u64 0) (u4 := .int .u64 0) (u5 := .bool false) (u6 := .bool false) _ rfl
    exact rpar_ret w.heap.size _ _ _ _ _ _ _ _ _ _ rfl rfl S7 ⟨by show _ = _; rw [HP.out]; rfl, zset7 hbelx⟩
  match bs, h5, hown, hfl, hbl, hbz with
  | [b0, b1, b2, b3, b4], _, hown, hfl, hbl, hbz =>
    obtain ⟨g, cap, hgv, hgB, hgl⟩ := hown.form (by simp)
    cases hgv
    have z0 : b0.size ≤ s.size := hbz b0 (by simp)
    have z1 : b1.size ≤ s.size := hbz b1 (by simp)
    have z2 : b2.size ≤ s.size := hbz b2 (by simp)
    have z3 : b3.size ≤ s.size := hbz b3 (by simp)
    have z4 : b4.size ≤ s.size := hbz b4 (by simp)
    have c0 : w2.cell? ⟨g, 0, none⟩ = some (.string b0) := hown.cellAt 0 (by simp)
    have c1 : w2.cell? ⟨g, 1, none⟩ = some (.string b1) := hown.cellAt 1 (by simp)
    have c2 : w2.cell? ⟨g, 2, none⟩ = some (.string b2) := hown.cellAt 2 (by simp)
    have c3 : w2.cell? ⟨g, 3, none⟩ = some (.string b3) := hown.cellAt 3 (by simp)
    have c4 : w2.cell? ⟨g, 4, none⟩ = some (.string b4) := hown.cellAt 4 (by simp)
    have HBL := Lib.hid hbel
    obtain ⟨p0, hp0⟩ : ∃ p0, pfield b0.data.toList 0 59 = p0 := ⟨_, rfl⟩
    obtain ⟨p1, hp1⟩ : ∃ p1, pfield b1.data.toList 0 23 = p1 := ⟨_, rfl⟩
    obtain ⟨p2, hp2⟩ : ∃ p2, pfield b2.data.toList 1 31 = p2 := ⟨_, rfl⟩
    obtain ⟨p3, hp3⟩ : ∃ p3, pfield b3.data.toList 1 12 = p3 := ⟨_, rfl⟩
    obtain ⟨p4, hp4⟩ : ∃ p4, pfield b4.data.toList 0 6 = p4 := ⟨_, rfl⟩
    have HX : Hid (pex s.data.toList = if p0 = 0 ∨ p1 = 0 ∨ p2 = 0 ∨ p3 = 0 ∨ p4 = 0 then none else some ⟨p0, p1, p2, p3, p4, decide (b2.data.toList = [42]), decide (b4.data.toList = [42])⟩) := by
      show _ = _
      have := pex_five (l := s.data.toList) hfl.symm
      rw [this, hp0, hp1, hp2, hp3, hp4]
    have e0 := Lib.hid hp0
    have e1 := Lib.hid hp1
    have e2 := Lib.hid hp2
    have e3 := Lib.hid hp3
    have e4 := Lib.hid hp4
    clear hown hfl hbl hbz hbel hp0 hp1 hp2 hp3 hp4
    simp only [List.length_cons, List.length_nil]
    go_wp2
    have hq0 : w2.heap.size ≤ w2.heap.size := Nat.le_refl _
    have ha0 := alloc_new w2 #[.int .u64 0, .int .u64 0, .int .u64 0, .int .u64 0, .int .u64 0, .bool false, .bool false] 40
    have haF : ∀ o, (w2.alloc (.cells #[.int .u64 0, .int .u64 0, .int .u64 0, .int .u64 0, .int .u64 0, .bool false, .bool false] 40)).frozen? ⟨w2.heap.size, o, none⟩ = false := fun o => World.frozen?_alloc_at _ _ _ o rfl
    have haB : Below w2.heap.size w2 (w2.alloc (.cells #[.int .u64 0, .int .u64 0, .int .u64 0, .int .u64 0, .int .u64 0, .bool false, .bool false] 40)) := bmore (Below.refl _ _) _
    generalize w2.alloc (.cells #[.int .u64 0, .int .u64 0, .int .u64 0, .int .u64 0, .int .u64 0, .bool false, .bool false] 40) = w3 at *
    have hq : w2.heap.size ≤ w2.heap.size := Nat.le_refl _
    go_loopg [6] 5 (fun gk iv wr => ∃ (f x0 x1 x2 x3 x4 : Nat) (ya yb : Bool), iv = .int .i64 f ∧ f ≤ 5 ∧ (∀ o, wr.cell? ⟨w2.heap.size, o, none⟩ = (#[.int .u64 x0, .int .u64 x1, .int .u64 x2, .int .u64 x3, .int .u64 x4, .bool ya, .bool yb] : Array Value)[o]?) ∧ (∀ o, wr.frozen? ⟨w2.heap.size, o, none⟩ = false) ∧ Below w2.heap.size w2 wr ∧
      (0 < f → x0 = p0 ∧ p0 ≠ 0) ∧ (1 < f → x1 = p1 ∧ p1 ≠ 0) ∧ (2 < f → x2 = p2 ∧ p2 ≠ 0) ∧ (3 < f → x3 = p3 ∧ p3 ≠ 0) ∧ (4 < f → x4 = p4 ∧ p4 ≠ 0) ∧ (2 < f → ya = decide (b2.data.toList = [42])) ∧ (4 < f → yb = decide (b4.data.toList = [42])) ∧ gk = 5 - f)
    case atStart => exact ⟨0, 0, 0, 0, 0, 0, false, false, rfl, by omega, ha0, haF, haB, by omega, by omega, by omega, by omega, by omega, by omega, by omega, rfl⟩
    case round =>
      clear ha0 haF haB
      obtain ⟨f, x0, x1, x2, x3, x4, ya, yb, rfl, hf, hcl, hfz, hb, hx0, hx1, hx2, hx3, hx4, hya, hyb, hgk⟩ := hrel
      have HG := Lib.hid hgk
      clear hgk
      have h6 : f = 0 ∨ f = 1 ∨ f = 2 ∨ f = 3 ∨ f = 4 ∨ f = 5 := by omega
      rcases h6 with rfl | rfl | rfl | rfl | rfl | rfl
      · skip
        have hcell : wr.cell? ⟨g, 0, none⟩ = some (.string b0) := (keep0 hb hgl _).trans c0
        go_wp2_with fail
        go_at_call 59
        refine (rfield_any b0 0 _ (by omega) (by omega)).mono ?_
        rintro y w4 ⟨hy, rfl⟩
        unfold RfPost at hy
        rw [show pfield b0.data.toList (loN 0) (hiN 0) = p0 from e0.out] at hy
        by_cases hp : p0 = 0
        · have HP : Hid (pres s = (zeroEx, 25)) := by show _ = _; exact pres_none s hs (by rw [HX.out, if_pos (by omega)])
          have hBx := fun o => (keep0 hb hz2 o).trans (HB.out o)
          have HFx := fun o => (keepF0 hb hz2 o).trans (HFr.out o)
          have hbelx := bthen HBL.out hb
          rw [show (decide (p0 ≠ 0)) = false by simp [hp]] at hy
          subst hy
          clear hp hcl hfz hb hcell
          go_wp2
          have S7 := set7_cells hBx (u0 := .int .u64 0) (u1 := .int .u64 0) (u2 := .int .u64 0) (u3 := .int .u64 0) (u4 := .int .u64 0) (u5 := .bool false) (u6 := .bool false) _ rfl
          exact rpar_ret w.heap.size _ _ _ _ _ _ _ _ _ _ rfl rfl S7 ⟨by show _ = _; rw [HP.out]; rfl, zset7 hbelx⟩
        · have E0 := hp
          have HC := Lib.hid hcl
          have hsome : ∀ o, o < 7 → (wr.cell? ⟨w2.heap.size, o, none⟩).isSome = true := by
            intro o ho
            rw [HC.out o]
            simp [ho]
          have HSM := Lib.hid hsome
          rw [show (decide (p0 ≠ 0)) = true by simp [hp]] at hy
          subst hy
          clear hp hcell
          clear hsome
          go_wp2
          go_roundg (5 - 1)
          case measure => have := HG.out; omega
          case rel =>
            exact ⟨1, p0, x1, x2, x3, x4, ya, yb, rfl, by omega, cells_set hcl 0 (.int .u64 p0) (by simp), fun o => by simp only [World.frozen?_setCell]; exact hfz o, bset hb hq (a := ⟨w2.heap.size, 0, none⟩) _, by intro; exact ⟨rfl, E0⟩, by intro; exact hx1 (by omega), by intro; exact hx2 (by omega), by intro; exact hx3 (by omega), by intro; exact hx4 (by omega), by intro; first | rfl | exact hya (by omega), by intro; first | rfl | exact hyb (by omega), rfl⟩
      · skip
        have hcell : wr.cell? ⟨g, 1, none⟩ = some (.string b1) := (keep0 hb hgl _).trans c1
        go_wp2_with fail
        go_at_call 59
        refine (rfield_any b1 1 _ (by omega) (by omega)).mono ?_
        rintro y w4 ⟨hy, rfl⟩
        unfold RfPost at hy
        rw [show pfield b1.data.toList (loN 1) (hiN 1) = p1 from e1.out] at hy
        by_cases hp : p1 = 0
        · have HP : Hid (pres s = (zeroEx, 25)) := by show _ = _; exact pres_none s hs (by rw [HX.out, if_pos (by omega)])
          have hBx := fun o => (keep0 hb hz2 o).trans (HB.out o)
          have HFx := fun o => (keepF0 hb hz2 o).trans (HFr.out o)
          have hbelx := bthen HBL.out hb
          rw [show (decide (p1 ≠ 0)) = false by simp [hp]] at hy
          subst hy
          clear hp hcl hfz hb hcell
          go_wp2
          have S7 := set7_cells hBx (u0 := .int .u64 0) (u1 := .int .u64 0) (u2 := .int .u64 0) (u3 := .int .u64 0) (u4 := .int .u64 0) (u5 := .bool false) (u6 := .bool false) _ rfl
          exact rpar_ret w.heap.size _ _ _ _ _ _ _ _ _ _ rfl rfl S7 ⟨by show _ = _; rw [HP.out]; rfl, zset7 hbelx⟩
        · have E1 := hp
          have HC := Lib.hid hcl
          have hsome : ∀ o, o < 7 → (wr.cell? ⟨w2.heap.size, o, none⟩).isSome = true := by
            intro o ho
            rw [HC.out o]
            simp [ho]
          have HSM := Lib.hid hsome
          rw [show (decide (p1 ≠ 0)) = true by simp [hp]] at hy
          subst hy
          clear hp hcell
          clear hsome
          go_wp2
          go_roundg (5 - 2)
          case measure => have := HG.out; omega
          case rel =>
            exact ⟨2, x0, p1, x2, x3, x4, ya, yb, rfl, by omega, cells_set hcl 1 (.int .u64 p1) (by simp), fun o => by simp only [World.frozen?_setCell]; exact hfz o, bset hb hq (a := ⟨w2.heap.size, 1, none⟩) _, by intro; exact hx0 (by omega), by intro; exact ⟨rfl, E1⟩, by intro; exact hx2 (by omega), by intro; exact hx3 (by omega), by intro; exact hx4 (by omega), by intro; first | rfl | exact hya (by omega), by intro; first | rfl | exact hyb (by omega), rfl⟩
      · skip
        have hcell : wr.cell? ⟨g, 2, none⟩ = some (.string b2) := (keep0 hb hgl _).trans c2
        go_wp2_with fail
        go_at_call 59
        refine (rfield_any b2 2 _ (by omega) (by omega)).mono ?_
        rintro y w4 ⟨hy, rfl⟩
        unfold RfPost at hy
        rw [show pfield b2.data.toList (loN 2) (hiN 2) = p2 from e2.out] at hy
        by_cases hp : p2 = 0
        · have HP : Hid (pres s = (zeroEx, 25)) := by show _ = _; exact pres_none s hs (by rw [HX.out, if_pos (by omega)])
          have hBx := fun o => (keep0 hb hz2 o).trans (HB.out o)
          have HFx := fun o => (keepF0 hb hz2 o).trans (HFr.out o)
          have hbelx := bthen HBL.out hb
          rw [show (decide (p2 ≠ 0)) = false by simp [hp]] at hy
          subst hy
          clear hp hcl hfz hb hcell
          go_wp2
          have S7 := set7_cells hBx (u0 := .int .u64 0) (u1 := .int .u64 0) (u2 := .int .u64 0) (u3 := .int .u64 0) (u4 := .int .u64 0) (u5 := .bool false) (u6 := .bool false) _ rfl
          exact rpar_ret w.heap.size _ _ _ _ _ _ _ _ _ _ rfl rfl S7 ⟨by show _ = _; rw [HP.out]; rfl, zset7 hbelx⟩
        · have E2 := hp
          have HC := Lib.hid hcl
          have hsome : ∀ o, o < 7 → (wr.cell? ⟨w2.heap.size, o, none⟩).isSome = true := by
            intro o ho
            rw [HC.out o]
            simp [ho]
          have HSM := Lib.hid hsome
          rw [show (decide (p2 ≠ 0)) = true by simp [hp]] at hy
          subst hy
          clear hp hcell
          clear hsome
          go_wp2
          go_roundg (5 - 3)
          case measure => have := HG.out; omega
          case rel =>
            exact ⟨3, x0, x1, p2, x3, x4, (decide (b2.data.toList = [42])), yb, rfl, by omega, cells_set (cells_set hcl 2 (.int .u64 p2) (by simp)) 5 (.bool (decide (b2.data.toList = [42]))) (by simp), fun o => by simp only [World.frozen?_setCell]; exact hfz o, bset (bset hb hq (a := ⟨w2.heap.size, 2, none⟩) _) hq (a := ⟨w2.heap.size, 5, none⟩) _, by intro; exact hx0 (by omega), by intro; exact hx1 (by omega), by intro; exact ⟨rfl, E2⟩, by intro; exact hx3 (by omega), by intro; exact hx4 (by omega), by intro; first | rfl | exact hya (by omega), by intro; first | rfl | exact hyb (by omega), rfl⟩
      · skip
        have hcell : wr.cell? ⟨g, 3, none⟩ = some (.string b3) := (keep0 hb hgl _).trans c3
        go_wp2_with fail
        go_at_call 59
        refine (rfield_any b3 3 _ (by omega) (by omega)).mono ?_
        rintro y w4 ⟨hy, rfl⟩
        unfold RfPost at hy
        rw [show pfield b3.data.toList (loN 3) (hiN 3) = p3 from e3.out] at hy
        by_cases hp : p3 = 0
        · have HP : Hid (pres s = (zeroEx, 25)) := by show _ = _; exact pres_none s hs (by rw [HX.out, if_pos (by omega)])
          have hBx := fun o => (keep0 hb hz2 o).trans (HB.out o)
          have HFx := fun o => (keepF0 hb hz2 o).trans (HFr.out o)
          have hbelx := bthen HBL.out hb
          rw [show (decide (p3 ≠ 0)) = false by simp [hp]] at hy
          subst hy
          clear hp hcl hfz hb hcell
          go_wp2
          have S7 := set7_cells hBx (u0 := .int .u64 0) (u1 := .int .u64 0) (u2 := .int .u64 0) (u3 := .int .u64 0) (u4 := .int .u64 0) (u5 := .bool false) (u6 := .bool false) _ rfl
          exact rpar_ret w.heap.size _ _ _ _ _ _ _ _ _ _ rfl rfl S7 ⟨by show _ = _; rw [HP.out]; rfl, zset7 hbelx⟩
        · have E3 := hp
          have HC := Lib.hid hcl
          have hsome : ∀ o, o < 7 → (wr.cell? ⟨w2.heap.size, o, none⟩).isSome = true := by
            intro o ho
            rw [HC.out o]
            simp [ho]
          have HSM := Lib.hid hsome
          rw [show (decide (p3 ≠ 0)) = true by simp [hp]] at hy
          subst hy
          clear hp hcell
          clear hsome
          go_wp2
          go_roundg (5 - 4)
          case measure => have := HG.out; omega
          case rel =>
            exact ⟨4, x0, x1, x2, p3, x4, ya, yb, rfl, by omega, cells_set hcl 3 (.int .u64 p3) (by simp), fun o => by simp only [World.frozen?_setCell]; exact hfz o, bset hb hq (a := ⟨w2.heap.size, 3, none⟩) _, by intro; exact hx0 (by omega), by intro; exact hx1 (by omega), by intro; exact hx2 (by omega), by intro; exact ⟨rfl, E3⟩, by intro; exact hx4 (by omega), by intro; first | rfl | exact hya (by omega), by intro; first | rfl | exact hyb (by omega), rfl⟩
      · skip
        have hcell : wr.cell? ⟨g, 4, none⟩ = some (.string b4) := (keep0 hb hgl _).trans c4
        go_wp2_with fail
        go_at_call 59
        refine (rfield_any b4 4 _ (by omega) (by omega)).mono ?_
        rintro y w4 ⟨hy, rfl⟩
        unfold RfPost at hy
        rw [show pfield b4.data.toList (loN 4) (hiN 4) = p4 from e4.out] at hy
        by_cases hp : p4 = 0
        · have HP : Hid (pres s = (zeroEx, 25)) := by show _ = _; exact pres_none s hs (by rw [HX.out, if_pos (by omega)])
          have hBx := fun o => (keep0 hb hz2 o).trans (HB.out o)
          have HFx := fun o => (keepF0 hb hz2 o).trans (HFr.out o)
          have hbelx := bthen HBL.out hb
          rw [show (decide (p4 ≠ 0)) = false by simp [hp]] at hy
          subst hy
          clear hp hcl hfz hb hcell
          go_wp2
          have S7 := set7_cells hBx (u0 := .int .u64 0) (u1 := .int .u64 0) (u2 := .int .u64 0) (u3 := .int .u64 0) (u4 := .int .u64 0) (u5 := .bool false) (u6 := .bool false) _ rfl
          exact rpar_ret w.heap.size _ _ _ _ _ _ _ _ _ _ rfl rfl S7 ⟨by show _ = _; rw [HP.out]; rfl, zset7 hbelx⟩
        · have E4 := hp
          have HC := Lib.hid hcl
          have hsome : ∀ o, o < 7 → (wr.cell? ⟨w2.heap.size, o, none⟩).isSome = true := by
            intro o ho
            rw [HC.out o]
            simp [ho]
          have HSM := Lib.hid hsome
          rw [show (decide (p4 ≠ 0)) = true by simp [hp]] at hy
          subst hy
          clear hp hcell
          clear hsome
          go_wp2
          go_roundg (5 - 5)
          case measure => have := HG.out; omega
          case rel =>
            exact ⟨5, x0, x1, x2, x3, p4, ya, (decide (b4.data.toList = [42])), rfl, by omega, cells_set (cells_set hcl 4 (.int .u64 p4) (by simp)) 6 (.bool (decide (b4.data.toList = [42]))) (by simp), fun o => by simp only [World.frozen?_setCell]; exact hfz o, bset (bset hb hq (a := ⟨w2.heap.size, 4, none⟩) _) hq (a := ⟨w2.heap.size, 6, none⟩) _, by intro; exact hx0 (by omega), by intro; exact hx1 (by omega), by intro; exact hx2 (by omega), by intro; exact hx3 (by omega), by intro; exact ⟨rfl, E4⟩, by intro; first | rfl | exact hya (by omega), by intro; first | rfl | exact hyb (by omega), rfl⟩
      · obtain ⟨rfl, k0⟩ := hx0 (by omega)
        obtain ⟨rfl, k1⟩ := hx1 (by omega)
        obtain ⟨rfl, k2⟩ := hx2 (by omega)
        obtain ⟨rfl, k3⟩ := hx3 (by omega)
        obtain ⟨rfl, k4⟩ := hx4 (by omega)
        have HYA := Lib.hid (hya (by omega))
        have HYB := Lib.hid (hyb (by omega))
        have HP : Hid (pres s = (⟨x0, x1, x2, x3, x4, ya, yb⟩, 0)) := by show _ = _; exact pres_some s _ hs (by rw [HX.out, if_neg (by omega), HYA.out, HYB.out])
        have hBx := fun o => (keep0 hb hz2 o).trans (HB.out o)
        have HFx := fun o => (keepF0 hb hz2 o).trans (HFr.out o)
        have hbelx := bthen HBL.out hb
        have d0 := hcl 0
        have d1 := hcl 1
        have d2 := hcl 2
        have d3 := hcl 3
        have d4 := hcl 4
        have d5 := hcl 5
        have d6 := hcl 6
        simp at d0 d1 d2 d3 d4 d5 d6
        clear hcl hfz hb hx0 hx1 hx2 hx3 hx4 hya hyb k0 k1 k2 k3 k4
        go_wp2
        have S7 := set7_cells hBx (u0 := .int .u64 x0) (u1 := .int .u64 x1) (u2 := .int .u64 x2) (u3 := .int .u64 x3) (u4 := .int .u64 x4) (u5 := .bool ya) (u6 := .bool yb) _ rfl
        exact rpar_ret w.heap.size _ _ _ _ _ _ _ _ _ _ rfl rfl S7 ⟨by show _ = _; rw [HP.out]; rfl, zset7 hbelx⟩
set_option maxRecDepth 100000 in
theorem rparse_any (s : ByteArray) (w : World) (hs : s.size ≤ 9223372036854775807) :
    Calls Tryd.prog 17 #[.string s] w fun e w' => ParPost s e ∧ Below w.heap.size w w' := by
  by_cases h : s.size ≤ 100
  · exact rparse_short s w h
  · have HP : Hid (pres s = (zeroEx, 5)) := by show _ = _; rw [pres, if_pos (by omega)]
    have h1 : (100 : Int) < (s.size : Int) := by omega
    go_enter Tryd.func17, Tryd.ntmps17
    go_wp2
    exact rpar_ret w.heap.size _ _ _ _ _ _ _ _ _ _ rfl rfl ⟨alloc_new _ _ _ 0, alloc_new _ _ _ 1, alloc_new _ _ _ 2, alloc_new _ _ _ 3, alloc_new _ _ _ 4, alloc_new _ _ _ 5, alloc_new _ _ _ 6⟩ ⟨by show _ = _; rw [HP.out]; rfl, (Below.refl _ _).alloc (Nat.le_refl _) _⟩
end Go.Proofs.YtdpaiaeaamokeaaDoor.Cron
