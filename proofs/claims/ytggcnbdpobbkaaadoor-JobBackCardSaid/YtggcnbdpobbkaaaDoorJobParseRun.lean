/- The contract of job.ParseRun. -/
import Derived.Test.YtggcnbdpobbkaaaDoorJobRun
namespace Go.Proofs.YtggcnbdpobbkaaaDoor.Job
open Go.RowKit Go Go.Proofs.YtggcnbdpobbkaaaDoor.Cron Go.Proofs.YtggcnbdpobbkaaaDoor.Cal

/-- A run's text says these. -/
def RunIs (N : ByteArray) (R : List UInt8) (a b c : Int) : Prop := told R = some [a, b, c] ∧ nameB N = true ∧ (-1035593280 ≤ a ∧ a ≤ 4223371679) ∧ (0 ≤ b ∧ b ≤ 3) ∧ 0 ≤ c ∧ c ≤ 1073741823
def cutN (s : ByteArray) : ByteArray := ⟨(cut1 32 s.data.toList).1.toArray⟩
def cutR (s : ByteArray) : List UInt8 := (cut1 32 s.data.toList).2.1
def PrunPost (s : ByteArray) (x : Ending) : Prop :=
  (∃ a b c, RunIs (cutN s) (cutR s) a b c ∧ x = .returned (.tuple #[runV (cutN s) a b c, .int .i64 0])) ∨ ((¬ ∃ a b c, RunIs (cutN s) (cutR s) a b c) ∧ x = .returned (.tuple #[runV ⟨#[]⟩ 0 0 0, .int .i64 11]))
theorem cut32 (s : ByteArray) (w : World) (hm : MaxOk w) (hs : s.size < 4294967281) :
    Calls Tryd.prog 80 #[.string s, .string ⟨#[32]⟩] w fun e w' => e = .returned (.tuple #[.string (cutN s), .string ⟨(cutR s).toArray⟩, .bool (cut1 32 s.data.toList).2.2]) ∧ Below w.heap.size w w' := by
  obtain ⟨m, hm⟩ := hm
  refine (Tryd.strings_Cut s ⟨#[32]⟩ m w hs hm).mono ?_
  rintro e w' ⟨he, k, rfl⟩
  have ec : Lib.cut s.data.toList (⟨#[32]⟩ : ByteArray).data.toList = cut1 32 s.data.toList := cut_one 32 s.data.toList
  rw [ec] at he
  exact ⟨he, below_drewN (Below.refl _ _) _⟩
theorem set4_cells {w3 : World} {q : Nat} {z0 z1 z2 z3 u0 u1 u2 u3 : Value} (hN : ∀ o, w3.cell? ⟨q, o, none⟩ = (#[z0, z1, z2, z3] : Array Value)[o]?) :
    ∀ w4, w4 = (World.setCell (World.setCell (World.setCell (World.setCell w3 ⟨q, 0, none⟩ u0) ⟨q, 1, none⟩ u1) ⟨q, 2, none⟩ u2) ⟨q, 3, none⟩ u3) →
    w4.cell? ⟨q, 0, none⟩ = some u0 ∧ w4.cell? ⟨q, 1, none⟩ = some u1 ∧ w4.cell? ⟨q, 2, none⟩ = some u2 ∧ w4.cell? ⟨q, 3, none⟩ = some u3 := by
  rintro w4 rfl
  have hss := isSome_setCell
  have hcs := cell_same
  have hne : ∀ (W : World) (i j : Nat) (v : Value), i ≠ j → (W.setCell ⟨q, i, none⟩ v).cell? ⟨q, j, none⟩ = W.cell? ⟨q, j, none⟩ := fun W i j v h => by
    apply World.cell?_setCell_other
    simp [h]
  refine ⟨?_, ?_, ?_, ?_⟩
  all_goals
    repeat rw [hne _ _ _ _ (by decide)]
    rw [hcs]
    simp only [hss, hN]
    rfl
theorem set4_alloc {w3 : World} {q : Nat} {z0 z1 z2 z3 u0 u1 u2 u3 : Value} (hN : ∀ o, w3.cell? ⟨q, o, none⟩ = (#[z0, z1, z2, z3] : Array Value)[o]?) (hq : q < w3.heap.size) (x : Obj) :
    ∀ w4, w4 = (World.setCell (World.setCell (World.setCell (World.setCell w3 ⟨q, 0, none⟩ u0) ⟨q, 1, none⟩ u1) ⟨q, 2, none⟩ u2) ⟨q, 3, none⟩ u3).alloc x →
    w4.cell? ⟨q, 0, none⟩ = some u0 ∧ w4.cell? ⟨q, 1, none⟩ = some u1 ∧ w4.cell? ⟨q, 2, none⟩ = some u2 ∧ w4.cell? ⟨q, 3, none⟩ = some u3 := by
  rintro w4 rfl
  obtain ⟨a, b, c, d⟩ := set4_cells (u0 := u0) (u1 := u1) (u2 := u2) (u3 := u3) hN _ rfl
  have hs : q < (World.setCell (World.setCell (World.setCell (World.setCell w3 ⟨q, 0, none⟩ u0) ⟨q, 1, none⟩ u1) ⟨q, 2, none⟩ u2) ⟨q, 3, none⟩ u3).heap.size := by
    simp [World.setCell]; exact hq
  exact ⟨(alloc_old _ x hs 0).trans a, (alloc_old _ x hs 1).trans b, (alloc_old _ x hs 2).trans c, (alloc_old _ x hs 3).trans d⟩
theorem zset4 {W w3 : World} {z0 z1 z2 z3 : Value} (h : Below W.heap.size W w3) :
    Below W.heap.size W (World.setCell (World.setCell (World.setCell (World.setCell w3 ⟨W.heap.size, 0, none⟩ z0) ⟨W.heap.size, 1, none⟩ z1) ⟨W.heap.size, 2, none⟩ z2) ⟨W.heap.size, 3, none⟩ z3) :=
  bset (bset (bset (bset h (Nat.le_refl _) _) (Nat.le_refl _) _) (Nat.le_refl _) _) (Nat.le_refl _) _
theorem run_ret (b : Nat) (tmps : Array Value) (wf : World) (u0 u1 u2 u3 : Value) (n : Int) {post : Ending → World → Prop} (h2 : tmps[2]?.getD undef = .pointer (some ⟨b, 0, none⟩)) (h3 : tmps[3]?.getD undef = .int .i64 n)
    (S4 : wf.cell? ⟨b, 0, none⟩ = some u0 ∧ wf.cell? ⟨b, 1, none⟩ = some u1 ∧ wf.cell? ⟨b, 2, none⟩ = some u2 ∧ wf.cell? ⟨b, 3, none⟩ = some u3)
    (hp : post (.returned (.tuple #[.agg #[u0, u1, u2, u3], .int .i64 n])) wf) : bodyPost Tryd.prog Tryd.f37 post .ret ⟨tmps, []⟩ wf := by
  obtain ⟨s0, s1, s2, s3⟩ := S4
  exact bodyPost_ret (v := .tuple #[.agg #[u0, u1, u2, u3], .int .i64 n]) (by simp [results, Tryd.results37, go_sem, h2, h3, s0, s1, s2, s3]) rfl hp

set_option maxHeartbeats 4000000 in
set_option maxRecDepth 100000 in
theorem parserun_any (s : ByteArray) (w : World) (hm : MaxOk w) (hs : s.size ≤ 1000000) :
    Calls Tryd.prog 37 #[.string s] w fun x w' => PrunPost s x ∧ Below w.heap.size w w' := by
  have hcl := cut1_le 32 s.data.toList
  have hsl : s.data.toList.length = s.size := by rw [Array.length_toList]; rfl
  obtain ⟨N, hN⟩ : ∃ N, cutN s = N := ⟨_, rfl⟩
  obtain ⟨R, hR⟩ : ∃ R : ByteArray, (⟨(cutR s).toArray⟩ : ByteArray) = R := ⟨_, rfl⟩
  have hRl : R.data.toList = cutR s := by rw [← hR]
  have hNz : N.size ≤ 1000000 := by rw [← hN]; show (cut1 32 s.data.toList).1.toArray.size ≤ _; simp; omega
  have hRz : R.size ≤ 1000000 := by rw [← hR]; show (cut1 32 s.data.toList).2.1.toArray.size ≤ _; simp; omega
  obtain ⟨cb, hcb⟩ : ∃ cb, (cut1 32 s.data.toList).2.2 = cb := ⟨_, rfl⟩
  have HN := Lib.hid hN
  have HR := Lib.hid hR
  have HRL := Lib.hid hRl
  have HCB := Lib.hid hcb
  clear hcl hN hR hRl hcb
  have hBAD : Hid ((¬ ∃ a b c, RunIs N R.data.toList a b c) → PrunPost s (.returned (.tuple #[runV ⟨#[]⟩ 0 0 0, .int .i64 11]))) := by
    intro h
    refine .inr ⟨?_, rfl⟩
    rw [HN.out, ← HRL.out]; exact h
  have hGOOD : Hid (∀ a b c, RunIs N R.data.toList a b c → PrunPost s (.returned (.tuple #[runV N a b c, .int .i64 0]))) := by
    intro a b c h
    refine .inl ⟨a, b, c, ?_, ?_⟩
    · rw [HN.out, ← HRL.out]; exact h
    · rw [HN.out]
  go_enter Tryd.func37, Tryd.ntmps37
  go_wp2_with fail
  go_at_call 80
  refine (cut32 s _ (hm.below (bmore (Below.refl _ _) _)) (by omega)).mono ?_
  rw [HN.out, HR.out, HCB.out]
  rintro x w1 ⟨rfl, hb1⟩
  have hB1 := keepN hb1
  have hF1 := keepF hb1
  have hz1 := size1 hb1
  have hbel1 : Below w.heap.size w w1 := bthen (bmore (Below.refl _ _) _) hb1
  clear hb1
  go_wp2_with fail
  go_at_call 20
  refine (told_any R _ (hm.below hbel1) hRz).mono ?_
  obtain ⟨o, ho⟩ : ∃ o, told R.data.toList = o := ⟨_, rfl⟩
  rw [ho]
  have HO := Lib.hid ho
  clear ho
  rintro x w2 ⟨hx, hb2⟩
  have hB2 := fun o => (keep0 hb2 hz1 o).trans (hB1 o)
  have hF2 := fun o => (keepF0 hb2 hz1 o).trans (hF1 o)
  have hz2 := Nat.lt_of_lt_of_le hz1 hb2.size
  have hbel2 := bthen hbel1 hb2
  clear hb2 hbel1 hB1 hF1 hz1
  have hsS := isSome_setCell
  have hsC := cell_same
  have hsT := setCell_twice
  cases o with
  | none =>
    have HP := Lib.hid (hBAD.out (by rintro ⟨a, b, c, h, -⟩; rw [HO.out] at h; cases h))
    obtain rfl : x = _ := hx
    go_wp2
    have S4 := set4_cells hB2 (u0 := .string ⟨#[]⟩) (u1 := .int .i64 0) (u2 := .int .i64 0) (u3 := .int .i64 0) _ rfl
    exact run_ret w.heap.size _ _ _ _ _ _ _ rfl rfl S4 ⟨HP.out, zset4 hbel2⟩
  | some ns =>
    obtain ⟨v, rfl, hown⟩ : ∃ v, x = .returned (.tuple #[v, .int .i64 0]) ∧ w2.ownsRow w1.heap.size 3 1 v ns.length (ns.map (Value.int .i64)) := hx
    by_cases h3 : ns.length = 3
    case neg =>
      have HP := Lib.hid (hBAD.out (by rintro ⟨a, b, c, h, -⟩; rw [HO.out] at h; have := Option.some.inj h; rw [this] at h3; exact h3 rfl))
      have h3i : ((ns.length : Int) == 3) = false := by simp; omega
      rcases hown.2 with ⟨rfl, hz⟩ | ⟨g, cap, cur, rfl, -⟩
      · clear hown
        go_wp2
        have S4 := set4_cells hB2 (u0 := .string ⟨#[]⟩) (u1 := .int .i64 0) (u2 := .int .i64 0) (u3 := .int .i64 0) _ rfl
        exact run_ret w.heap.size _ _ _ _ _ _ _ rfl rfl S4 ⟨HP.out, zset4 hbel2⟩
      · clear hown
        generalize ns.length = n at *
        go_wp2
        have S4 := set4_cells hB2 (u0 := .string ⟨#[]⟩) (u1 := .int .i64 0) (u2 := .int .i64 0) (u3 := .int .i64 0) _ rfl
        exact run_ret w.heap.size _ _ _ _ _ _ _ rfl rfl S4 ⟨HP.out, zset4 hbel2⟩
    case pos =>
    match ns, h3, hown, HO with
    | [a, b, c], _, hown, HO =>
      obtain ⟨g, cap, rfl, hgB, hgl⟩ := hown.form (by simp)
      have c0 : w2.cell? ⟨g, 0, none⟩ = some (.int .i64 a) := hown.cellAt 0 (by simp)
      have c1 : w2.cell? ⟨g, 1, none⟩ = some (.int .i64 b) := hown.cellAt 1 (by simp)
      have c2 : w2.cell? ⟨g, 2, none⟩ = some (.int .i64 c) := hown.cellAt 2 (by simp)
      clear hown
      simp only [List.length_cons, List.length_nil]
      obtain ⟨nb, hnb⟩ : ∃ nb, nameB N = nb := ⟨_, rfl⟩
      have HNB := Lib.hid hnb
      clear hnb
      go_wp2_with fail
      go_at_call 19
      refine (name_any N _ (by omega)).mono ?_
      rw [HNB.out]
      rintro x w3 ⟨rfl, hb3⟩
      have hB3 := fun o => (keep0 hb3 hz2 o).trans (hB2 o)
      have hF3 := fun o => (keepF0 hb3 hz2 o).trans (hF2 o)
      have d0 := (keep0 hb3 hgl 0).trans c0
      have d1 := (keep0 hb3 hgl 1).trans c1
      have d2 := (keep0 hb3 hgl 2).trans c2
      have hz3 := Nat.lt_of_lt_of_le hz2 hb3.size
      have hgl3 := Nat.lt_of_lt_of_le hgl hb3.size
      have hbel3 := bthen hbel2 hb3
      clear hb3 hbel2 hB2 hF2 hz2 c0 c1 c2 hgl
      cases nb with
      | false =>
        have HP := Lib.hid (hBAD.out (by rintro ⟨a, b, c, -, h, -⟩; rw [HNB.out] at h; cases h))
        go_wp2
        have S4 := set4_cells hB3 (u0 := .string ⟨#[]⟩) (u1 := .int .i64 0) (u2 := .int .i64 0) (u3 := .int .i64 0) _ rfl
        exact run_ret w.heap.size _ _ _ _ _ _ _ rfl rfl S4 ⟨HP.out, zset4 hbel3⟩
      | true =>
        have hbs : Below w3.heap.size w3 w3 := Below.refl _ _
        go_upto_region 5 with fail
        go_cut [9] (fun s9 wx => ∃ q, s9 = .pointer (some ⟨q, 0, none⟩) ∧ w3.heap.size ≤ q ∧ q < wx.heap.size ∧ Below w3.heap.size w3 wx ∧ ∀ o, wx.cell? ⟨q, o, none⟩ = (#[.string N, .int .i64 a, .int .i64 b, .int .i64 c] : Array Value)[o]?)
        case first =>
          go_region
          all_goals (
            go_wp2_with fail
            go_meet
            first
              | exact ⟨_, rfl, Nat.le_refl _, by simp, (bmore hbs _).drew, alloc_newD _ _ _⟩
              | exact ⟨_, rfl, Nat.le_refl _, by simp, bmore hbs _, alloc_new _ _ _⟩
              | trace_state)
        case rest =>
          obtain ⟨q, rfl, hq, hql, hbx, hcx⟩ := hcut
          have hB4 := fun o => (keep0 hbx hz3 o).trans (hB3 o)
          have hF4 := fun o => (keepF0 hbx hz3 o).trans (hF3 o)
          have hz4 := Nat.lt_of_lt_of_le hz3 hbx.size
          have hbel4 := bthen hbel3 hbx
          clear hbx hbel3 hB3 hF3 hz3 d0 d1 d2 hgl3 hbs
          by_cases hra : a < -1035593280 ∨ 4223371679 < a
          · have HP := Lib.hid (hBAD.out (by rintro ⟨a', b', c', h, -, h1, h2, h3⟩; rw [HO.out] at h; simp only [Option.some.injEq, List.cons.injEq] at h; omega))
            go_wp2_with fail
            go_at_call 32
            refine (of_out a _ hra).mono ?_
            rintro x w5 ⟨rfl, hb5⟩
            have hB5 := fun o => (keep0 hb5 hz4 o).trans (hB4 o)
            have hF5 := fun o => (keepF0 hb5 hz4 o).trans (hF4 o)
            have hz5 := Nat.lt_of_lt_of_le hz4 hb5.size
            have hbel5 := bthen hbel4 hb5
            clear hb5 hbel4 hB4 hF4 hz4 hcx
            go_wp2
            exact run_ret w.heap.size _ _ (.string ⟨#[]⟩) (.int .i64 0) (.int .i64 0) (.int .i64 0) _ rfl rfl (set4_alloc hB5 hz5 _ _ rfl) ⟨HP.out, bmore (zset4 hbel5) _⟩
          · go_wp2_with fail
            go_at_call 32
            refine (of_in a _ _ _ _ (by omega) (by omega) rfl rfl rfl).mono ?_
            rintro x w5 ⟨⟨y, m, d, rfl, hd⟩, hb5⟩
            have hB5 := fun o => (keep0 hb5 hz4 o).trans (hB4 o)
            have hF5 := fun o => (keepF0 hb5 hz4 o).trans (hF4 o)
            have hc5 := fun o => (keep0 hb5 hql o).trans (hcx o)
            have hz5 := Nat.lt_of_lt_of_le hz4 hb5.size
            have hql5 := Nat.lt_of_lt_of_le hql hb5.size
            have hbel5 := bthen hbel4 hb5
            clear hb5 hbel4 hB4 hF4 hz4 hcx hd
            by_cases k1 : b < 0
            · have HP := Lib.hid (hBAD.out (by rintro ⟨a', b', c', h, -, h1, h2, h3⟩; rw [HO.out] at h; simp only [Option.some.injEq, List.cons.injEq] at h; omega))
              go_wp2
              exact run_ret w.heap.size _ _ (.string ⟨#[]⟩) (.int .i64 0) (.int .i64 0) (.int .i64 0) _ rfl rfl (set4_alloc hB5 hz5 _ _ rfl) ⟨HP.out, bmore (zset4 hbel5) _⟩
            · by_cases k2 : 3 < b
              · have HP := Lib.hid (hBAD.out (by rintro ⟨a', b', c', h, -, h1, h2, h3⟩; rw [HO.out] at h; simp only [Option.some.injEq, List.cons.injEq] at h; omega))
                go_wp2
                exact run_ret w.heap.size _ _ (.string ⟨#[]⟩) (.int .i64 0) (.int .i64 0) (.int .i64 0) _ rfl rfl (set4_alloc hB5 hz5 _ _ rfl) ⟨HP.out, bmore (zset4 hbel5) _⟩
              · by_cases k3 : c < 0
                · have HP := Lib.hid (hBAD.out (by rintro ⟨a', b', c', h, -, h1, h2, h3⟩; rw [HO.out] at h; simp only [Option.some.injEq, List.cons.injEq] at h; omega))
                  go_wp2
                  exact run_ret w.heap.size _ _ (.string ⟨#[]⟩) (.int .i64 0) (.int .i64 0) (.int .i64 0) _ rfl rfl (set4_alloc hB5 hz5 _ _ rfl) ⟨HP.out, bmore (zset4 hbel5) _⟩
                · by_cases k4 : 1073741823 < c
                  · have HP := Lib.hid (hBAD.out (by rintro ⟨a', b', c', h, -, h1, h2, h3⟩; rw [HO.out] at h; simp only [Option.some.injEq, List.cons.injEq] at h; omega))
                    go_wp2
                    exact run_ret w.heap.size _ _ (.string ⟨#[]⟩) (.int .i64 0) (.int .i64 0) (.int .i64 0) _ rfl rfl (set4_alloc hB5 hz5 _ _ rfl) ⟨HP.out, bmore (zset4 hbel5) _⟩
                  · have HP := Lib.hid (hGOOD.out a b c ⟨HO.out, HNB.out, by omega, by omega, by omega⟩)
                    go_wp2
                    exact run_ret w.heap.size _ _ (.string N) (.int .i64 a) (.int .i64 b) (.int .i64 c) _ rfl rfl (set4_alloc hB5 hz5 _ _ rfl) ⟨HP.out, bmore (zset4 hbel5) _⟩
end Go.Proofs.YtggcnbdpobbkaaaDoor.Job
