/- The contract of job.Parse. -/
import Derived.Test.YtdpaiaeaamokeaaDoorJobChk
import Derived.Test.YtdpaiaeaamokeaaDoorRefNextP
import Derived.BigQuiet
import Derived.Deep.RegionHeld3
namespace Go.Proofs.YtdpaiaeaamokeaaDoor.Job
open Go.RowKit Go Go.Proofs.YtdpaiaeaamokeaaDoor.Cron

theorem splitK_sp : ∀ (k : Nat) (l : List UInt8), Lib.splitK [32] 0 k l = sp k [] l
  | 0, l => by rw [sp_zero, Lib.splitK]; rfl
  | k + 1, l => by
    rw [sp_cut, ← cut_one, Lib.splitK]
    unfold Lib.cut
    have hge := Lib.index_ge l [32]
    by_cases h : Lib.index l [32] = -1
    · simp [h]
    · have hp : 0 ≤ Lib.index l [32] := by omega
      simp [h, hp, splitK_sp k]
theorem splitB_sp (k : Nat) (s : ByteArray) : (Lib.splitB ⟨#[32]⟩ 0 k s).map (·.data.toList) = sp k [] s.data.toList := by
  rw [Lib.splitB_data]; exact splitK_sp k _
theorem sp_len : ∀ (l : List UInt8) (m : Nat) (cur : List UInt8), (sp m cur l).length ≤ m + 1
  | [], m, cur => by rw [sp_nil]; simp
  | c :: l, 0, cur => by rw [sp_zero]; simp
  | c :: l, m + 1, cur => by
    by_cases h : c = 32
    · subst h
      rw [sp_blank _ _ _ (by omega), List.length_cons]
      have := sp_len l m []
      simpa using this
    · rw [sp_other _ _ _ _ (by omega) h]
      exact sp_len l (m + 1) (cur ++ [c])
theorem sp_min (k : Nat) (s : ByteArray) : sp (min (k + 1) (s.size + 1) - 1) [] s.data.toList = sp k [] s.data.toList := by
  have hl : s.data.toList.length = s.size := by rw [Array.length_toList]; rfl
  by_cases h : k ≤ s.size
  · rw [show min (k + 1) (s.size + 1) - 1 = k by omega]
  · rw [sp_pieces _ _ (by omega), sp_pieces _ _ (by omega)]
theorem sp_sizes : ∀ (l : List UInt8) (m : Nat) (cur p : List UInt8), p ∈ sp m cur l → p.length ≤ cur.length + l.length
  | [], m, cur, p, h => by rw [sp_nil] at h; simp at h; subst h; simp
  | c :: l, 0, cur, p, h => by rw [sp_zero] at h; simp at h; subst h; simp
  | c :: l, m + 1, cur, p, h => by
    by_cases hc : c = 32
    · subst hc
      rw [sp_blank _ _ _ (by omega)] at h
      rcases List.mem_cons.1 h with rfl | h
      · omega
      · have := sp_sizes l m [] p (by simpa using h)
        simp at this ⊢; omega
    · rw [sp_other _ _ _ _ (by omega) hc] at h
      have := sp_sizes l (m + 1) (cur ++ [c]) p h
      simp at this ⊢; omega
theorem cellsOf_at (bs : List ByteArray) (N i : Nat) (h : i < bs.length) : (Lib.cellsOf bs N)[i]? = some (.string bs[i]) := by
  unfold Lib.cellsOf
  rw [List.getElem?_toArray, List.getElem?_append_left (by simpa using h)]
  simp [h]
theorem jk_keep {g q : Nat} {v0 v5 m0 m1 m2 m3 : Value} {W w' : World} (c0 : W.cell? ⟨g, 0, none⟩ = some v0) (c5 : W.cell? ⟨g, 5, none⟩ = some v5) (d0 : W.cell? ⟨q, 0, none⟩ = some m0) (d1 : W.cell? ⟨q, 1, none⟩ = some m1) (d2 : W.cell? ⟨q, 2, none⟩ = some m2) (d3 : W.cell? ⟨q, 3, none⟩ = some m3)
    (hg : g < W.heap.size) (hq : q < W.heap.size) (h : Below W.heap.size W w') :
    w'.cell? ⟨g, 0, none⟩ = some v0 ∧ w'.cell? ⟨g, 5, none⟩ = some v5 ∧ w'.cell? ⟨q, 0, none⟩ = some m0 ∧ w'.cell? ⟨q, 1, none⟩ = some m1 ∧ w'.cell? ⟨q, 2, none⟩ = some m2 ∧ w'.cell? ⟨q, 3, none⟩ = some m3 ∧ Below W.heap.size W w' :=
  ⟨(keep0 h hg _).trans c0, (keep0 h hg _).trans c5, (keep0 h hq _).trans d0, (keep0 h hq _).trans d1, (keep0 h hq _).trans d2, (keep0 h hq _).trans d3, h⟩
theorem bset6 {W w3 : World} {q : Nat} {z0 z1 z2 z3 z4 z5 : Value} (h : Below W.heap.size W w3) (hq : W.heap.size ≤ q) :
    Below W.heap.size W (World.setCell (World.setCell (World.setCell (World.setCell (World.setCell (World.setCell w3 ⟨q, 0, none⟩ z0) ⟨q, 1, none⟩ z1) ⟨q, 2, none⟩ z2) ⟨q, 3, none⟩ z3) ⟨q, 4, none⟩ z4) ⟨q, 5, none⟩ z5) :=
  bset (bset (bset (bset (bset (bset h hq _) hq _) hq _) hq _) hq _) hq _
theorem zset6 {W w3 : World} {z0 z1 z2 z3 z4 z5 : Value} (h : Below W.heap.size W w3) :
    Below W.heap.size W (World.setCell (World.setCell (World.setCell (World.setCell (World.setCell (World.setCell w3 ⟨W.heap.size, 0, none⟩ z0) ⟨W.heap.size, 1, none⟩ z1) ⟨W.heap.size, 2, none⟩ z2) ⟨W.heap.size, 3, none⟩ z3) ⟨W.heap.size, 4, none⟩ z4) ⟨W.heap.size, 5, none⟩ z5) :=
  bset (bset (bset (bset (bset (bset h (Nat.le_refl _) _) (Nat.le_refl _) _) (Nat.le_refl _) _) (Nat.le_refl _) _) (Nat.le_refl _) _) (Nat.le_refl _) _
theorem jp_ret (b : Nat) (tmps : Array Value) (wf : World) (u0 u1 u2 u3 u4 u5 : Value) (n : Int) {post : Ending → World → Prop} (h2 : tmps[2]?.getD undef = .pointer (some ⟨b, 0, none⟩)) (h3 : tmps[3]?.getD undef = .int .i64 n)
    (S6 : ∀ o, wf.cell? ⟨b, o, none⟩ = (#[u0, u1, u2, u3, u4, u5] : Array Value)[o]?)
    (hp : post (.returned (.tuple #[.agg #[u0, u1, u2, u3, u4, u5], .int .i64 n])) wf) : bodyPost Tryd.prog Tryd.f32 post .ret ⟨tmps, []⟩ wf := by
  have s0 := S6 0
  have s1 := S6 1
  have s2 := S6 2
  have s3 := S6 3
  have s4 := S6 4
  have s5 := S6 5
  simp at s0 s1 s2 s3 s4 s5
  exact bodyPost_ret (v := .tuple #[.agg #[u0, u1, u2, u3, u4, u5], .int .i64 n]) (by simp [results, Tryd.results32, go_sem, h2, h3, s0, s1, s2, s3, s4, s5]) rfl hp

set_option maxHeartbeats 4000000 in
set_option maxRecDepth 100000 in
theorem jparse_any (s : ByteArray) (w : World) (hL : Laid w) (hP : Pow w) (hs : s.size ≤ 1000000) :
    Calls Tryd.prog 32 #[.string s] w fun x w' => JobPost s x ∧ Below w.heap.size w w' := by
  have hsl : s.data.toList.length = s.size := by rw [Array.length_toList]; rfl
  obtain ⟨bs, hbs⟩ : ∃ bs, Lib.splitB ⟨#[32]⟩ 0 (min 6 (s.size + 1) - 1) s = bs := ⟨_, rfl⟩
  have hpc : bs.map (·.data.toList) = sp 5 [] s.data.toList := by rw [← hbs, splitB_sp, sp_min 5]
  have hbl : bs.length ≤ 6 := by
    have := sp_len s.data.toList 5 []
    rw [← hpc] at this; simpa using this
  have hbz : ∀ b ∈ bs, b.size ≤ s.size := by
    intro b hb
    have := sp_sizes s.data.toList 5 [] b.data.toList (by rw [← hpc]; exact List.mem_map.2 ⟨b, hb, rfl⟩)
    have h2 : b.data.toList.length = b.size := by rw [Array.length_toList]; rfl
    simp at this
    omega
  have HBS := Lib.hid hbs
  have HSP0 := Lib.hid hpc
  have HBZ := Lib.hid hbz
  clear hbs hpc hbz
  obtain ⟨mx, hmx⟩ := (hL.below (bmore (Below.refl w.heap.size w) (.cells #[.string ⟨#[]⟩, .string ⟨#[]⟩, .int .i64 0, .int .i64 0, .int .i64 0, .bool false] 64))).max
  go_enter Tryd.func32, Tryd.ntmps32
  go_wp2_with fail
  go_at_call 72
  refine (Tryd.strings_SplitN s ⟨#[32]⟩ 6 mx _ (by omega) hmx (by decide) (by omega) (by omega)).mono ?_
  rw [HBS.out]
  rintro e w1 ⟨rfl, rfl⟩
  have hzs : (w.alloc (.cells #[.string ⟨#[]⟩, .string ⟨#[]⟩, .int .i64 0, .int .i64 0, .int .i64 0, .bool false] 64)).heap.size = w.heap.size + 1 := by simp
  have hB := fun o => (alloc_old (w.alloc (.cells #[.string ⟨#[]⟩, .string ⟨#[]⟩, .int .i64 0, .int .i64 0, .int .i64 0, .bool false] 64)) (.cells (Lib.cellsOf bs (min 6 (s.size + 1))) 9) (by rw [hzs]; omega) o).trans (alloc_new w #[.string ⟨#[]⟩, .string ⟨#[]⟩, .int .i64 0, .int .i64 0, .int .i64 0, .bool false] 64 o)
  have hF : ∀ o, ((w.alloc (.cells #[.string ⟨#[]⟩, .string ⟨#[]⟩, .int .i64 0, .int .i64 0, .int .i64 0, .bool false] 64)).alloc (.cells (Lib.cellsOf bs (min 6 (s.size + 1))) 9)).frozen? ⟨w.heap.size, o, none⟩ = false := fun o => (keepF0 (bmore (Below.refl _ _) _) (by rw [hzs]; omega) o).trans (World.frozen?_alloc_at _ _ _ o rfl)
  have hS := alloc_new (w.alloc (.cells #[.string ⟨#[]⟩, .string ⟨#[]⟩, .int .i64 0, .int .i64 0, .int .i64 0, .bool false] 64)) (Lib.cellsOf bs (min 6 (s.size + 1))) 9
  rw [hzs] at hS
  have hbel := bmore (bmore (Below.refl w.heap.size w) (.cells #[.string ⟨#[]⟩, .string ⟨#[]⟩, .int .i64 0, .int .i64 0, .int .i64 0, .bool false] 64)) (.cells (Lib.cellsOf bs (min 6 (s.size + 1))) 9)
  have hz1 : w.heap.size + 1 < ((w.alloc (.cells #[.string ⟨#[]⟩, .string ⟨#[]⟩, .int .i64 0, .int .i64 0, .int .i64 0, .bool false] 64)).alloc (.cells (Lib.cellsOf bs (min 6 (s.size + 1))) 9)).heap.size := by simp
  rw [hzs]
  generalize (w.alloc (.cells #[.string ⟨#[]⟩, .string ⟨#[]⟩, .int .i64 0, .int .i64 0, .int .i64 0, .bool false] 64)).alloc (.cells (Lib.cellsOf bs (min 6 (s.size + 1))) 9) = w2 at *
  have hzw : w.heap.size < w2.heap.size := by omega
  have HB := Lib.hid hB
  have HFr := Lib.hid hF
  have HBL := Lib.hid hbel
  have HSC : Hid (∀ i (h : i < bs.length), w2.cell? ⟨w.heap.size + 1, i, none⟩ = some (.string bs[i])) := fun i h => (hS i).trans (cellsOf_at bs _ i h)
  clear hB hF hbel hS hmx hzs
  by_cases h6 : bs.length = 6
  case neg =>
    have h6i : (bs.length : Int) < 6 := by omega
    have HN : Hid (¬ ∃ nm cr p dl kp sus, JP s nm cr p dl kp sus) := by
      rintro ⟨nm, cr, p, dl, kp, sus, hj, -⟩
      have h2 := HSP0.out
      rw [hj] at h2
      have := congrArg List.length h2
      simp at this
      exact h6 this
    have hBx := HB.out
    have hFx := HFr.out
    have hbelx := HBL.out
    clear h6 HSC HBS HSP0 HBZ
    generalize bs.length = n at *
    go_wp2
    have S6 := set6_cells hBx (u0 := .string ⟨#[]⟩) (u1 := .string ⟨#[]⟩) (u2 := .int .i64 0) (u3 := .int .i64 0) (u4 := .int .i64 0) (u5 := .bool false) _ rfl
    exact jp_ret w.heap.size _ _ _ _ _ _ _ _ _ rfl rfl S6 ⟨.inr ⟨HN.out, rfl⟩, zset6 hbelx⟩
  match bs, h6, HSP0, HBZ, HSC with
  | [W0, W1, W2, W3, W4, W5], _, HSP0, HBZ, HSC =>
    have HSP : Hid (sp 5 [] s.data.toList = [W0.data.toList, W1.data.toList, W2.data.toList, W3.data.toList, W4.data.toList, W5.data.toList]) := HSP0.out.symm
    have y0 : W0.size ≤ s.size := HBZ.out W0 (by simp)
    have y1 : W1.size ≤ s.size := HBZ.out W1 (by simp)
    have y2 : W2.size ≤ s.size := HBZ.out W2 (by simp)
    have y3 : W3.size ≤ s.size := HBZ.out W3 (by simp)
    have y4 : W4.size ≤ s.size := HBZ.out W4 (by simp)
    have y5 : W5.size ≤ s.size := HBZ.out W5 (by simp)
    have c0 : w2.cell? ⟨w.heap.size + 1, 0, none⟩ = some (.string W0) := HSC.out 0 (by simp)
    have c1 : w2.cell? ⟨w.heap.size + 1, 1, none⟩ = some (.string W1) := HSC.out 1 (by simp)
    have c2 : w2.cell? ⟨w.heap.size + 1, 2, none⟩ = some (.string W2) := HSC.out 2 (by simp)
    have c3 : w2.cell? ⟨w.heap.size + 1, 3, none⟩ = some (.string W3) := HSC.out 3 (by simp)
    have c4 : w2.cell? ⟨w.heap.size + 1, 4, none⟩ = some (.string W4) := HSC.out 4 (by simp)
    have c5 : w2.cell? ⟨w.heap.size + 1, 5, none⟩ = some (.string W5) := HSC.out 5 (by simp)
    clear HSP0 HBZ HSC HBS
    simp only [List.length_cons, List.length_nil]
    go_wp2
    have ha0 := alloc_new w2 #[.int .i64 0, .int .i64 0, .int .i64 0, .int .i64 0] 103
    have haF : ∀ o, (w2.alloc (.cells #[.int .i64 0, .int .i64 0, .int .i64 0, .int .i64 0] 103)).frozen? ⟨w2.heap.size, o, none⟩ = false := fun o => World.frozen?_alloc_at _ _ _ o rfl
    have haB : Below w2.heap.size w2 (w2.alloc (.cells #[.int .i64 0, .int .i64 0, .int .i64 0, .int .i64 0] 103)) := bmore (Below.refl _ _) _
    have haz : w2.heap.size < (w2.alloc (.cells #[.int .i64 0, .int .i64 0, .int .i64 0, .int .i64 0] 103)).heap.size := by simp
    generalize w2.alloc (.cells #[.int .i64 0, .int .i64 0, .int .i64 0, .int .i64 0] 103) = w3 at *
    go_loopg [16] 4 (fun gk iv wr => ∃ (f : Nat) (n0 n1 n2 n3 : Int), iv = .int .i64 f ∧ f ≤ 4 ∧ (∀ o, wr.cell? ⟨w2.heap.size, o, none⟩ = (#[.int .i64 n0, .int .i64 n1, .int .i64 n2, .int .i64 n3] : Array Value)[o]?) ∧ (∀ o, wr.frozen? ⟨w2.heap.size, o, none⟩ = false) ∧ Below w2.heap.size w2 wr ∧ w2.heap.size < wr.heap.size ∧ f ≤ 4 ∧
      (0 < f → jnum W1.data.toList = some n0) ∧ (1 < f → jnum W2.data.toList = some n1) ∧ (2 < f → jnum W3.data.toList = some n2) ∧ (3 < f → jnum W4.data.toList = some n3) ∧ gk = 4 - f)
    case atStart => exact ⟨0, 0, 0, 0, 0, rfl, by omega, ha0, haF, haB, haz, by omega, by omega, by omega, by omega, by omega, rfl⟩
    case round =>
      clear ha0 haF haB haz
      obtain ⟨f, n0, n1, n2, n3, rfl, hf, hcl, hfz, hb, hzq, -, h0, h1, h2, h3, hgk⟩ := hrel
      have HG := Lib.hid hgk
      clear hgk
      have h5 : f = 0 ∨ f = 1 ∨ f = 2 ∨ f = 3 ∨ f = 4 := by omega
      rcases h5 with rfl | rfl | rfl | rfl | rfl
      · skip
        have hcell : wr.cell? ⟨w.heap.size + 1, 1, none⟩ = some (.string W1) := (keep0 hb hz1 _).trans c1
        go_wp2_with fail
        go_at_call 48
        refine (number_any W1 _ (by omega)).mono ?_
        obtain ⟨o, ho⟩ : ∃ o, jnum W1.data.toList = o := ⟨_, rfl⟩
        rw [ho]
        have HNR : Hid (∀ n, o = some n → -1000000000000000000 < n ∧ n < 1000000000000000000) := fun n hn => (itoa_jnum _ n (ho.trans hn)).2
        have HQO := Lib.hid ho
        clear ho
        rintro y w4 ⟨hy, hb4⟩
        unfold NumPost at hy
        have hb5 := bthen hb hb4
        have hcl4 := fun o => (keep0 hb4 hzq o).trans (hcl o)
        have hfz4 := fun o => (keepF0 hb4 hzq o).trans (hfz o)
        have hzq4 := Nat.lt_of_lt_of_le hzq hb4.size
        clear hb4 hb hcl hfz hcell hzq
        cases o with
        | none =>
          have HN : Hid (¬ ∃ nm cr p dl kp sus, JP s nm cr p dl kp sus) := by
            rintro ⟨nm, cr, p, dl, kp, sus, hj⟩
            have h1 := JP_nums W0 W1 W2 W3 W4 W5 hj HSP.out
            have h2 := HQO.out
            rw [h1.2.2.1] at h2
            cases h2
          simp only [Option.getD_none, Option.isSome_none] at hy
          subst hy
          have hBx := fun o => (keep0 hb5 hzw o).trans (HB.out o)
          have hFx := fun o => (keepF0 hb5 hzw o).trans (HFr.out o)
          have hbelx := bthen HBL.out hb5
          clear hcl4 hfz4 hb5
          go_wp2
          have S6 := set6_cells hBx (u0 := .string ⟨#[]⟩) (u1 := .string ⟨#[]⟩) (u2 := .int .i64 0) (u3 := .int .i64 0) (u4 := .int .i64 0) (u5 := .bool false) _ rfl
          exact jp_ret w.heap.size _ _ _ _ _ _ _ _ _ rfl rfl S6 ⟨.inr ⟨HN.out, rfl⟩, zset6 hbelx⟩
        | some n =>
          have hnr := HNR.out n rfl
          have HQ := HQO
          simp only [Option.getD_some, Option.isSome_some] at hy
          subst hy
          clear HNR
          go_wp2
          go_roundg (4 - 1)
          case measure => have := HG.out; omega
          case rel =>
            exact ⟨1, n, n1, n2, n3, rfl, by omega, cells_set hcl4 0 (.int .i64 n) (by simp), fun o => by simp only [World.frozen?_setCell]; exact hfz4 o, bset hb5 (Nat.le_refl _) _, by simpa [World.setCell] using hzq4, by omega, by intro; exact HQ.out, by intro; exact h1 (by omega), by intro; exact h2 (by omega), by intro; exact h3 (by omega), rfl⟩
      · skip
        have hcell : wr.cell? ⟨w.heap.size + 1, 2, none⟩ = some (.string W2) := (keep0 hb hz1 _).trans c2
        go_wp2_with fail
        go_at_call 48
        refine (number_any W2 _ (by omega)).mono ?_
        obtain ⟨o, ho⟩ : ∃ o, jnum W2.data.toList = o := ⟨_, rfl⟩
        rw [ho]
        have HNR : Hid (∀ n, o = some n → -1000000000000000000 < n ∧ n < 1000000000000000000) := fun n hn => (itoa_jnum _ n (ho.trans hn)).2
        have HQO := Lib.hid ho
        clear ho
        rintro y w4 ⟨hy, hb4⟩
        unfold NumPost at hy
        have hb5 := bthen hb hb4
        have hcl4 := fun o => (keep0 hb4 hzq o).trans (hcl o)
        have hfz4 := fun o => (keepF0 hb4 hzq o).trans (hfz o)
        have hzq4 := Nat.lt_of_lt_of_le hzq hb4.size
        clear hb4 hb hcl hfz hcell hzq
        cases o with
        | none =>
          have HN : Hid (¬ ∃ nm cr p dl kp sus, JP s nm cr p dl kp sus) := by
            rintro ⟨nm, cr, p, dl, kp, sus, hj⟩
            have h1 := JP_nums W0 W1 W2 W3 W4 W5 hj HSP.out
            have h2 := HQO.out
            rw [h1.2.2.2.1] at h2
            cases h2
          simp only [Option.getD_none, Option.isSome_none] at hy
          subst hy
          have hBx := fun o => (keep0 hb5 hzw o).trans (HB.out o)
          have hFx := fun o => (keepF0 hb5 hzw o).trans (HFr.out o)
          have hbelx := bthen HBL.out hb5
          clear hcl4 hfz4 hb5
          go_wp2
          have S6 := set6_cells hBx (u0 := .string ⟨#[]⟩) (u1 := .string ⟨#[]⟩) (u2 := .int .i64 0) (u3 := .int .i64 0) (u4 := .int .i64 0) (u5 := .bool false) _ rfl
          exact jp_ret w.heap.size _ _ _ _ _ _ _ _ _ rfl rfl S6 ⟨.inr ⟨HN.out, rfl⟩, zset6 hbelx⟩
        | some n =>
          have hnr := HNR.out n rfl
          have HQ := HQO
          simp only [Option.getD_some, Option.isSome_some] at hy
          subst hy
          clear HNR
          go_wp2
          go_roundg (4 - 2)
          case measure => have := HG.out; omega
          case rel =>
            exact ⟨2, n0, n, n2, n3, rfl, by omega, cells_set hcl4 1 (.int .i64 n) (by simp), fun o => by simp only [World.frozen?_setCell]; exact hfz4 o, bset hb5 (Nat.le_refl _) _, by simpa [World.setCell] using hzq4, by omega, by intro; exact h0 (by omega), by intro; exact HQ.out, by intro; exact h2 (by omega), by intro; exact h3 (by omega), rfl⟩
      · skip
        have hcell : wr.cell? ⟨w.heap.size + 1, 3, none⟩ = some (.string W3) := (keep0 hb hz1 _).trans c3
        go_wp2_with fail
        go_at_call 48
        refine (number_any W3 _ (by omega)).mono ?_
        obtain ⟨o, ho⟩ : ∃ o, jnum W3.data.toList = o := ⟨_, rfl⟩
        rw [ho]
        have HNR : Hid (∀ n, o = some n → -1000000000000000000 < n ∧ n < 1000000000000000000) := fun n hn => (itoa_jnum _ n (ho.trans hn)).2
        have HQO := Lib.hid ho
        clear ho
        rintro y w4 ⟨hy, hb4⟩
        unfold NumPost at hy
        have hb5 := bthen hb hb4
        have hcl4 := fun o => (keep0 hb4 hzq o).trans (hcl o)
        have hfz4 := fun o => (keepF0 hb4 hzq o).trans (hfz o)
        have hzq4 := Nat.lt_of_lt_of_le hzq hb4.size
        clear hb4 hb hcl hfz hcell hzq
        cases o with
        | none =>
          have HN : Hid (¬ ∃ nm cr p dl kp sus, JP s nm cr p dl kp sus) := by
            rintro ⟨nm, cr, p, dl, kp, sus, hj⟩
            have h1 := JP_nums W0 W1 W2 W3 W4 W5 hj HSP.out
            have h2 := HQO.out
            rw [h1.2.2.2.2.1] at h2
            cases h2
          simp only [Option.getD_none, Option.isSome_none] at hy
          subst hy
          have hBx := fun o => (keep0 hb5 hzw o).trans (HB.out o)
          have hFx := fun o => (keepF0 hb5 hzw o).trans (HFr.out o)
          have hbelx := bthen HBL.out hb5
          clear hcl4 hfz4 hb5
          go_wp2
          have S6 := set6_cells hBx (u0 := .string ⟨#[]⟩) (u1 := .string ⟨#[]⟩) (u2 := .int .i64 0) (u3 := .int .i64 0) (u4 := .int .i64 0) (u5 := .bool false) _ rfl
          exact jp_ret w.heap.size _ _ _ _ _ _ _ _ _ rfl rfl S6 ⟨.inr ⟨HN.out, rfl⟩, zset6 hbelx⟩
        | some n =>
          have hnr := HNR.out n rfl
          have HQ := HQO
          simp only [Option.getD_some, Option.isSome_some] at hy
          subst hy
          clear HNR
          go_wp2
          go_roundg (4 - 3)
          case measure => have := HG.out; omega
          case rel =>
            exact ⟨3, n0, n1, n, n3, rfl, by omega, cells_set hcl4 2 (.int .i64 n) (by simp), fun o => by simp only [World.frozen?_setCell]; exact hfz4 o, bset hb5 (Nat.le_refl _) _, by simpa [World.setCell] using hzq4, by omega, by intro; exact h0 (by omega), by intro; exact h1 (by omega), by intro; exact HQ.out, by intro; exact h3 (by omega), rfl⟩
      · skip
        have hcell : wr.cell? ⟨w.heap.size + 1, 4, none⟩ = some (.string W4) := (keep0 hb hz1 _).trans c4
        go_wp2_with fail
        go_at_call 48
        refine (number_any W4 _ (by omega)).mono ?_
        obtain ⟨o, ho⟩ : ∃ o, jnum W4.data.toList = o := ⟨_, rfl⟩
        rw [ho]
        have HNR : Hid (∀ n, o = some n → -1000000000000000000 < n ∧ n < 1000000000000000000) := fun n hn => (itoa_jnum _ n (ho.trans hn)).2
        have HQO := Lib.hid ho
        clear ho
        rintro y w4 ⟨hy, hb4⟩
        unfold NumPost at hy
        have hb5 := bthen hb hb4
        have hcl4 := fun o => (keep0 hb4 hzq o).trans (hcl o)
        have hfz4 := fun o => (keepF0 hb4 hzq o).trans (hfz o)
        have hzq4 := Nat.lt_of_lt_of_le hzq hb4.size
        clear hb4 hb hcl hfz hcell hzq
        cases o with
        | none =>
          have HN : Hid (¬ ∃ nm cr p dl kp sus, JP s nm cr p dl kp sus) := by
            rintro ⟨nm, cr, p, dl, kp, sus, hj⟩
            have h1 := JP_nums W0 W1 W2 W3 W4 W5 hj HSP.out
            have h2 := HQO.out
            rw [h1.2.2.2.2.2.1] at h2
            cases h2
          simp only [Option.getD_none, Option.isSome_none] at hy
          subst hy
          have hBx := fun o => (keep0 hb5 hzw o).trans (HB.out o)
          have hFx := fun o => (keepF0 hb5 hzw o).trans (HFr.out o)
          have hbelx := bthen HBL.out hb5
          clear hcl4 hfz4 hb5
          go_wp2
          have S6 := set6_cells hBx (u0 := .string ⟨#[]⟩) (u1 := .string ⟨#[]⟩) (u2 := .int .i64 0) (u3 := .int .i64 0) (u4 := .int .i64 0) (u5 := .bool false) _ rfl
          exact jp_ret w.heap.size _ _ _ _ _ _ _ _ _ rfl rfl S6 ⟨.inr ⟨HN.out, rfl⟩, zset6 hbelx⟩
        | some n =>
          have hnr := HNR.out n rfl
          have HQ := HQO
          simp only [Option.getD_some, Option.isSome_some] at hy
          subst hy
          clear HNR
          go_wp2
          go_roundg (4 - 4)
          case measure => have := HG.out; omega
          case rel =>
            exact ⟨4, n0, n1, n2, n, rfl, by omega, cells_set hcl4 3 (.int .i64 n) (by simp), fun o => by simp only [World.frozen?_setCell]; exact hfz4 o, bset hb5 (Nat.le_refl _) _, by simpa [World.setCell] using hzq4, by omega, by intro; exact h0 (by omega), by intro; exact h1 (by omega), by intro; exact h2 (by omega), by intro; exact HQ.out, rfl⟩
      · have r0 := (itoa_jnum _ _ (h0 (by omega))).2
        have r1 := (itoa_jnum _ _ (h1 (by omega))).2
        have r2 := (itoa_jnum _ _ (h2 (by omega))).2
        have HJ0 := Lib.hid (h0 (by omega))
        have HJ1 := Lib.hid (h1 (by omega))
        have HJ2 := Lib.hid (h2 (by omega))
        have HJ3 := Lib.hid (h3 (by omega))
        have b0 : wr.cell? ⟨w.heap.size + 1, 0, none⟩ = some (.string W0) := (keep0 hb hz1 _).trans c0
        have b5 : wr.cell? ⟨w.heap.size + 1, 5, none⟩ = some (.string W5) := (keep0 hb hz1 _).trans c5
        have q0 := hcl 0
        have q1 := hcl 1
        have q2 := hcl 2
        have q3 := hcl 3
        simp at q0 q1 q2 q3
        have HBelr := Lib.hid hb
        have hg1 : w.heap.size + 1 < wr.heap.size := Nat.lt_of_lt_of_le hz1 hb.size
        have hbs : Below wr.heap.size wr wr := Below.refl _ _
        clear h0 h1 h2 h3 hcl hfz hb c0 c1 c2 c3 c4 c5
        obtain ⟨sus, hsus⟩ : ∃ sus, (n3 == 1) = sus := ⟨_, rfl⟩
        go_upto_region 13 with fail
        go_cut [9] (fun s9 wx => ∃ q : Nat, s9 = .pointer (some ⟨q, 0, none⟩) ∧ wr.heap.size ≤ q ∧ q < wx.heap.size ∧ (∀ o, wx.cell? ⟨q, o, none⟩ = (#[.string W0, .string W5, .int .i64 n0, .int .i64 n1, .int .i64 n2, .bool sus] : Array Value)[o]?) ∧ Below wr.heap.size wr wx)
        case first =>
          go_region_held3 (fun w' => w'.cell? ⟨w.heap.size + 1, 0, none⟩ = some (.string W0) ∧ w'.cell? ⟨w.heap.size + 1, 5, none⟩ = some (.string W5) ∧ w'.cell? ⟨w2.heap.size, 0, none⟩ = some (.int .i64 n0) ∧ w'.cell? ⟨w2.heap.size, 1, none⟩ = some (.int .i64 n1) ∧ w'.cell? ⟨w2.heap.size, 2, none⟩ = some (.int .i64 n2) ∧ w'.cell? ⟨w2.heap.size, 3, none⟩ = some (.int .i64 n3) ∧ Below wr.heap.size wr w')
            (first
              | with_reducible exact jk_keep b0 b5 q0 q1 q2 q3 hg1 hzq hbs.drew
              | (with_reducible refine jk_keep b0 b5 q0 q1 q2 q3 hg1 hzq ?_
                 first | exact bmore hbs.drew _ | exact bset6 (bmore hbs.drew _) (Nat.le_refl _))
              | go_keep)
            (fail)
          all_goals (
            go_wp2_with fail
            go_meet
            exact ⟨wr.heap.size, rfl, Nat.le_refl _, (by show wr.heap.size < (wr.alloc _).heap.size; simp), fun o => alloc_new wr _ _ o, (bmore (Below.refl _ _) _).drew⟩)
        case rest =>
          obtain ⟨q, rfl, hq1, hq2, hqc, hbx⟩ := hcut
          have hbx2 := HBelr.out.trans (hbx.mono HBelr.out.size)
          have hBx0 := fun o => (keep0 hbx2 hzw o).trans (HB.out o)
          have hFx0 := fun o => (keepF0 hbx2 hzw o).trans (HFr.out o)
          have hbelx0 := bthen HBL.out hbx2
          have hzx := Nat.lt_of_lt_of_le hzw hbx2.size
          have v0 := hqc 0
          have v1 := hqc 1
          have v2 := hqc 2
          have v3 := hqc 3
          have v4 := hqc 4
          have v5 := hqc 5
          simp at v0 v1 v2 v3 v4 v5
          have hLx := hL.below hbelx0
          have HBx0 := Lib.hid hBx0
          have HFx0 := Lib.hid hFx0
          have HBelx0 := Lib.hid hbelx0
          have HJN : Hid (∀ nm cr p dl kp su, JP s nm cr p dl kp su → nm = W0 ∧ cr = W5 ∧ p = n0 ∧ dl = n1 ∧ kp = n2 ∧ su = sus) := by
            intro nm cr p dl kp su hj
            obtain ⟨e1, e2, e3, e4, e5, e6, -⟩ := JP_nums W0 W1 W2 W3 W4 W5 hj HSP.out
            rw [HJ0.out] at e3
            rw [HJ1.out] at e4
            rw [HJ2.out] at e5
            rw [HJ3.out] at e6
            refine ⟨e1, e2, (Option.some.inj e3).symm, (Option.some.inj e4).symm, (Option.some.inj e5).symm, ?_⟩
            rw [← hsus, Option.some.inj e6]
            cases su <;> rfl
          clear hBx0 hFx0 hbelx0 hbx hbx2 b0 b5 q0 q1 q2 q3 hbs hq1 HBelr hqc
          obtain ⟨ck, hck⟩ : ∃ ck, chk W0 W5 n0 n1 n2 = ck := ⟨_, rfl⟩
          have HCK := Lib.hid hck
          clear hck
          go_wp2_with fail
          go_at_call 37
          refine (check_any W0 W5 n0 n1 n2 sus _ hLx (by omega) (by omega)).mono ?_
          rw [HCK.out]
          rintro x wc ⟨rfl, hbc⟩
          by_cases hc0 : ck ≠ 0
          · have hcn : (ck == 0) = false := by simp [hc0]
            have HN : Hid (¬ ∃ nm cr p dl kp sus, JP s nm cr p dl kp sus) := by
              rintro ⟨nm, cr, p, dl, kp, su, hj⟩
              obtain ⟨rfl, rfl, rfl, rfl, rfl, rfl⟩ := HJN.out _ _ _ _ _ _ hj
              exact hc0 (HCK.out.symm.trans hj.2.1)
            have hBx := fun o => (keep0 hbc hzx o).trans (HBx0.out o)
            have hFx := fun o => (keepF0 hbc hzx o).trans (HFx0.out o)
            have hbelx := bthen HBelx0.out hbc
            clear hbc
            go_wp2
            have S6 := set6_cells hBx (u0 := .string ⟨#[]⟩) (u1 := .string ⟨#[]⟩) (u2 := .int .i64 0) (u3 := .int .i64 0) (u4 := .int .i64 0) (u5 := .bool false) _ rfl
            exact jp_ret w.heap.size _ _ _ _ _ _ _ _ _ rfl rfl S6 ⟨.inr ⟨HN.out, rfl⟩, zset6 hbelx⟩
          have hc1 : ck = 0 := by omega
          have hcn : (ck == 0) = true := by simp [hc1]
          have hcn2 : (ck != 0) = false := by simp [hc1]
          have u0 := (keep0 hbc hq2 0).trans v0
          have u1 := (keep0 hbc hq2 1).trans v1
          have u2 := (keep0 hbc hq2 2).trans v2
          have u3 := (keep0 hbc hq2 3).trans v3
          have u4 := (keep0 hbc hq2 4).trans v4
          have u5 := (keep0 hbc hq2 5).trans v5
          have hBy := fun o => (keep0 hbc hzx o).trans (HBx0.out o)
          have hFy := fun o => (keepF0 hbc hzx o).trans (HFx0.out o)
          have hbely := bthen HBelx0.out hbc
          have hzy := Nat.lt_of_lt_of_le hzx hbc.size
          have hqy := Nat.lt_of_lt_of_le hq2 hbc.size
          have hLy := hL.below hbely
          have HC0 := Lib.hid (HCK.out.trans hc1)
          have HBy := Lib.hid hBy
          have HFy := Lib.hid hFy
          have HBely := Lib.hid hbely
          clear v0 v1 v2 v3 v4 v5 hbc hc0 hc1 HBx0 HFx0 HBelx0 hBy hFy hbely hzx hq2 HCK hLx
          go_wp2_with fail
          go_at_call 39
          refine (encode_any W0 W5 n0 n1 n2 sus _ hLy (hP.below HBely.out) (by omega) (by omega) (by omega) (by omega) (by omega)).mono ?_
          rintro x we ⟨⟨S, rfl, hS⟩, hbe⟩
          have t0 := (keep0 hbe hqy 0).trans u0
          have t1 := (keep0 hbe hqy 1).trans u1
          have t2 := (keep0 hbe hqy 2).trans u2
          have t3 := (keep0 hbe hqy 3).trans u3
          have t4 := (keep0 hbe hqy 4).trans u4
          have t5 := (keep0 hbe hqy 5).trans u5
          have hBx := fun o => (keep0 hbe hzy o).trans (HBy.out o)
          have hFx := fun o => (keepF0 hbe hzy o).trans (HFy.out o)
          have hbelx := bthen HBely.out hbe
          clear u0 u1 u2 u3 u4 u5 hbe HBy HFy HBely hLy
          by_cases hSs : S.data.toList = s.data.toList
          · have HJ : Hid (JP s W0 W5 n0 n1 n2 sus) := JP_of s W0 W1 W2 W3 W4 W5 n0 n1 n2 sus HSP.out HJ0.out HJ1.out HJ2.out HC0.out (hS.symm.trans hSs)
            have hSe : (S.toList == s.toList) = true := by rw [Lib.toList_data, Lib.toList_data, hSs]; simp
            clear hSs hS
            go_wp2
            have S6 := set6_cells hBx (u0 := .string W0) (u1 := .string W5) (u2 := .int .i64 n0) (u3 := .int .i64 n1) (u4 := .int .i64 n2) (u5 := .bool sus) _ rfl
            exact jp_ret w.heap.size _ _ _ _ _ _ _ _ _ rfl rfl S6 ⟨.inl ⟨_, _, _, _, _, _, HJ.out, rfl⟩, zset6 hbelx⟩
          · have hSe : (S.toList == s.toList) = false := by rw [Lib.toList_data, Lib.toList_data]; simpa using hSs
            have HN : Hid (¬ ∃ nm cr p dl kp sus, JP s nm cr p dl kp sus) := by
              rintro ⟨nm, cr, p, dl, kp, su, hj⟩
              obtain ⟨rfl, rfl, rfl, rfl, rfl, rfl⟩ := HJN.out _ _ _ _ _ _ hj
              exact hSs (hS.trans hj.2.2)
            clear hSs hS
            go_wp2
            have S6 := set6_cells hBx (u0 := .string ⟨#[]⟩) (u1 := .string ⟨#[]⟩) (u2 := .int .i64 0) (u3 := .int .i64 0) (u4 := .int .i64 0) (u5 := .bool false) _ rfl
            exact jp_ret w.heap.size _ _ _ _ _ _ _ _ _ rfl rfl S6 ⟨.inr ⟨HN.out, rfl⟩, zset6 hbelx⟩
end Go.Proofs.YtdpaiaeaamokeaaDoor.Job
