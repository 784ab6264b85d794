/- JobTexts, walked. -/
import Derived.Test.YtdpaiaeaamokeaaDoorJobParseR
import Derived.Test.YtdpaiaeaamokeaaDoorJobRunR
import Derived.Deep.RegionHeld3
namespace Go.Proofs.YtdpaiaeaamokeaaDoor.Job
open Go.RowKit Go Go.Proofs.YtdpaiaeaamokeaaDoor.Cron Go.Proofs.YtdpaiaeaamokeaaDoor.Cal

theorem job_form {s : ByteArray} {x : Ending} (h : JobPost s x) : ∃ (nm cr : ByteArray) (p dl kp : Int) (sus : Bool) (c : Int), x = .returned (.tuple #[jobV nm cr p dl kp sus, .int .i64 c]) := by
  rcases h with ⟨nm, cr, p, dl, kp, sus, -, hx⟩ | ⟨-, hx⟩
  · exact ⟨_, _, _, _, _, _, _, hx⟩
  · exact ⟨_, _, _, _, _, _, _, hx⟩
theorem prun_form {s : ByteArray} {x : Ending} (h : PrunPost s x) : ∃ (m : ByteArray) (a b c e : Int), x = .returned (.tuple #[runV m a b c, .int .i64 e]) ∧ True := by
  rcases h with ⟨a, b, c, -, hx⟩ | ⟨-, hx⟩
  · exact ⟨_, _, _, _, _, hx, trivial⟩
  · exact ⟨_, _, _, _, _, hx, trivial⟩
theorem six_keep {b0 b1 b2 b3 b4 b5 : Nat} {C0 C1 C2 C3 C4 C5 : Array Value} {w W : World} (h0 : ∀ o, w.cell? ⟨b0, o, none⟩ = C0[o]?) (h1 : ∀ o, w.cell? ⟨b1, o, none⟩ = C1[o]?) (h2 : ∀ o, w.cell? ⟨b2, o, none⟩ = C2[o]?) (h3 : ∀ o, w.cell? ⟨b3, o, none⟩ = C3[o]?) (h4 : ∀ o, w.cell? ⟨b4, o, none⟩ = C4[o]?) (h5 : ∀ o, w.cell? ⟨b5, o, none⟩ = C5[o]?)
    (l0 : b0 < w.heap.size) (l1 : b1 < w.heap.size) (l2 : b2 < w.heap.size) (l3 : b3 < w.heap.size) (l4 : b4 < w.heap.size) (l5 : b5 < w.heap.size) (hb : Below w.heap.size w W) :
    (∀ o, W.cell? ⟨b0, o, none⟩ = C0[o]?) ∧ (∀ o, W.cell? ⟨b1, o, none⟩ = C1[o]?) ∧ (∀ o, W.cell? ⟨b2, o, none⟩ = C2[o]?) ∧ (∀ o, W.cell? ⟨b3, o, none⟩ = C3[o]?) ∧ (∀ o, W.cell? ⟨b4, o, none⟩ = C4[o]?) ∧ (∀ o, W.cell? ⟨b5, o, none⟩ = C5[o]?) ∧ Below w.heap.size w W :=
  ⟨fun o => (keep0 hb l0 o).trans (h0 o), fun o => (keep0 hb l1 o).trans (h1 o), fun o => (keep0 hb l2 o).trans (h2 o), fun o => (keep0 hb l3 o).trans (h3 o), fun o => (keep0 hb l4 o).trans (h4 o), fun o => (keep0 hb l5 o).trans (h5 o), hb⟩
theorem three_keep7 {b0 b1 b2 : Nat} {C0 C1 C2 : Array Value} {w W : World} (h0 : ∀ o, w.cell? ⟨b0, o, none⟩ = C0[o]?) (h1 : ∀ o, w.cell? ⟨b1, o, none⟩ = C1[o]?) (h2 : ∀ o, w.cell? ⟨b2, o, none⟩ = C2[o]?)
    (l0 : b0 < w.heap.size) (l1 : b1 < w.heap.size) (l2 : b2 < w.heap.size) (hb : Below w.heap.size w W) :
    (∀ o, W.cell? ⟨b0, o, none⟩ = C0[o]?) ∧ (∀ o, W.cell? ⟨b1, o, none⟩ = C1[o]?) ∧ (∀ o, W.cell? ⟨b2, o, none⟩ = C2[o]?) ∧ Below w.heap.size w W :=
  ⟨fun o => (keep0 hb l0 o).trans (h0 o), fun o => (keep0 hb l1 o).trans (h1 o), fun o => (keep0 hb l2 o).trans (h2 o), hb⟩

set_option maxHeartbeats 4000000 in
set_option maxRecDepth 100000 in
theorem texts_walk (nm cr : ByteArray) (p dl kp : Int) (sus : Bool) (vj : (nm.size ≤ 140737488351232 ∧ cr.size ≤ 140737488351232) ∧ (-9223372036854775808 ≤ p ∧ p ≤ 9223372036854775807) ∧ (-9223372036854775808 ≤ dl ∧ dl ≤ 9223372036854775807) ∧ (-9223372036854775808 ≤ kp ∧ kp ≤ 9223372036854775807))
    (s : ByteArray) (ws : s.size ≤ 140737488351232) (rn : ByteArray) (ra rb rc : Int) (vr : rn.size ≤ 140737488351232 ∧ (-9223372036854775808 ≤ ra ∧ ra ≤ 9223372036854775807) ∧ (-9223372036854775808 ≤ rb ∧ rb ≤ 9223372036854775807) ∧ (-9223372036854775808 ≤ rc ∧ rc ≤ 9223372036854775807)) (w : World) (hL : Laid w) (hP : Pow w) :
    Calls Tryd.prog 7 #[jobV nm cr p dl kp sus, .string s, runV rn ra rb rc] w fun e w' => e = .returned (.bool true) ∧ Below w.heap.size w w' := by
  obtain ⟨⟨z1, z2⟩, ⟨j1, j2⟩, ⟨j3, j4⟩, j5, j6⟩ := vj
  obtain ⟨z3, ⟨l1, g1⟩, ⟨l2, g2⟩, l3, g3⟩ := vr
  unfold jobV runV
  go_enter Tryd.func7, Tryd.ntmps7
  have hz0 : (w.alloc (.cells #[.string nm, .string cr, .int .i64 p, .int .i64 dl, .int .i64 kp, .bool sus] 64)).heap.size = w.heap.size + 1 := by simp
  have hj0 : ∀ o, ((w.alloc (.cells #[.string nm, .string cr, .int .i64 p, .int .i64 dl, .int .i64 kp, .bool sus] 64)).alloc (.cells #[.string rn, .int .i64 ra, .int .i64 rb, .int .i64 rc] 66)).cell? ⟨w.heap.size, o, none⟩ = (#[.string nm, .string cr, .int .i64 p, .int .i64 dl, .int .i64 kp, .bool sus] : Array Value)[o]? := fun o => (alloc_old _ _ (by rw [hz0]; omega) o).trans (alloc_new w _ _ o)
  have hr0 : ∀ o, ((w.alloc (.cells #[.string nm, .string cr, .int .i64 p, .int .i64 dl, .int .i64 kp, .bool sus] 64)).alloc (.cells #[.string rn, .int .i64 ra, .int .i64 rb, .int .i64 rc] 66)).cell? ⟨w.heap.size + 1, o, none⟩ = (#[.string rn, .int .i64 ra, .int .i64 rb, .int .i64 rc] : Array Value)[o]? := fun o => by
    have := alloc_new (w.alloc (.cells #[.string nm, .string cr, .int .i64 p, .int .i64 dl, .int .i64 kp, .bool sus] 64)) #[.string rn, .int .i64 ra, .int .i64 rb, .int .i64 rc] 66 o
    rw [hz0] at this
    exact this
  have hb0 : Below w.heap.size w ((w.alloc (.cells #[.string nm, .string cr, .int .i64 p, .int .i64 dl, .int .i64 kp, .bool sus] 64)).alloc (.cells #[.string rn, .int .i64 ra, .int .i64 rb, .int .i64 rc] 66)) := bmore (bmore (Below.refl _ _) _) _
  have hsz0 : w.heap.size + 1 < ((w.alloc (.cells #[.string nm, .string cr, .int .i64 p, .int .i64 dl, .int .i64 kp, .bool sus] 64)).alloc (.cells #[.string rn, .int .i64 ra, .int .i64 rb, .int .i64 rc] 66)).heap.size := by simp
  go_wp2_with fail
  go_at_call 9
  generalize (w.alloc (.cells #[.string nm, .string cr, .int .i64 p, .int .i64 dl, .int .i64 kp, .bool sus] 64)).alloc (.cells #[.string rn, .int .i64 ra, .int .i64 rb, .int .i64 rc] 66) = w0 at *
  refine (known17 _ (hL.below hb0) (hP.below hb0)).mono ?_
  rintro x wk ⟨rfl, hbk⟩
  have hjk := fun o => (keep0 hbk (Nat.lt_of_succ_lt hsz0) o).trans (hj0 o)
  have hrk := fun o => (keep0 hbk hsz0 o).trans (hr0 o)
  have hzk := Nat.lt_of_lt_of_le hsz0 hbk.size
  have HbK := Lib.hid (bthen hb0 hbk)
  clear hbk hj0 hr0 hb0 hsz0 hz0
  by_cases h20 : 2000 < nm.size + cr.size + s.size + rn.size
  · have q0 : (2000 : Int) < (nm.size : Int) + (cr.size : Int) + (s.size : Int) + (rn.size : Int) := by omega
    go_wp2
    go_ret
    exact ⟨rfl, HbK.out⟩
  have q0 : ¬ (2000 : Int) < (nm.size : Int) + (cr.size : Int) + (s.size : Int) + (rn.size : Int) := by omega
  have hLk := hL.below HbK.out
  have hPk := hP.below HbK.out
  go_wp2_with fail
  go_at_call 32
  refine (jparse_any s _ hLk hPk (by omega)).mono ?_
  rintro x wA ⟨hx, hbA⟩
  obtain ⟨n1, r1, p1, d1, k1, u1, f1, hxe⟩ := job_form hx
  have HJ := Lib.hid hx
  subst hxe
  unfold jobV
  have hjA := fun o => (keep0 hbA (Nat.lt_of_succ_lt hzk) o).trans (hjk o)
  have hrA := fun o => (keep0 hbA hzk o).trans (hrk o)
  have hzA := Nat.lt_of_lt_of_le hzk hbA.size
  have HbA := Lib.hid (bthen HbK.out hbA)
  clear hbA hjk hrk hzk hx hLk hPk
  go_wp2_with fail
  go_at_call 33
  refine (rjparse_any s _ (by omega)).mono ?_
  rintro x wB ⟨hx, hbB⟩
  have hxe := JobPost.uniq HJ.out hx
  subst hxe
  unfold jobV
  have hxB := keepN hbB
  have hxz := size1 hbB
  have hjB := fun o => (keep1 hbB (Nat.lt_of_succ_lt hzA) o).trans (hjA o)
  have hrB := fun o => (keep1 hbB hzA o).trans (hrA o)
  have hzB : w.heap.size + 1 < wB.heap.size := by omega
  have HbB := Lib.hid (bthen (bmore HbA.out _) hbB)
  clear hbB hjA hrA hx HJ
  have hmB := (hL.below (bmore HbB.out (.cells #[.string n1, .string r1, .int .i64 p1, .int .i64 d1, .int .i64 k1, .bool u1] 64))).max
  go_wp2_with fail
  go_at_call 34
  refine (parserun_any s _ hmB (by omega)).mono ?_
  rintro x wC ⟨hx, hbC⟩
  obtain ⟨m2, a2, b2, c2, f2, hxe, -⟩ := prun_form hx
  have HPR := Lib.hid hx
  subst hxe
  unfold runV
  have hyC := keepN hbC
  have hyz := size1 hbC
  have hxC := fun o => (keep1 hbC hxz o).trans (hxB o)
  have hjC := fun o => (keep1 hbC (Nat.lt_of_succ_lt hzB) o).trans (hjB o)
  have hrC := fun o => (keep1 hbC hzB o).trans (hrB o)
  have hzC : w.heap.size + 1 < wC.heap.size := by omega
  have hxzC : wA.heap.size < wC.heap.size := by omega
  have HbC := Lib.hid (bthen (bmore HbB.out _) hbC)
  clear hbC hjB hrB hx hxB hmB
  go_wp2_with fail
  go_at_call 35
  refine (rrparse_any s _ (by omega)).mono ?_
  rintro x wD ⟨hx, hbD⟩
  have hxe := PrunPost.uniq HPR.out hx
  subst hxe
  unfold runV
  have hpD := keepN hbD
  have hpz := size1 hbD
  have hyD := fun o => (keep1 hbD hyz o).trans (hyC o)
  have hxD := fun o => (keep1 hbD hxzC o).trans (hxC o)
  have hjD := fun o => (keep1 hbD (Nat.lt_of_succ_lt hzC) o).trans (hjC o)
  have hrD := fun o => (keep1 hbD hzC o).trans (hrC o)
  have HbD := Lib.hid (bthen (bmore HbC.out _) hbD)
  clear hbD hjC hrC hx hxC hyC HPR
  have l0D : w.heap.size < wD.heap.size := by omega
  have l1D : w.heap.size + 1 < wD.heap.size := by omega
  have l2D : wA.heap.size < wD.heap.size := by omega
  have l3D : wB.heap.size < wD.heap.size := by omega
  go_upto_region 9 with fail
  have i0 := fun o => (alloc_old wD (.cells #[.string m2, .int .i64 a2, .int .i64 b2, .int .i64 c2] 66) l0D o).trans (hjD o)
  have i1 := fun o => (alloc_old wD (.cells #[.string m2, .int .i64 a2, .int .i64 b2, .int .i64 c2] 66) l1D o).trans (hrD o)
  have i2 := fun o => (alloc_old wD (.cells #[.string m2, .int .i64 a2, .int .i64 b2, .int .i64 c2] 66) l2D o).trans (hxD o)
  have i3 := fun o => (alloc_old wD (.cells #[.string m2, .int .i64 a2, .int .i64 b2, .int .i64 c2] 66) l3D o).trans (hyD o)
  have i4 := fun o => (alloc_old wD (.cells #[.string m2, .int .i64 a2, .int .i64 b2, .int .i64 c2] 66) hpz o).trans (hpD o)
  have i5 := alloc_new wD #[.string m2, .int .i64 a2, .int .i64 b2, .int .i64 c2] 66
  have o5 : wD.heap.size < (wD.alloc (.cells #[.string m2, .int .i64 a2, .int .i64 b2, .int .i64 c2] 66)).heap.size := by simp
  have hb9 := bmore HbD.out (.cells #[.string m2, .int .i64 a2, .int .i64 b2, .int .i64 c2] 66)
  clear hjD hrD hxD hyD hpD
  generalize wD.alloc (.cells #[.string m2, .int .i64 a2, .int .i64 b2, .int .i64 c2] 66) = w9 at *
  have o0 : w.heap.size < w9.heap.size := by omega
  have o1 : w.heap.size + 1 < w9.heap.size := by omega
  have o2 : wA.heap.size < w9.heap.size := by omega
  have o3 : wB.heap.size < w9.heap.size := by omega
  have o4 : wC.heap.size < w9.heap.size := by omega
  have hL9 := hL.below hb9
  have Hb9 := Lib.hid hb9
  have hbs : Below w9.heap.size w9 w9 := Below.refl _ _
  obtain ⟨nb, hnb⟩ : ∃ nb, nameB nm = nb := ⟨_, rfl⟩
  obtain ⟨ck, hck⟩ : ∃ ck, chk nm cr p dl kp = ck := ⟨_, rfl⟩
  have HNB := Lib.hid hnb
  have HCK := Lib.hid hck
  have hne0 : ∀ x : Int, (x == x) = true := fun x => by simp
  have hne1 : ∀ x : Int, (x != x) = false := fun x => by simp
  have hne2 : ∀ x : Bool, (x == x) = true := fun x => by simp
  have hne4 : ∀ x : Bool, (x != x) = false := fun x => by simp
  have hne3 : ∀ S : ByteArray, (S.toList == S.toList) = true := fun S => by simp
  clear hb9 hnb hck
  go_cut [93] (fun s93 wx => s93 = .bool false ∧ (∀ o, wx.cell? ⟨w.heap.size, o, none⟩ = (#[.string nm, .string cr, .int .i64 p, .int .i64 dl, .int .i64 kp, .bool sus] : Array Value)[o]?) ∧ (∀ o, wx.cell? ⟨w.heap.size + 1, o, none⟩ = (#[.string rn, .int .i64 ra, .int .i64 rb, .int .i64 rc] : Array Value)[o]?) ∧ Below w9.heap.size w9 wx)
  case first =>
    go_region_held3 (fun w' => (∀ o, w'.cell? ⟨w.heap.size, o, none⟩ = (#[.string nm, .string cr, .int .i64 p, .int .i64 dl, .int .i64 kp, .bool sus] : Array Value)[o]?) ∧ (∀ o, w'.cell? ⟨w.heap.size + 1, o, none⟩ = (#[.string rn, .int .i64 ra, .int .i64 rb, .int .i64 rc] : Array Value)[o]?) ∧ (∀ o, w'.cell? ⟨wA.heap.size, o, none⟩ = (#[.string n1, .string r1, .int .i64 p1, .int .i64 d1, .int .i64 k1, .bool u1] : Array Value)[o]?) ∧ (∀ o, w'.cell? ⟨wB.heap.size, o, none⟩ = (#[.string n1, .string r1, .int .i64 p1, .int .i64 d1, .int .i64 k1, .bool u1] : Array Value)[o]?) ∧ (∀ o, w'.cell? ⟨wC.heap.size, o, none⟩ = (#[.string m2, .int .i64 a2, .int .i64 b2, .int .i64 c2] : Array Value)[o]?) ∧ (∀ o, w'.cell? ⟨wD.heap.size, o, none⟩ = (#[.string m2, .int .i64 a2, .int .i64 b2, .int .i64 c2] : Array Value)[o]?) ∧ Below w9.heap.size w9 w')
      (first
        | with_reducible exact six_keep i0 i1 i2 i3 i4 i5 o0 o1 o2 o3 o4 o5 hbs.drew
        | (with_reducible refine six_keep i0 i1 i2 i3 i4 i5 o0 o1 o2 o3 o4 o5 (bthen ?_ hb)
           first | assumption | exact hbs.drew | (go_split_ands; assumption))
        | go_keep)
      (first
        | (go_at_call 36; refine (name_any nm _ (by omega)).mono ?_; rw [HNB.out]; rintro e w3 ⟨rfl, hb⟩)
        | (go_at_call 26; refine (rname_any nm _ (by omega)).mono ?_; rw [HNB.out]; rintro e w3 ⟨rfl, hb⟩)
        | (go_at_call 37; refine (check_any nm cr p dl kp sus _ (hL9.below (by first | assumption | exact hbs.drew | (go_split_ands; assumption))) (by omega) (by omega)).mono ?_; rw [HCK.out]; rintro e w3 ⟨rfl, hb⟩)
        | (go_at_call 38; refine (rcheck_any nm cr p dl kp sus _ (by omega) (by omega)).mono ?_; rw [HCK.out]; rintro e w3 ⟨rfl, hb⟩))
    all_goals (
      go_wp2_with fail
      go_meet
      refine ⟨rfl, ?_, ?_, ?_⟩ <;> (go_split_ands; assumption))
  case rest =>
    rename World => wx
    obtain ⟨rfl, hjx, hrx, hbx⟩ := hcut
    have hzx : w.heap.size + 1 < wx.heap.size := Nat.lt_of_lt_of_le o1 hbx.size
    have Hbx := Lib.hid (bthen Hb9.out hbx)
    clear hbx i0 i1 i2 i3 i4 i5 o0 o1 o2 o3 o4 o5 hL9 Hb9 hbs hpz hyz hxz
    go_wp2_with fail
    go_at_call 38
    refine (rcheck_any nm cr p dl kp sus _ (by omega) (by omega)).mono ?_
    rw [HCK.out]
    rintro x wc ⟨rfl, hbc⟩
    have hjc := fun o => (keep0 hbc (Nat.lt_of_succ_lt hzx) o).trans (hjx o)
    have hrc := fun o => (keep0 hbc hzx o).trans (hrx o)
    have hzc := Nat.lt_of_lt_of_le hzx hbc.size
    have Hbc := Lib.hid (bthen Hbx.out hbc)
    clear hbc hjx hrx hzx
    by_cases hc0 : ck ≠ 0
    · have hcn : (ck == 0) = false := by simp [hc0]
      have hcn2 : (ck != 0) = true := by simp [hc0]
      -- the run's text
      go_wp2_with fail
      go_at_call 41
      refine (rencrun_any rn ra rb rc _ (by omega) ⟨l1, g1⟩ ⟨l2, g2⟩ ⟨l3, g3⟩).mono ?_
      rintro x we ⟨⟨S, rfl, hS⟩, hbe⟩
      have hrE := fun o => (keep0 hbe hzc o).trans (hrc o)
      have hzE := Nat.lt_of_lt_of_le hzc hbe.size
      have HbE := Lib.hid (bthen Hbc.out hbe)
      have HS := Lib.hid hS
      have hSz : S.size ≤ 3000 := by
        rw [size_of S _ hS]
        have h1 := minL_len [ra, rb, rc] (by simp; omega)
        have h2 : rn.data.toList.length = rn.size := by rw [Array.length_toList]; rfl
        simp at h1
        simp [runL]
        omega
      clear hbe hS hjc
      have hmE := (hL.below HbE.out).max
      go_wp2_with fail
      go_at_call 34
      refine (parserun_any S _ hmE (by omega)).mono ?_
      rintro x wf ⟨hx, hbf⟩
      obtain ⟨m3, a3, b3, c3, e3, hxe, HOK⟩ := prun_form hx
      have HPS := Lib.hid hx
      subst hxe
      unfold runV
      have hrF := fun o => (keep0 hbf hzE o).trans (hrE o)
      have hzF := Nat.lt_of_lt_of_le hzE hbf.size
      have HbF := Lib.hid (bthen HbE.out hbf)
      clear hbf hrE hx hzE hmE
      go_wp2_with fail
      go_at_call 35
      refine (rrparse_any S _ (by omega)).mono ?_
      rintro x wg ⟨hx, hbg⟩
      have hxe := PrunPost.uniq HPS.out hx
      subst hxe
      unfold runV
      have hrG := fun o => (keep1 hbg hzF o).trans (hrF o)
      have hvG := keepN hbg
      have hvz := size1 hbg
      have hzG : w.heap.size + 1 < wg.heap.size := by omega
      have HbG := Lib.hid (bthen (bmore HbF.out _) hbg)
      clear hbg hrF hx HPS
      by_cases he3 : e3 ≠ 0
      · have q1 : (e3 == 0) = false := by simp [he3]
        have q2 : (e3 != 0) = true := by simp [he3]
        go_wp2
        go_ret
        exact ⟨rfl, bmore HbG.out _⟩
      · have he4 : e3 = 0 := by omega
        subst he4
        have hrH := fun o => (alloc_old wg (.cells #[.string m3, .int .i64 a3, .int .i64 b3, .int .i64 c3] 66) hzG o).trans (hrG o)
        clear he3
        go_wp2_with fail
        go_at_call 42
        refine (encrun_any rn ra rb rc _ (hP.below (bmore HbG.out _)) (by omega) ⟨l1, g1⟩ ⟨l2, g2⟩ ⟨l3, g3⟩).mono ?_
        rintro x wh ⟨⟨S2, rfl, hS2⟩, hbh⟩
        have hSS : (S2.toList == S.toList) = true := by rw [Lib.toList_data, Lib.toList_data, hS2, HS.out]; simp
        have HbH := Lib.hid (bthen (bmore HbG.out _) hbh)
        clear hbh hS2 hrH hrG
        go_wp2
        go_ret
        exact ⟨rfl, HbH.out⟩
    · have hc1 : ck = 0 := by omega
      have hcn : (ck == 0) = true := by simp [hc1]
      have HC0 := Lib.hid (HCK.out.trans hc1)
      clear hc0 hc1 HCK
      have hLc := hL.below Hbc.out
      have hPc := hP.below Hbc.out
      go_wp2_with fail
      go_at_call 39
      refine (encode_any nm cr p dl kp sus _ hLc hPc (by omega) (by omega) ⟨j1, j2⟩ ⟨j3, j4⟩ ⟨j5, j6⟩).mono ?_
      rintro x wt ⟨⟨T, rfl, hT⟩, hbt⟩
      obtain ⟨U, hU⟩ : ∃ U : ByteArray, U.data.toList = textL (pres cr).1 := ⟨bytesOf _, rfl⟩
      obtain ⟨hJP, hPU⟩ := JP_enc nm cr T U p dl kp sus HC0.out hT hU
      have hUz : U.size ≤ 2005 := by rw [size_of U _ hU]; exact textL_len _
      have hTz : T.size ≤ 5000 := by
        rw [size_of T _ hT]
        have h1 := minL_len [p, dl, kp, if sus then 1 else 0] (by simp; refine ⟨by omega, by omega, by omega, ?_⟩; split <;> omega)
        have h2 := textL_len (pres cr).1
        have h3 : nm.data.toList.length = nm.size := by rw [Array.length_toList]; rfl
        simp at h1
        simp [encL]
        omega
      have HTL := Lib.hid hT
      have HJP := Lib.hid hJP
      have HPU := Lib.hid hPU
      have hjt := fun o => (keep0 hbt (Nat.lt_of_succ_lt hzc) o).trans (hjc o)
      have hrt := fun o => (keep0 hbt hzc o).trans (hrc o)
      have hzt := Nat.lt_of_lt_of_le hzc hbt.size
      have Hbt := Lib.hid (bthen Hbc.out hbt)
      clear hbt hjc hrc hzc hT hU hJP hPU hLc hPc
      have hLt := hL.below Hbt.out
      have hPt := hP.below Hbt.out
      go_wp2_with fail
      go_at_call 32
      refine (jparse_any T _ hLt hPt (by omega)).mono ?_
      rintro x wu ⟨hx, hbu⟩
      have hxe : x = .returned (.tuple #[jobV nm U p dl kp sus, .int .i64 0]) := hx.uniq (.inl ⟨_, _, _, _, _, _, HJP.out, rfl⟩)
      subst hxe
      unfold jobV
      have hju := fun o => (alloc_old wu (.cells #[.string nm, .string U, .int .i64 p, .int .i64 dl, .int .i64 kp, .bool sus] 64) (Nat.lt_of_lt_of_le (Nat.lt_of_succ_lt hzt) hbu.size) o).trans ((keep0 hbu (Nat.lt_of_succ_lt hzt) o).trans (hjt o))
      have hru := fun o => (alloc_old wu (.cells #[.string nm, .string U, .int .i64 p, .int .i64 dl, .int .i64 kp, .bool sus] 64) (Nat.lt_of_lt_of_le hzt hbu.size) o).trans ((keep0 hbu hzt o).trans (hrt o))
      have hzu := alloc_new wu #[.string nm, .string U, .int .i64 p, .int .i64 dl, .int .i64 kp, .bool sus] 64
      have hlz : wu.heap.size < (wu.alloc (.cells #[.string nm, .string U, .int .i64 p, .int .i64 dl, .int .i64 kp, .bool sus] 64)).heap.size := by simp
      have hzt2 := Nat.lt_of_lt_of_le hzt hbu.size
      have hbU := bmore (bthen Hbt.out hbu) (.cells #[.string nm, .string U, .int .i64 p, .int .i64 dl, .int .i64 kp, .bool sus] 64)
      clear hbu hjt hrt hx hLt hPt
      go_upto_region 14 with fail
      generalize wu.alloc (.cells #[.string nm, .string U, .int .i64 p, .int .i64 dl, .int .i64 kp, .bool sus] 64) = wv at *
      have hl0 : w.heap.size < wv.heap.size := by omega
      have hl1 : w.heap.size + 1 < wv.heap.size := by omega
      have hLv := hL.below hbU
      have hPv := hP.below hbU
      have HbU := Lib.hid hbU
      have hbs : Below wv.heap.size wv wv := Below.refl _ _
      have HENC : Hid (∀ S : ByteArray, S.data.toList = encL nm.data.toList (pres cr).1 p dl kp sus → S = T) := fun S h => bytes_ext (h.trans HTL.out.symm)
      have HENU : Hid (∀ S : ByteArray, S.data.toList = encL nm.data.toList (pres U).1 p dl kp sus → S = T) := fun S h => by
        rw [HPU.out] at h
        exact bytes_ext (h.trans HTL.out.symm)
      clear hbU
      have hTT : (T.toList == T.toList) = true := by simp
      go_wp2_with fail
      go_at_call 40
      refine (rencode_any nm cr p dl kp sus _ (by omega) (by omega) ⟨j1, j2⟩ ⟨j3, j4⟩ ⟨j5, j6⟩).mono ?_
      rintro x wx1 ⟨⟨S, rfl, hSl⟩, hb1⟩
      obtain rfl := HENC.out S hSl
      have hjv := fun o => (keep0 hb1 hl0 o).trans (hju o)
      have hrv := fun o => (keep0 hb1 hl1 o).trans (hru o)
      have hzv := fun o => (keep0 hb1 hlz o).trans (hzu o)
      have ml0 := Nat.lt_of_lt_of_le hl0 hb1.size
      have ml1 := Nat.lt_of_lt_of_le hl1 hb1.size
      have mlz := Nat.lt_of_lt_of_le hlz hb1.size
      have Hb1 := Lib.hid (bthen HbU.out hb1)
      clear hb1 hju hru hzu hLv hPv hbs hl0 hl1 hlz hzt2 hzt hSl
      have hLv := hL.below Hb1.out
      have hPv := hP.below Hb1.out
      go_wp2_with fail
      go_at_call 39
      refine (encode_any nm U p dl kp sus _ hLv hPv (by omega) (by omega) ⟨j1, j2⟩ ⟨j3, j4⟩ ⟨j5, j6⟩).mono ?_
      rintro x wx2 ⟨⟨S2, rfl, hSl⟩, hb2⟩
      obtain rfl := HENU.out S2 hSl
      have hjy := fun o => (keep0 hb2 ml0 o).trans (hjv o)
      have hry := fun o => (keep0 hb2 ml1 o).trans (hrv o)
      have hqy := fun o => (keep0 hb2 mlz o).trans (hzv o)
      have hzy := Nat.lt_of_lt_of_le ml1 hb2.size
      have Hby := Lib.hid (bthen Hb1.out hb2)
      clear hb2 hjv hrv hzv hLv hPv ml0 ml1 mlz hSl
      -- the run's text
      go_wp2_with fail
      go_at_call 41
      refine (rencrun_any rn ra rb rc _ (by omega) ⟨l1, g1⟩ ⟨l2, g2⟩ ⟨l3, g3⟩).mono ?_
      rintro x we ⟨⟨S, rfl, hS⟩, hbe⟩
      have hrE := fun o => (keep0 hbe hzy o).trans (hry o)
      have hzE := Nat.lt_of_lt_of_le hzy hbe.size
      have HbE := Lib.hid (bthen Hby.out hbe)
      have HS := Lib.hid hS
      have hSz : S.size ≤ 3000 := by
        rw [size_of S _ hS]
        have h1 := minL_len [ra, rb, rc] (by simp; omega)
        have h2 : rn.data.toList.length = rn.size := by rw [Array.length_toList]; rfl
        simp at h1
        simp [runL]
        omega
      clear hbe hS hjy hqy
      have hmE := (hL.below HbE.out).max
      go_wp2_with fail
      go_at_call 34
      refine (parserun_any S _ hmE (by omega)).mono ?_
      rintro x wf ⟨hx, hbf⟩
      obtain ⟨m3, a3, b3, c3, e3, hxe, HOK⟩ := prun_form hx
      have HPS := Lib.hid hx
      subst hxe
      unfold runV
      have hrF := fun o => (keep0 hbf hzE o).trans (hrE o)
      have hzF := Nat.lt_of_lt_of_le hzE hbf.size
      have HbF := Lib.hid (bthen HbE.out hbf)
      clear hbf hrE hx hzE hmE
      go_wp2_with fail
      go_at_call 35
      refine (rrparse_any S _ (by omega)).mono ?_
      rintro x wg ⟨hx, hbg⟩
      have hxe := PrunPost.uniq HPS.out hx
      subst hxe
      unfold runV
      have hrG := fun o => (keep1 hbg hzF o).trans (hrF o)
      have hvG := keepN hbg
      have hvz := size1 hbg
      have hzG : w.heap.size + 1 < wg.heap.size := by omega
      have HbG := Lib.hid (bthen (bmore HbF.out _) hbg)
      clear hbg hrF hx HPS
      by_cases he3 : e3 ≠ 0
      · have q1 : (e3 == 0) = false := by simp [he3]
        have q2 : (e3 != 0) = true := by simp [he3]
        go_wp2
        go_ret
        exact ⟨rfl, bmore HbG.out _⟩
      · have he4 : e3 = 0 := by omega
        subst he4
        have hrH := fun o => (alloc_old wg (.cells #[.string m3, .int .i64 a3, .int .i64 b3, .int .i64 c3] 66) hzG o).trans (hrG o)
        clear he3
        go_wp2_with fail
        go_at_call 42
        refine (encrun_any rn ra rb rc _ (hP.below (bmore HbG.out _)) (by omega) ⟨l1, g1⟩ ⟨l2, g2⟩ ⟨l3, g3⟩).mono ?_
        rintro x wh ⟨⟨S2, rfl, hS2⟩, hbh⟩
        have hSS : (S2.toList == S.toList) = true := by rw [Lib.toList_data, Lib.toList_data, hS2, HS.out]; simp
        have HbH := Lib.hid (bthen (bmore HbG.out _) hbh)
        clear hbh hS2 hrH hrG
        go_wp2
        go_ret
        exact ⟨rfl, HbH.out⟩
end Go.Proofs.YtdpaiaeaamokeaaDoor.Job
