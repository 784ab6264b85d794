/- JobKeys, walked. -/
import Derived.Test.YtdpaiaeaamokeaaDoorJobKey
import Derived.Test.YtdpaiaeaamokeaaDoorJobNamesK
import Derived.Laws.Cover1
namespace Go.Proofs.YtdpaiaeaamokeaaDoor.Job
open Go.RowKit Go Go.Proofs.YtdpaiaeaamokeaaDoor.Cron
theorem tri (a b : Nat) : (a < b ∧ a ≠ b) ∨ a = b ∨ (b < a ∧ a ≠ b) := by omega
set_option maxHeartbeats 2000000 in
set_option maxRecDepth 100000 in
theorem keys_walk (s : ByteArray) (ws : s.size ≤ 140737488351232) (o : ByteArray) (wo : o.size ≤ 140737488351232) (a0 : Int) (w0 : (Lit.int .i64 a0).wf = true) (a1 : Int) (w1 : (Lit.int .i64 a1).wf = true) (w : World) (hL : Laid w) (hP : Pow w) :
    Calls Tryd.prog 6 #[.string s, .string o, .int .i64 a0, .int .i64 a1] w fun e w' => e = .returned (.bool true) ∧ Below w.heap.size w w' := by
  clear w0 w1
  obtain ⟨pa, hpa⟩ : ∃ p : Nat, a0 % 5250000000 + 964500000 = p := ⟨(a0 % 5250000000 + 964500000).toNat, by omega⟩
  obtain ⟨pb, hpb⟩ : ∃ p : Nat, a1 % 5250000000 + 964500000 = p := ⟨(a1 % 5250000000 + 964500000).toNat, by omega⟩
  have ha : a0 % 5250000000 = (pa : Int) - 964500000 := by omega
  have hb : a1 % 5250000000 = (pb : Int) - 964500000 := by omega
  have hpab : pa < 6214500000 := by omega
  have hpbb : pb < 6214500000 := by omega
  have hpa0 : 964500000 ≤ pa := by omega
  have hpb0 : 964500000 ≤ pb := by omega
  have HA := Lib.hid ha
  have HB := Lib.hid hb
  clear ha hb hpa hpb
  obtain ⟨ns, hns⟩ : ∃ b, nameB s = b := ⟨_, rfl⟩
  obtain ⟨no, hno⟩ : ∃ b, nameB o = b := ⟨_, rfl⟩
  have HNS := Lib.hid hns
  have HNO := Lib.hid hno
  clear hns hno
  go_enter Tryd.func6, Tryd.ntmps6
  go_wp2_with fail
  go_at_call 9
  refine (known17 _ hL hP).mono ?_
  rintro x wk0 ⟨rfl, hbel⟩
  go_wp2_with fail
  go_at_call 26
  refine (rname_any s _ (by omega)).mono ?_
  rw [HNS.out]
  rintro x wk1 ⟨rfl, hb1⟩
  have hbel1 := bthen hbel hb1
  clear hb1 hbel
  cases ns with
  | false =>
    go_wp2
    go_ret
    exact ⟨rfl, hbel1⟩
  | true =>
  go_wp2_with fail
  go_at_call 26
  refine (rname_any o _ (by omega)).mono ?_
  rw [HNO.out]
  rintro x wk2 ⟨rfl, hb1⟩
  have hbel2 := bthen hbel1 hb1
  clear hb1 hbel1
  cases no with
  | false =>
    go_wp2
    go_ret
    exact ⟨rfl, hbel2⟩
  | true =>
  have hos := (nameB_iff s).1 HNS.out
  have hoo := (nameB_iff o).1 HNO.out
  have hsz : s.size ≤ 30 := hos.2.2
  have hoz : o.size ≤ 30 := hoo.2.2
  obtain ⟨X, hX⟩ : ∃ X, rkB s pa = X := ⟨_, rfl⟩
  obtain ⟨Y, hY⟩ : ∃ Y, rkB s pb = Y := ⟨_, rfl⟩
  obtain ⟨Z, hZ⟩ : ∃ Z, rkB o pb = Z := ⟨_, rfl⟩
  have hXz : (X.size : Int) = s.size + 15 := by rw [← hX, rk_size]; rfl
  have hlt := rk_less s pa pb (by omega) (by omega)
  have heq := rk_eq s pa pb (by omega) (by omega)
  have hin := rk_in s o pb hos hoo
  rw [hX, hY] at hlt heq
  rw [hZ] at hin
  unfold loB hiB at hin
  have HX := Lib.hid hX
  have HY := Lib.hid hY
  have HZ := Lib.hid hZ
  clear hos hoo hX hY hZ
  go_wp2_with fail
  go_at_call 10
  refine (within17 a0 5250000000 _ (by omega) (by omega)).mono ?_
  rw [HA.out]
  rintro x w2 ⟨rfl, rfl⟩
  go_wp2_with fail
  go_at_call 10
  refine (within17 a1 5250000000 _ (by omega) (by omega)).mono ?_
  rw [HB.out]
  rintro x w2 ⟨rfl, rfl⟩
  go_wp2_with fail
  go_at_call 27
  refine (runkey_any s _ pa _ (by omega) (by omega) (by omega) (hP.below hbel2)).mono ?_
  rw [HX.out]
  rintro x w3 ⟨rfl, hb3⟩
  have hbel3 := bthen hbel2 hb3
  clear hb3 hbel2
  go_wp2_with fail
  go_at_call 27
  refine (runkey_any s _ pb _ (by omega) (by omega) (by omega) (hP.below hbel3)).mono ?_
  rw [HY.out]
  rintro x w4 ⟨rfl, hb4⟩
  have hbel4 := bthen hbel3 hb4
  clear hb4 hbel3
  go_wp2_with fail
  go_at_call 28
  refine (rrunkey_any s _ pa _ (by omega) (by omega) (by omega)).mono ?_
  rw [HX.out]
  rintro x w5 ⟨rfl, hb5⟩
  have hbel5 := bthen hbel4 hb5
  clear hb5 hbel4
  obtain ⟨p, hp⟩ : ∃ p, Op.bytesLess Z.toList ((⟨#[114, 117, 110, 47]⟩ : ByteArray) ++ s ++ ⟨#[47]⟩).toList = p := ⟨_, rfl⟩
  obtain ⟨q, hq⟩ : ∃ q, Op.bytesLess Z.toList ((⟨#[114, 117, 110, 47]⟩ : ByteArray) ++ s ++ ⟨#[48]⟩).toList = q := ⟨_, rfl⟩
  obtain ⟨e, he⟩ : ∃ e, (s.toList == o.toList) = e := ⟨_, rfl⟩
  rw [he, hp, hq] at hin
  rcases tri pa pb with ⟨t1, t2⟩ | t1 | ⟨t1, t2⟩
  · have q1 : Op.bytesLess X.toList Y.toList = true := by rw [hlt]; simpa using t1
    have q2 : (X.toList == Y.toList) = false := by rw [heq]; simpa using t2
    have q3 : ((pa : Int) - 964500000 - 1035500000 == (pb : Int) - 964500000 - 1035500000) = false := by simp; omega
    clear hlt heq t2
    go_wp2_with fail
    go_at_call 29
    refine (key_any s _ (by omega)).mono ?_
    rintro x w6 ⟨rfl, rfl⟩
    go_wp2_with fail
    go_at_call 30
    refine (lastkey_any s _ (by omega)).mono ?_
    rintro x w6 ⟨rfl, rfl⟩
    go_wp2_with fail
    go_at_call 31
    refine (actkey_any s _ (by omega)).mono ?_
    rintro x w6 ⟨rfl, rfl⟩
    go_wp2_with fail
    go_at_call 27
    refine (runkey_any o _ pb _ (by omega) (by omega) (by omega) (hP.below hbel5)).mono ?_
    rw [HZ.out]
    rintro x w7 ⟨rfl, hb7⟩
    have hbel7 := bthen hbel5 hb7
    clear hb7 hbel5
    cases p with
    | true =>
      cases e with
      | true => simp at hin
      | false =>
        go_wp2
        go_ret
        exact ⟨rfl, hbel7⟩
    | false =>
      cases q with
      | true =>
        cases e with
        | false => simp at hin
        | true =>
          go_wp2
          go_ret
          exact ⟨rfl, hbel7⟩
      | false =>
        cases e with
        | true => simp at hin
        | false =>
          go_wp2
          go_ret
          exact ⟨rfl, hbel7⟩
  · have q1 : Op.bytesLess X.toList Y.toList = false := by rw [hlt]; simp; omega
    have q2 : (X.toList == Y.toList) = true := by rw [heq]; simpa using t1
    have q3 : ((pa : Int) - 964500000 - 1035500000 == (pb : Int) - 964500000 - 1035500000) = true := by simp; omega
    have t4 : ¬ (pa : Int) - 964500000 - 1035500000 < (pb : Int) - 964500000 - 1035500000 := by omega
    clear hlt heq t1
    go_wp2_with fail
    go_at_call 29
    refine (key_any s _ (by omega)).mono ?_
    rintro x w6 ⟨rfl, rfl⟩
    go_wp2_with fail
    go_at_call 30
    refine (lastkey_any s _ (by omega)).mono ?_
    rintro x w6 ⟨rfl, rfl⟩
    go_wp2_with fail
    go_at_call 31
    refine (actkey_any s _ (by omega)).mono ?_
    rintro x w6 ⟨rfl, rfl⟩
    go_wp2_with fail
    go_at_call 27
    refine (runkey_any o _ pb _ (by omega) (by omega) (by omega) (hP.below hbel5)).mono ?_
    rw [HZ.out]
    rintro x w7 ⟨rfl, hb7⟩
    have hbel7 := bthen hbel5 hb7
    clear hb7 hbel5
    cases p with
    | true =>
      cases e with
      | true => simp at hin
      | false =>
        go_wp2
        go_ret
        exact ⟨rfl, hbel7⟩
    | false =>
      cases q with
      | true =>
        cases e with
        | false => simp at hin
        | true =>
          go_wp2
          go_ret
          exact ⟨rfl, hbel7⟩
      | false =>
        cases e with
        | true => simp at hin
        | false =>
          go_wp2
          go_ret
          exact ⟨rfl, hbel7⟩
  · have q1 : Op.bytesLess X.toList Y.toList = false := by rw [hlt]; simp; omega
    have q2 : (X.toList == Y.toList) = false := by rw [heq]; simpa using t2
    have q3 : ((pa : Int) - 964500000 - 1035500000 == (pb : Int) - 964500000 - 1035500000) = false := by simp; omega
    clear hlt heq t2
    go_wp2_with fail
    go_at_call 29
    refine (key_any s _ (by omega)).mono ?_
    rintro x w6 ⟨rfl, rfl⟩
    go_wp2_with fail
    go_at_call 30
    refine (lastkey_any s _ (by omega)).mono ?_
    rintro x w6 ⟨rfl, rfl⟩
    go_wp2_with fail
    go_at_call 31
    refine (actkey_any s _ (by omega)).mono ?_
    rintro x w6 ⟨rfl, rfl⟩
    go_wp2_with fail
    go_at_call 27
    refine (runkey_any o _ pb _ (by omega) (by omega) (by omega) (hP.below hbel5)).mono ?_
    rw [HZ.out]
    rintro x w7 ⟨rfl, hb7⟩
    have hbel7 := bthen hbel5 hb7
    clear hb7 hbel5
    cases p with
    | true =>
      cases e with
      | true => simp at hin
      | false =>
        go_wp2
        go_ret
        exact ⟨rfl, hbel7⟩
    | false =>
      cases q with
      | true =>
        cases e with
        | false => simp at hin
        | true =>
          go_wp2
          go_ret
          exact ⟨rfl, hbel7⟩
      | false =>
        cases e with
        | true => simp at hin
        | false =>
          go_wp2
          go_ret
          exact ⟨rfl, hbel7⟩
end Go.Proofs.YtdpaiaeaamokeaaDoor.Job
