/- The contracts of cron.Expr.early, cron.Expr.late, cron.floor. -/
import Derived.Test.YtlldcoldnojbjaaGreatDoorCronFirst
import Derived.Test.YtlldcoldnojbjaaGreatDoorCronMatch
namespace Go.Proofs.YtlldcoldnojbjaaGreatDoor.Cron
open Go.RowKit Go

/-- May the j-th minute of a day be? -/
def mOk (ho mi : Nat) (j : Nat) : Bool := ho.testBit (j / 60) && mi.testBit (j % 60)
/-- The first minute of a day from f on. -/
def IsEarly (ho mi f : Nat) (r : Int) : Prop := (r = -1 ∧ ∀ j, f ≤ j → j < 1440 → mOk ho mi j = false) ∨ (∃ n : Nat, r = n ∧ f ≤ n ∧ n < 1440 ∧ mOk ho mi n = true ∧ ∀ j, f ≤ j → j < n → mOk ho mi j = false)
/-- The last one up to u. -/
def IsLate (ho mi u : Nat) (r : Int) : Prop := (r = -1 ∧ ∀ j, j ≤ u → mOk ho mi j = false) ∨ (∃ n : Nat, r = n ∧ n ≤ u ∧ mOk ho mi n = true ∧ ∀ j, n < j → j ≤ u → mOk ho mi j = false)
def EarlyPost (ho mi f : Nat) (e : Ending) : Prop := ∃ r : Int, e = .returned (.int .i64 r) ∧ IsEarly ho mi f r
def LatePost (ho mi u : Nat) (e : Ending) : Prop := ∃ r : Int, e = .returned (.int .i64 r) ∧ IsLate ho mi u r

theorem cutH (ho i : Nat) : (ho &&& spanN 0 23).testBit i = (ho.testBit i && decide (i ≤ 23)) := by
  rw [Nat.testBit_and, span_test 0 23 i (by omega)]; simp
theorem cutM (mi i : Nat) : (mi &&& spanN 0 59).testBit i = (mi.testBit i && decide (i ≤ 59)) := by
  rw [Nat.testBit_and, span_test 0 59 i (by omega)]; simp
theorem mOk_cut (ho mi j : Nat) (hj : j < 1440) : mOk ho mi j = ((ho &&& spanN 0 23).testBit (j / 60) && (mi &&& spanN 0 59).testBit (j % 60)) := by
  rw [cutH, cutM, mOk]
  have h1 : j / 60 ≤ 23 := by omega
  have h2 : j % 60 ≤ 59 := by omega
  simp [h1, h2]
theorem first_bd (b a i : Nat) (r : Int) (h : IsFirst b a r) (hr : r = i) : a ≤ i ∧ b.testBit i = true ∧ ∀ j, a ≤ j → j < i → b.testBit j = false := by
  rcases h with ⟨h, -⟩ | ⟨n, h, h1, h2, h3⟩
  · omega
  · obtain rfl : n = i := by omega
    exact ⟨h1, h2, h3⟩
theorem first_no (b a : Nat) (r : Int) (h : IsFirst b a r) (hr : r < 0) : ∀ j, a ≤ j → b.testBit j = false := by
  rcases h with ⟨-, h⟩ | ⟨n, h, -⟩
  · exact h
  · omega
theorem latest_bd (b i : Nat) (z r : Int) (h : IsLatest b z r) (hr : r = i) : (i : Int) ≤ z ∧ b.testBit i = true ∧ ∀ j : Nat, i < j → (j : Int) ≤ z → b.testBit j = false := by
  rcases h with ⟨h, -⟩ | ⟨n, h, h1, h2, h3⟩
  · omega
  · obtain rfl : n = i := by omega
    exact ⟨h1, h2, h3⟩
theorem latest_no (b : Nat) (z r : Int) (h : IsLatest b z r) (hr : r < 0) : ∀ j : Nat, (j : Int) ≤ z → b.testBit j = false := by
  rcases h with ⟨-, h⟩ | ⟨n, h, -⟩
  · exact h
  · omega

section
variable {ho mi H M : Nat} (hH : ho &&& spanN 0 23 = H) (hM : mi &&& spanN 0 59 = M)
include hH hM
theorem mok (j : Nat) (hj : j < 1440) : mOk ho mi j = (H.testBit (j / 60) && M.testBit (j % 60)) := by rw [← hH, ← hM]; exact mOk_cut ho mi j hj
theorem early_hit (f a r m : Nat) (hf : f < 1440) (ha : f / 60 = a) (hr : f % 60 = r) (h1 : H.testBit a = true) (h2 : IsFirst M r m) : IsEarly ho mi f (60 * a + m) := by
  obtain ⟨p, q, s⟩ := first_bd M r m _ h2 rfl
  have hm : m ≤ 59 := by
    rw [← hM, cutM] at q; simp at q; exact q.2
  refine .inr ⟨60 * a + m, by omega, by omega, by omega, ?_, fun j h3 h4 => ?_⟩
  · rw [mok hH hM _ (by omega), show (60 * a + m) / 60 = a by omega, show (60 * a + m) % 60 = m by omega, h1, q]; rfl
  · rw [mok hH hM j (by omega), s (j % 60) (by omega) (by omega)]; simp
theorem early_miss (f a r : Nat) (hf : f < 1440) (ha : f / 60 = a) (hr : f % 60 = r) (m : Int) (h2 : IsFirst M r m) (hm : m < 0) : ∀ j, f ≤ j → j / 60 = a → mOk ho mi j = false := by
  intro j h3 h4
  rw [mok hH hM j (by omega), first_no M r m h2 hm (j % 60) (by omega)]; simp
theorem early_miss2 (f a : Nat) (hf : f < 1440) (ha : f / 60 = a) (h : Int) (h2 : IsFirst H a h) (hm : h ≠ a) : (∀ j, f ≤ j → j / 60 = a → mOk ho mi j = false) ∧ IsFirst H (a + 1) h := by
  have hb : H.testBit a = false := by
    rcases h2 with ⟨-, k⟩ | ⟨n, k, k1, k2, k3⟩
    · exact k a (Nat.le_refl _)
    · exact k3 a (Nat.le_refl _) (by omega)
  refine ⟨fun j h3 h4 => ?_, ?_⟩
  · rw [mok hH hM j (by omega), h4, hb]; simp
  · rcases h2 with ⟨k0, k⟩ | ⟨n, k, k1, k2, k3⟩
    · exact .inl ⟨k0, fun i hi => k i (by omega)⟩
    · exact .inr ⟨n, k, by omega, k2, fun i hi => k3 i (by omega)⟩
theorem early_none (f a : Nat) (hf : f < 1440) (ha : f / 60 = a) (hA : ∀ j, f ≤ j → j / 60 = a → mOk ho mi j = false) (h m : Int) (h1 : IsFirst H (a + 1) h) (h2 : IsFirst M 0 m) (hn : h < 0 ∨ m < 0) : IsEarly ho mi f (-1) := by
  refine .inl ⟨rfl, fun j h3 h4 => ?_⟩
  by_cases hj : j / 60 = a
  · exact hA j h3 hj
  · rw [mok hH hM j h4]
    rcases hn with hn | hn
    · rw [first_no H (a + 1) h h1 hn (j / 60) (by omega)]; rfl
    · rw [first_no M 0 m h2 hn (j % 60) (by omega)]; simp
theorem early_some (f a : Nat) (hf : f < 1440) (ha : f / 60 = a) (hA : ∀ j, f ≤ j → j / 60 = a → mOk ho mi j = false) (h m : Nat) (h1 : IsFirst H (a + 1) h) (h2 : IsFirst M 0 m) : IsEarly ho mi f (60 * h + m) := by
  obtain ⟨p1, q1, s1⟩ := first_bd H (a + 1) h _ h1 rfl
  obtain ⟨p2, q2, s2⟩ := first_bd M 0 m _ h2 rfl
  have hm : m ≤ 59 := by rw [← hM, cutM] at q2; simp at q2; exact q2.2
  have hh : h ≤ 23 := by rw [← hH, cutH] at q1; simp at q1; exact q1.2
  refine .inr ⟨60 * h + m, by omega, by omega, by omega, ?_, fun j h3 h4 => ?_⟩
  · rw [mok hH hM _ (by omega), show (60 * h + m) / 60 = h by omega, show (60 * h + m) % 60 = m by omega, q1, q2]; rfl
  · by_cases hj : j / 60 = a
    · exact hA j h3 hj
    · rw [mok hH hM j (by omega)]
      by_cases hj2 : j / 60 = h
      · rw [s2 (j % 60) (by omega) (by omega)]; simp
      · rw [s1 (j / 60) (by omega) (by omega)]; rfl
theorem late_hit (f a r m : Nat) (hf : f < 1440) (ha : f / 60 = a) (hr : f % 60 = r) (h1 : H.testBit a = true) (h2 : IsLatest M r m) : IsLate ho mi f (60 * a + m) := by
  obtain ⟨p, q, s⟩ := latest_bd M m _ _ h2 rfl
  refine .inr ⟨60 * a + m, by omega, by omega, ?_, fun j h3 h4 => ?_⟩
  · rw [mok hH hM _ (by omega), show (60 * a + m) / 60 = a by omega, show (60 * a + m) % 60 = m by omega, h1, q]; rfl
  · rw [mok hH hM j (by omega), s (j % 60) (by omega) (by omega)]; simp
theorem late_miss (f a r : Nat) (hf : f < 1440) (ha : f / 60 = a) (hr : f % 60 = r) (m : Int) (h2 : IsLatest M r m) (hm : m < 0) : ∀ j, j ≤ f → j / 60 = a → mOk ho mi j = false := by
  intro j h3 h4
  rw [mok hH hM j (by omega), latest_no M r m h2 hm (j % 60) (by omega)]; simp
theorem late_miss2 (f a : Nat) (hf : f < 1440) (ha : f / 60 = a) (h : Int) (h2 : IsLatest H a h) (hm : h ≠ a) : (∀ j, j ≤ f → j / 60 = a → mOk ho mi j = false) ∧ IsLatest H ((a : Int) - 1) h := by
  have hb : H.testBit a = false := by
    rcases h2 with ⟨-, k⟩ | ⟨n, k, k1, k2, k3⟩
    · exact k a (Int.le_refl _)
    · exact k3 a (by omega) (Int.le_refl _)
  refine ⟨fun j h3 h4 => ?_, ?_⟩
  · rw [mok hH hM j (by omega), h4, hb]; simp
  · rcases h2 with ⟨k0, k⟩ | ⟨n, k, k1, k2, k3⟩
    · exact .inl ⟨k0, fun i hi => k i (by omega)⟩
    · exact .inr ⟨n, k, by omega, k2, fun i hi hj => k3 i hi (by omega)⟩
theorem late_none (f a : Nat) (hf : f < 1440) (ha : f / 60 = a) (hA : ∀ j, j ≤ f → j / 60 = a → mOk ho mi j = false) (h m : Int) (h1 : IsLatest H ((a : Int) - 1) h) (h2 : IsLatest M 59 m) (hn : h < 0 ∨ m < 0) : IsLate ho mi f (-1) := by
  refine .inl ⟨rfl, fun j h3 => ?_⟩
  by_cases hj : j / 60 = a
  · exact hA j h3 hj
  · rw [mok hH hM j (by omega)]
    rcases hn with hn | hn
    · rw [latest_no H _ h h1 hn (j / 60) (by omega)]; rfl
    · rw [latest_no M _ m h2 hn (j % 60) (by omega)]; simp
theorem late_some (f a : Nat) (hf : f < 1440) (ha : f / 60 = a) (hA : ∀ j, j ≤ f → j / 60 = a → mOk ho mi j = false) (h m : Nat) (h1 : IsLatest H ((a : Int) - 1) h) (h2 : IsLatest M 59 m) : IsLate ho mi f (60 * h + m) := by
  obtain ⟨p1, q1, s1⟩ := latest_bd H h _ _ h1 rfl
  obtain ⟨p2, q2, s2⟩ := latest_bd M m _ _ h2 rfl
  refine .inr ⟨60 * h + m, by omega, by omega, ?_, fun j h3 h4 => ?_⟩
  · rw [mok hH hM _ (by omega), show (60 * h + m) / 60 = h by omega, show (60 * h + m) % 60 = m by omega, q1, q2]; rfl
  · by_cases hj : j / 60 = a
    · exact hA j h4 hj
    · rw [mok hH hM j (by omega)]
      by_cases hj2 : j / 60 = h
      · rw [s2 (j % 60) (by omega) (by omega)]; simp
      · rw [s1 (j / 60) (by omega) (by omega)]; rfl
end

theorem quiet_draw {P : Program} {f : FuncId} {args : Array Value} {w : World} {n : Nat} {v : Value}
    (h : Calls P f args (w.drewN n) fun e w' => e = .returned v ∧ ∃ m, w' = (w.drewN n).drewN m) : Calls P f args (w.drewN n) fun e w'' => e = .returned v ∧ ∃ m, w'' = w.drewN m :=
  h.mono fun _ _ ⟨he, m, hm⟩ => ⟨he, n + m, by rw [hm, World.drewN_drewN]⟩
theorem span_i (x y : Int) (w : World) (h : 0 ≤ x ∧ x ≤ y ∧ y ≤ 62) : Calls Tryz.prog 41 #[.int .i64 x, .int .i64 y] w fun e w' => e = .returned (.int .u64 (spanN x.toNat y.toNat : Nat)) ∧ ∃ n, w' = w.drewN n := by
  have := span_any x.toNat y.toNat w (by omega) (by omega)
  rw [Int.toNat_of_nonneg (by omega), Int.toNat_of_nonneg (by omega)] at this
  exact this

set_option maxRecDepth 100000 in
theorem floor_any (n : Int) (w : World) (h0 : -9000000000000000000 ≤ n) (h9 : n ≤ 9000000000000000000) :
    Calls Tryz.prog 22 #[.int .i64 n] w fun e w' => e = .returned (.int .i64 (n - n % 1440)) ∧ w' = w := by
  obtain ⟨p, q, r1, r2⟩ := tmod_within n 1440 (by omega)
  have hm : 0 ≤ n % 1440 ∧ n % 1440 < 1440 := by omega
  obtain ⟨k, hk⟩ : ∃ k, n % 1440 = k := ⟨_, rfl⟩
  rw [hk] at p q hm ⊢
  clear hk
  by_cases ht : n.tmod 1440 < 0
  · have e := p ht
    clear p q
    go_enter Tryz.func22, Tryz.ntmps22
    go_wp2
    go_ret
    exact ⟨ret_int (by first | rfl | (unfold wrap64; omega)), rfl⟩
  · have e := q ht
    clear p q
    go_enter Tryz.func22, Tryz.ntmps22
    go_wp2
    go_ret
    exact ⟨rfl, rfl⟩

theorem cell_lt {w : World} {b o : Nat} {v : Value} (h : w.cell? ⟨b, o, none⟩ = some v) : b < w.heap.size := by
  by_cases c : b < w.heap.size
  · exact c
  · simp [World.cell?, Array.getElem?_eq_none (Nat.le_of_not_lt c)] at h
theorem _root_.Go.Proofs.TabAt.below {g : Nat} {tab : List Nat} {w w' : World} (h : TabAt g tab w) (hb : Below w.heap.size w w') : TabAt g tab w' := fun j hj =>
  (hb.cell (p := ⟨g, j, none⟩) (cell_lt (h j hj))).trans (h j hj)

set_option maxHeartbeats 1000000 in
set_option maxRecDepth 100000 in
theorem early_any (e : Ex) (f : Nat) (w : World) (he : ExOk e) (hf : f < 1440) (hT : TabAt 2 Lib.deBruijn64tab w) :
    Calls Tryz.prog 21 #[exV e, .int .i64 f] w fun x w' => EarlyPost e.ho e.mi f x ∧ Below w.heap.size w w' := by
  obtain ⟨mi, ho, da, mo, wk, ad, aw⟩ := e
  obtain ⟨b1, b2, -, -, -⟩ := he
  dsimp only at b1 b2
  unfold exV
  dsimp only
  obtain ⟨a, ha⟩ : ∃ a : Nat, (f : Int) / 60 = a := ⟨f / 60, by omega⟩
  obtain ⟨r, hr⟩ : ∃ r : Nat, (f : Int) % 60 = r := ⟨f % 60, by omega⟩
  have HA : Hid (f / 60 = a) := by show _ = _; omega
  have HR : Hid (f % 60 = r) := by show _ = _; omega
  have hab : a ≤ 23 := by omega
  have hrb : r ≤ 59 := by omega
  have e1 : bits BinOp.and IntKind.u64 ho (spanN 0 23 : Nat) = (ho &&& spanN 0 23 : Nat) := u64_and_nat _ _ (by omega) (by have := span_lt 0 23 (by omega); omega)
  have e2 : bits BinOp.and IntKind.u64 mi (spanN 0 59 : Nat) = (mi &&& spanN 0 59 : Nat) := u64_and_nat _ _ (by omega) (by have := span_lt 0 59 (by omega); omega)
  have hHl : ho &&& spanN 0 23 < 18446744073709551616 := Nat.lt_of_le_of_lt Nat.and_le_left b2
  have hMl : mi &&& spanN 0 59 < 18446744073709551616 := Nat.lt_of_le_of_lt Nat.and_le_left b1
  obtain ⟨H, hH⟩ : ∃ H, ho &&& spanN 0 23 = H := ⟨_, rfl⟩
  obtain ⟨M, hM⟩ : ∃ M, mi &&& spanN 0 59 = M := ⟨_, rfl⟩
  rw [hH] at e1 hHl
  rw [hM] at e2 hMl
  have HH := Lib.hid hH
  have HM := Lib.hid hM
  clear hH hM
  go_enter Tryz.func21, Tryz.ntmps21
  go_wp2
  go_quiet ((go_at_call 41; exact quiet_draw (span_i _ _ _ (by omega))))
  go_wp2_with fail
  go_at_call 47
  refine (first_any H a _ hHl (by omega) (hT.below (below_alloc1 _ _ _))).mono ?_
  rintro x1 w1 ⟨⟨h, rfl, hI, hlo, hhi⟩, hb1⟩
  have hbel := bthen (below_alloc1 _ _ _) hb1
  have hT1 := hT.below hbel
  clear hb1 hT
  by_cases hh : h = a
  · subst hh
    have h1 : H.testBit a = true := (first_bd H a a _ hI rfl).2.1
    go_wp2_with fail
    go_at_call 47
    refine (first_any M r _ hMl (by omega) hT1).mono ?_
    rintro x2 w2 ⟨⟨m, rfl, hJ, hlo2, hhi2⟩, hb2⟩
    have hbel2 := bthen hbel hb2
    have hT2 := hT1.below hb2
    clear hb2 hT1 hbel
    by_cases hm : 0 ≤ m
    · obtain ⟨k, rfl⟩ : ∃ k : Nat, m = k := ⟨m.toNat, by omega⟩
      have HE := Lib.hid (early_hit HH.out HM.out f a r k hf HA.out HR.out h1 hJ)
      go_wp2
      go_ret
      exact ⟨⟨_, rfl, HE.out⟩, hbel2⟩
    · have hm2 : m < 0 := by omega
      have HA2 := Lib.hid (early_miss HH.out HM.out f a r hf HA.out HR.out m hJ hm2)
      clear hI hJ h1
      go_wp2_with fail
      go_at_call 47
      refine (first_any H (a + 1) _ hHl (by omega) hT2).mono ?_
      rintro x3 w3 ⟨⟨h3, rfl, hI, hlo, hhi⟩, hb3⟩
      have hbel3 := bthen hbel2 hb3
      have hT3 := hT2.below hb3
      clear hb3 hT2 hbel2 hm hm2 hlo2 hhi2
      go_wp2_with fail
      go_at_call 47
      refine (first_any M 0 _ hMl (by omega) hT3).mono ?_
      rintro x4 w4 ⟨⟨m4, rfl, hJ, hlo4, hhi4⟩, hb4⟩
      have hbel4 := bthen hbel3 hb4
      clear hb4 hbel3 hT3
      by_cases g1 : h3 < 0
      · have HE := Lib.hid (early_none HH.out HM.out f a hf HA.out HA2.out h3 m4 hI hJ (.inl g1))
        go_wp2
        go_ret
        exact ⟨⟨_, rfl, HE.out⟩, hbel4⟩
      · by_cases g2 : m4 < 0
        · have HE := Lib.hid (early_none HH.out HM.out f a hf HA.out HA2.out h3 m4 hI hJ (.inr g2))
          go_wp2
          go_ret
          exact ⟨⟨_, rfl, HE.out⟩, hbel4⟩
        · obtain ⟨kh, rfl⟩ : ∃ k : Nat, h3 = k := ⟨h3.toNat, by omega⟩
          obtain ⟨km, rfl⟩ : ∃ k : Nat, m4 = k := ⟨m4.toNat, by omega⟩
          have HE := Lib.hid (early_some HH.out HM.out f a hf HA.out HA2.out kh km hI hJ)
          go_wp2
          go_ret
          exact ⟨⟨_, rfl, HE.out⟩, hbel4⟩
  · have hq : (h == (a : Int)) = false := by simp; exact hh
    obtain ⟨hA2, hI2⟩ := early_miss2 HH.out HM.out f a hf HA.out h hI hh
    have HA2 := Lib.hid hA2
    clear hI hh hA2
    go_wp2_with fail
    go_at_call 47
    refine (first_any M 0 _ hMl (by omega) hT1).mono ?_
    rintro x4 w4 ⟨⟨m4, rfl, hJ, hlo4, hhi4⟩, hb4⟩
    have hbel4 := bthen hbel hb4
    clear hb4 hbel hT1
    by_cases g1 : h < 0
    · have HE := Lib.hid (early_none HH.out HM.out f a hf HA.out HA2.out h m4 hI2 hJ (.inl g1))
      go_wp2
      go_ret
      exact ⟨⟨_, rfl, HE.out⟩, hbel4⟩
    · by_cases g2 : m4 < 0
      · have HE := Lib.hid (early_none HH.out HM.out f a hf HA.out HA2.out h m4 hI2 hJ (.inr g2))
        go_wp2
        go_ret
        exact ⟨⟨_, rfl, HE.out⟩, hbel4⟩
      · obtain ⟨kh, rfl⟩ : ∃ k : Nat, h = k := ⟨h.toNat, by omega⟩
        obtain ⟨km, rfl⟩ : ∃ k : Nat, m4 = k := ⟨m4.toNat, by omega⟩
        have HE := Lib.hid (early_some HH.out HM.out f a hf HA.out HA2.out kh km hI2 hJ)
        go_wp2
        go_ret
        exact ⟨⟨_, rfl, HE.out⟩, hbel4⟩
end Go.Proofs.YtlldcoldnojbjaaGreatDoor.Cron
