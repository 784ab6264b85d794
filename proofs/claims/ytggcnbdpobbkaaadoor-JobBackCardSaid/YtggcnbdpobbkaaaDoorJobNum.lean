/- The contract of job.number. -/
import Derived.Test.YtggcnbdpobbkaaaDoorJobSpec
import Derived.Test.YtggcnbdpobbkaaaDoorJobName
import Derived.Test.YtggcnbdpobbkaaaDoorShelf
namespace Go.Proofs.YtggcnbdpobbkaaaDoor.Job
open Go.RowKit Go Go.Proofs.YtggcnbdpobbkaaaDoor.Cron

/-- The number that digits say, behind a sign or none. -/
def JN (d : List UInt8) (neg : Bool) : Option Int := if Jd d ∧ (neg = true → d ≠ [48]) then some (if neg then -(dval d : Int) else dval d) else none
theorem jnum_neg (d : List UInt8) : jnum (45 :: d) = JN d true := by simp [jnum, JN]
theorem jnum_pos (l : List UInt8) (h : l.head? ≠ some 45) : jnum l = JN l false := by
  cases l with
  | nil =>
    have hn : ¬ Jd [] := fun k => by have := k.2.1; simp at this
    simp [jnum, JN, hn]
  | cons c d =>
    have hc : c ≠ 45 := by simpa using h
    simp [jnum, JN, hc]
theorem trim_minus (l : List UInt8) : (l.head? = some 45 ∧ l = 45 :: Lib.trimPrefix l [45]) ∨ (l.head? ≠ some 45 ∧ Lib.trimPrefix l [45] = l) := by
  cases l with
  | nil => right; simp [Lib.trimPrefix, Lib.hasPrefix]
  | cons c d =>
    by_cases h : c = 45
    · subst h; left; simp [Lib.trimPrefix, Lib.hasPrefix, List.isPrefixOf]
    · right
      have : ((45 : UInt8) == c) = false := by simp [Ne.symm h]
      simp [Lib.trimPrefix, Lib.hasPrefix, List.isPrefixOf, this, h]
theorem JN_empty (neg : Bool) : JN [] neg = none := by
  unfold JN
  rw [if_neg]
  intro h
  have := h.1.2.1
  simp at this
theorem JN_long (d : List UInt8) (neg : Bool) (h : 18 < d.length) : JN d neg = none := by
  unfold JN
  rw [if_neg]
  intro k
  have := k.1.2.2.1
  omega
theorem JN_nought (d : List UInt8) (neg : Bool) (h : d.head? = some 48) (h2 : neg = true ∨ d ≠ [48]) : JN d neg = none := by
  unfold JN
  rw [if_neg]
  intro k
  have h3 := k.1.2.2.2 h
  have h4 : d = [48] := by
    cases d with
    | nil => simp at h
    | cons c r =>
      cases r with
      | nil => simpa using h
      | cons _ _ => simp at h3
  rcases h2 with h2 | h2
  · exact k.2 h2 h4
  · exact h2 h4
theorem JN_bad (d : List UInt8) (neg : Bool) (c : UInt8) (hc : c ∈ d) (h : isDig c = false) : JN d neg = none := by
  unfold JN
  rw [if_neg]
  intro k
  have := List.all_eq_true.1 k.1.1 c hc
  rw [h] at this; cases this
theorem JN_good (d : List UInt8) (neg : Bool) (h : d.all isDig = true) (h1 : 1 ≤ d.length) (h2 : d.length ≤ 18) (h3 : d.head? = some 48 → neg = false ∧ d = [48]) : JN d neg = some (if neg then -(dval d : Int) else dval d) := by
  unfold JN
  rw [if_pos]
  refine ⟨⟨h, h1, h2, fun k => by rw [(h3 k).2]; rfl⟩, fun hn hd => ?_⟩
  have := (h3 (by rw [hd]; rfl)).1
  rw [hn] at this; cases this
def NumPost (o : Option Int) (x : Ending) : Prop := x = .returned (.tuple #[.int .i64 (o.getD 0), .bool o.isSome])
theorem num_none {o : Option Int} (h : o = none) : Ending.returned (.tuple #[.int .i64 0, .bool false]) = .returned (.tuple #[.int .i64 (o.getD 0), .bool o.isSome]) := by subst h; rfl
theorem num_some {o : Option Int} {n : Int} (h : o = some n) : Ending.returned (.tuple #[.int .i64 n, .bool true]) = .returned (.tuple #[.int .i64 (o.getD 0), .bool o.isSome]) := by subst h; rfl

set_option maxHeartbeats 2000000 in
set_option maxRecDepth 100000 in
/-- Behind the sign. -/
theorem number_in (s D : ByteArray) (neg : Bool) (w : World) (hT : (⟨(Lib.trimPrefix s.data.toList [45]).toArray⟩ : ByteArray) = D) (hn : (D.toList == s.toList) = !neg) (h0 : ((s.toList == [48]) = true) ↔ (neg = false ∧ D.data.toList = [48])) (hs : s.size ≤ 9223372036854775807) (hDs : D.size ≤ s.size) :
    Calls Tryd.prog 57 #[.string s] w fun e w' => NumPost (JN D.data.toList neg) e ∧ Below w.heap.size w w' := by
  have hT2 : (⟨(Lib.trimPrefix s.data.toList (⟨#[45]⟩ : ByteArray).data.toList).toArray⟩ : ByteArray) = D := hT
  have hlen : D.data.toList.length = D.size := by rw [Array.length_toList]; rfl
  by_cases hz : D.size = 0
  · have hD : D.data.toList = [] := List.eq_nil_of_length_eq_zero (by omega)
    have HP : Hid (JN D.data.toList neg = none) := by show _ = _; rw [hD, JN_empty]
    have q0 : (D.toList == []) = true := by rw [Lib.toList_data, hD]; rfl
    clear h0 hn
    go_enter Tryd.func57, Tryd.ntmps57
    go_wp2_with fail
    go_at_call 90
    refine (Tryd.strings_TrimPrefix s ⟨#[45]⟩ _).mono ?_
    rw [hT2]
    rintro x w1 ⟨rfl, rfl⟩
    go_wp2
    go_ret2
    exact ⟨num_none HP.out, Below.refl _ _⟩
  have q0 : (D.toList == []) = false := by
    rw [Lib.toList_data]
    cases hD : D.data.toList with
    | nil => rw [hD] at hlen; simp at hlen; omega
    | cons _ _ => rfl
  by_cases hz18 : 18 < D.size
  · have HP : Hid (JN D.data.toList neg = none) := by show _ = _; rw [JN_long _ _ (by omega)]
    have q1 : (18 : Int) < (D.size : Int) := by omega
    clear h0 hn
    go_enter Tryd.func57, Tryd.ntmps57
    go_wp2_with fail
    go_at_call 90
    refine (Tryd.strings_TrimPrefix s ⟨#[45]⟩ _).mono ?_
    rw [hT2]
    rintro x w1 ⟨rfl, rfl⟩
    go_wp2
    go_ret2
    exact ⟨num_none HP.out, Below.refl _ _⟩
  have q1 : ¬ (18 : Int) < (D.size : Int) := by omega
  have hix : (0 : Int) < (D.size : Int) := by omega
  have hix2 : 0 < D.size := by omega
  have hhead : D.data.toList.head? = some D[0] := by
    rw [List.head?_eq_getElem?, List.getElem?_eq_getElem (by omega)]
    exact congrArg some (list_get D 0 (by omega))
  by_cases hnt : D[0].toNat = 48 ∧ (s.toList == [48]) = false
  · obtain ⟨g1, g2⟩ := hnt
    have HP : Hid (JN D.data.toList neg = none) := by
      show _ = _
      refine JN_nought _ _ (by rw [hhead]; congr 1; exact UInt8.toNat.inj (by simpa using g1)) ?_
      by_cases hng : neg = true
      · exact .inl hng
      · right
        intro hD
        have := h0.2 ⟨by simpa using hng, hD⟩
        rw [g2] at this; cases this
    have e1 : ((D[0].toNat : Int) == 48) = true := by simp only [beq_iff_eq]; omega
    clear h0 hn
    go_enter Tryd.func57, Tryd.ntmps57
    go_wp2_with fail
    go_at_call 90
    refine (Tryd.strings_TrimPrefix s ⟨#[45]⟩ _).mono ?_
    rw [hT2]
    rintro x w1 ⟨rfl, rfl⟩
    go_wp2
    go_ret2
    exact ⟨num_none HP.out, Below.refl _ _⟩
  have h3 : D.data.toList.head? = some 48 → neg = false ∧ D.data.toList = [48] := by
    intro hh
    rw [hhead] at hh
    have h48 : D[0].toNat = 48 := by have := Option.some.inj hh; rw [this]; rfl
    refine h0.1 ?_
    cases hq : (s.toList == [48]) with
    | true => rfl
    | false => exact absurd ⟨h48, hq⟩ hnt
  have H3 : Hid (D.data.toList.head? = some 48 → neg = false ∧ D.data.toList = [48]) := h3
  have hsel : ((D[0].toNat : Int) == 48) = false ∨ (((D[0].toNat : Int) == 48) = true ∧ (s.toList == [48]) = true) := by
    by_cases h48 : D[0].toNat = 48
    · right
      refine ⟨by simp only [beq_iff_eq]; omega, ?_⟩
      cases hq : (s.toList == [48]) with
      | true => rfl
      | false => exact absurd ⟨h48, hq⟩ hnt
    · left; simp only [beq_eq_false_iff_ne]; omega
  clear h0 hnt h3 hhead hT
  rcases hsel with e1 | ⟨e1, e2⟩
  all_goals (
    go_enter Tryd.func57, Tryd.ntmps57
    go_wp2_with fail
    go_at_call 90
    refine (Tryd.strings_TrimPrefix s ⟨#[45]⟩ _).mono ?_
    rw [hT2]
    rintro x w1 ⟨rfl, rfl⟩
    go_wp2
    go_loopg [5] D.size (fun gk t wr => ∃ k : Nat, k ≤ D.size ∧ t = .int .i64 (dval (D.data.toList.take k)) ∧ Hid ((D.data.toList.take k).all isDig = true) ∧ gk = D.size - k ∧ wr = w1.iter D k)
    case atStart => exact ⟨0, by omega, rfl, rfl, rfl, rfl⟩
    case round =>
      obtain ⟨k, hk, rfl, HA, hgk, rfl⟩ := hrel
      have HG := Lib.hid hgk
      clear hgk
      have hd := dval_lt _ HA.out
      have hl : (D.data.toList.take k).length = k := by rw [List.length_take]; omega
      rw [hl] at hd
      by_cases hlt : k < D.size
      · have hd17 : dval (D.data.toList.take k) < 100000000000000000 := by
          have : 10 ^ k ≤ 10 ^ 17 := Nat.pow_le_pow_right (by omega) (by omega)
          omega
        clear hd hl
        by_cases ha : (D[k]).toNat < 128
        · have hn := fun ty => run_next_ascii (P := Tryd.prog) w1 D k ty hlt ha
          by_cases hdig : isDig D[k] = true
          · have hq := (isDig_iff _).1 hdig
            have hsn : Hid (dval (D.data.toList.take (k + 1)) = 10 * dval (D.data.toList.take k) + (D[k].toNat - 48)) := by rw [take_snoc D k hlt]; exact dval_snoc _ _
            have hal : Hid ((D.data.toList.take (k + 1)).all isDig = true) := by
              show _ = _
              rw [take_snoc D k hlt, List.all_append, HA.out]; simpa using hdig
            clear hdig
            generalize dval (D.data.toList.take k) = n at *
            have hc0 : 48 ≤ (D[k].toNat : Int) := by omega
            have hc1 : (D[k].toNat : Int) ≤ 57 := by omega
            go_wp2
            go_roundg (D.size - (k + 1))
            case measure => have := HG.out; omega
            case rel => exact ⟨k + 1, by omega, by rw [hsn.out]; congr 1; omega, hal, rfl, rfl⟩
          · have hb : isDig D[k] = false := by simpa using hdig
            have HP : Hid (JN D.data.toList neg = none) := JN_bad _ _ D[k] (by rw [← list_get D k hlt]; exact List.getElem_mem _) hb
            have hq : (D[k]).toNat < 48 ∨ 57 < (D[k]).toNat := by
              have := isDig_iff D[k]; rw [hb] at this; simp at this; omega
            clear hb hdig
            rcases hq with hq | hq
            · have hc0 : (D[k].toNat : Int) < 48 := by omega
              go_wp2
              go_ret2
              exact ⟨num_none HP.out, below_iter _ _ _⟩
            · have hc0 : ¬ (D[k].toNat : Int) < 48 := by omega
              have hc1 : (57 : Int) < (D[k].toNat : Int) := by omega
              go_wp2
              go_ret2
              exact ⟨num_none HP.out, below_iter _ _ _⟩
        · have hn := fun ty => run_next_any (P := Tryd.prog) w1 D k ty hlt
          have hh := (decode_high D k hlt (by omega)).1
          have HP : Hid (JN D.data.toList neg = none) := JN_bad _ _ D[k] (by rw [← list_get D k hlt]; exact List.getElem_mem _) (by
            have := isDig_iff D[k]
            cases hb : isDig D[k] with
            | false => rfl
            | true => rw [hb] at this; simp at this; omega)
          generalize (Utf8.decode D k).1 = r at *
          have hc0 : ¬ (r : Int) < 48 := by omega
          have hc1 : (57 : Int) < (r : Int) := by omega
          go_wp2
          go_ret2
          exact ⟨num_none HP.out, below_iter _ _ _⟩
      · have e : D.data.toList.take k = D.data.toList := take_all D k (by omega)
        rw [e] at hd ⊢
        have HP : Hid (JN D.data.toList neg = some (if neg then -(dval D.data.toList : Int) else dval D.data.toList)) := by
          show _ = _
          have h1 := HA.out
          rw [e] at h1
          exact JN_good _ _ h1 (by omega) (by omega) H3.out
        have hd18 : dval D.data.toList < 1000000000000000000 := by
          have : 10 ^ k ≤ 10 ^ 18 := Nat.pow_le_pow_right (by omega) (by omega)
          omega
        have hk2 : k = D.size := by omega
        have hn := fun ty => run_next_end (P := Tryd.prog) w1 D k ty hlt
        clear hd hl e hk2
        generalize dval D.data.toList = n at *
        cases neg with
        | false =>
          have HQ : Hid (JN D.data.toList false = some (n : Int)) := by show _ = _; rw [HP.out]; rfl
          go_wp2
          go_ret2
          exact ⟨num_some HQ.out, below_iter _ _ _⟩
        | true =>
          have HQ : Hid (JN D.data.toList true = some (-(n : Int))) := by show _ = _; rw [HP.out]; rfl
          go_wp2
          go_ret2
          exact ⟨num_some HQ.out, below_iter _ _ _⟩)

theorem number_any (s : ByteArray) (w : World) (hs : s.size ≤ 9223372036854775807) :
    Calls Tryd.prog 57 #[.string s] w fun e w' => NumPost (jnum s.data.toList) e ∧ Below w.heap.size w w' := by
  have hsl : s.data.toList.length = s.size := by rw [Array.length_toList]; rfl
  rcases trim_minus s.data.toList with ⟨h1, h2⟩ | ⟨h1, h2⟩
  · obtain ⟨d, hd⟩ : ∃ d, Lib.trimPrefix s.data.toList [45] = d := ⟨_, rfl⟩
    rw [hd] at h2
    have h3 : (⟨d.toArray⟩ : ByteArray).size = d.length := by simp [ByteArray.size]
    have h4 := congrArg List.length h2
    simp only [List.length_cons] at h4
    rw [hsl] at h4
    have := number_in s ⟨d.toArray⟩ true w (by rw [hd]) (by
        rw [Lib.toList_data, Lib.toList_data, h2]
        simp only [Bool.not_true, beq_eq_false_iff_ne, ne_eq]
        intro k
        have := congrArg List.length k
        simp at this) (by
        rw [Lib.toList_data, h2]
        constructor
        · intro k; simp at k
        · rintro ⟨k, -⟩; cases k) hs (by omega)
    rw [h2, jnum_neg]
    exact this
  · have := number_in s s false w (by rw [h2]) (by simp) (by
        rw [Lib.toList_data]
        constructor
        · intro k; exact ⟨rfl, by simpa using k⟩
        · rintro ⟨-, k⟩; rw [k]; rfl) hs (Nat.le_refl _)
    rw [jnum_pos _ h1]
    exact this
end Go.Proofs.YtggcnbdpobbkaaaDoor.Job
