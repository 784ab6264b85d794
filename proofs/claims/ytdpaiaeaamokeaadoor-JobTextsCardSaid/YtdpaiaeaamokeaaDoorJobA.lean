/- Joined: JobSpec, JobName, JobMin, JobNum, JobTold. -/
import Derived.Lib.ItoaNum
import Derived.Lib.Join
import Derived.Lib.SmallJoins
import Derived.Lib.ItoaLen
import Derived.Test.YtdpaiaeaamokeaaDoorCronA
import Derived.Test.YtdpaiaeaamokeaaDoorCronF
import Derived.Test.YtdpaiaeaamokeaaDoorShelf
namespace Go.Proofs.YtdpaiaeaamokeaaDoor.Job
open Go.RowKit Go Go.Proofs.YtdpaiaeaamokeaaDoor.Cron

/-- Digits of a number, without noughts ahead. -/
def Jd (d : List UInt8) : Prop := d.all isDig = true ∧ 1 ≤ d.length ∧ d.length ≤ 18 ∧ (d.head? = some 48 → d.length = 1)
instance (d : List UInt8) : Decidable (Jd d) := by unfold Jd; infer_instance
/-- The number that a text says. -/
def jnum : List UInt8 → Option Int
  | [] => none
  | c :: d => if c = 45 then (if Jd d ∧ d ≠ [48] then some (-(dval d : Int)) else none) else if Jd (c :: d) then some (dval (c :: d) : Int) else none

theorem dval_dec : ∀ u : Nat, dval (Lib.decDigits u) = u := by
  intro u
  induction u using Nat.strongRecOn with
  | ind u ih =>
    rw [Lib.decDigits]
    split
    · rename_i h
      simp only [dval, List.foldl_cons, List.foldl_nil, UInt8.toNat_ofNat']
      omega
    · rename_i h
      rw [dval_snoc, ih (u / 10) (by omega), UInt8.toNat_ofNat']
      omega
theorem dec_dig : ∀ u : Nat, (Lib.decDigits u).all isDig = true := by
  intro u
  induction u using Nat.strongRecOn with
  | ind u ih =>
    rw [Lib.decDigits]
    split
    · rename_i h
      simp only [List.all_cons, List.all_nil, Bool.and_true, isDig_iff, UInt8.toNat_ofNat']
      omega
    · rename_i h
      rw [List.all_append, ih (u / 10) (by omega)]
      simp only [List.all_cons, List.all_nil, Bool.and_true, Bool.true_and, isDig_iff, UInt8.toNat_ofNat']
      omega
theorem dec_head : ∀ u : Nat, 1 ≤ (Lib.decDigits u).length ∧ ((Lib.decDigits u).head? = some 48 → u = 0) := by
  intro u
  induction u using Nat.strongRecOn with
  | ind u ih =>
    rw [Lib.decDigits]
    split
    · rename_i h
      refine ⟨by simp, fun e => ?_⟩
      simp at e
      have := congrArg UInt8.toNat e
      rw [UInt8.toNat_ofNat'] at this
      simp at this; omega
    · rename_i h
      obtain ⟨a, b⟩ := ih (u / 10) (by omega)
      refine ⟨by simp, fun e => ?_⟩
      have e2 : (Lib.decDigits (u / 10)).head? = some 48 := by
        cases hl : Lib.decDigits (u / 10) with
        | nil => rw [hl] at a; simp at a
        | cons x r => rw [hl] at e; simpa using e
      have := b e2
      omega
theorem dec_len (u k : Nat) (hk : 1 ≤ k) (h : u < 10 ^ k) : (Lib.decDigits u).length ≤ k := by
  induction k generalizing u with
  | zero => omega
  | succ k ih =>
    rw [Lib.decDigits]
    split
    · simp
    · rename_i h10
      have hk1 : 1 ≤ k := by
        by_cases e : k = 0
        · subst e; simp at h; omega
        · omega
      have := ih (u / 10) hk1 (by rw [Nat.pow_succ] at h; omega)
      simp; omega
theorem dec_of_dval : ∀ (n : Nat) (d : List UInt8), d.length = n → d.all isDig = true → 1 ≤ d.length → (d.head? = some 48 → d.length = 1) → Lib.decDigits (dval d) = d := by
  intro n
  induction n with
  | zero => intro d h _ h1 _; omega
  | succ n ih =>
    intro d hl ha h1 hh
    obtain ⟨e, c, rfl⟩ : ∃ e c, d = e ++ [c] := ⟨d.dropLast, d.getLast (by intro k; rw [k] at h1; simp at h1), (List.dropLast_concat_getLast _).symm⟩
    rw [List.all_append, Bool.and_eq_true] at ha
    have hc : isDig c = true := by simpa using ha.2
    rw [isDig_iff] at hc
    rw [dval_snoc]
    have ec : UInt8.ofNat (48 + (c.toNat - 48)) = c := by
      rw [show 48 + (c.toNat - 48) = c.toNat by omega]; simp
    cases e with
    | nil =>
      rw [show dval [] = 0 by rfl, Lib.decDigits, dif_pos (by omega), show 10 * 0 + (c.toNat - 48) = c.toNat - 48 by omega, ec]; rfl
    | cons x r =>
      simp at hl
      have hx : x ≠ 48 := by
        intro k; subst k
        have := hh (by simp)
        simp at this
      have hxd : isDig x = true := by
        have := ha.1; rw [List.all_cons, Bool.and_eq_true] at this; exact this.1
      rw [isDig_iff] at hxd
      have hx2 : x.toNat ≠ 48 := fun k => hx (UInt8.toNat.inj (by simpa using k))
      have hih := ih (x :: r) (by simp; omega) ha.1 (by simp) (fun k => by simp at k; exact absurd k hx)
      have hpos : 1 ≤ dval (x :: r) := by
        by_cases k : 1 ≤ dval (x :: r)
        · exact k
        · exfalso
          have k0 : dval (x :: r) = 0 := by omega
          rw [k0, Lib.decDigits, dif_pos (by omega)] at hih
          have := (List.cons.inj hih).1
          simp at this
          exact hx this.symm
      rw [Lib.decDigits, dif_neg (by omega), show (10 * dval (x :: r) + (c.toNat - 48)) / 10 = dval (x :: r) by omega, hih, show (10 * dval (x :: r) + (c.toNat - 48)) % 10 = c.toNat - 48 by omega, ec]
theorem jnum_itoa (n : Int) (h1 : -1000000000000000000 < n) (h2 : n < 1000000000000000000) : jnum (Lib.itoa n) = some n := by
  have key : ∀ u : Nat, u < 1000000000000000000 → Jd (Lib.decDigits u) := by
    intro u hu
    refine ⟨dec_dig u, (dec_head u).1, dec_len u 18 (by omega) (by omega), fun h => ?_⟩
    have := (dec_head u).2 h
    subst this
    rw [Lib.decDigits, dif_pos (by omega)]; rfl
  unfold Lib.itoa
  split
  · have hj := key n.natAbs (by omega)
    rw [jnum, if_pos rfl, if_pos, dval_dec]
    · congr 1; omega
    · refine ⟨hj, fun e => ?_⟩
      have := (dec_head n.natAbs).2 (by rw [e]; rfl)
      omega
  · have hj := key n.toNat (by omega)
    have hd := dval_dec n.toNat
    match hl : Lib.decDigits n.toNat with
    | [] => rw [hl] at hj; exact absurd hj.2.1 (by simp)
    | c :: d =>
      rw [hl] at hj hd
      have hc : c ≠ 45 := by
        have := hj.1
        rw [List.all_cons, Bool.and_eq_true, isDig_iff] at this
        intro e; subst e
        exact absurd this.1.1 (by decide)
      rw [jnum, if_neg hc, if_pos hj, hd]
      congr 1; omega
theorem dval_18 (d : List UInt8) (h : Jd d) : dval d < 1000000000000000000 := by
  have := dval_lt d h.1
  have h2 : 10 ^ d.length ≤ 10 ^ 18 := Nat.pow_le_pow_right (by omega) h.2.2.1
  omega
theorem itoa_jnum (l : List UInt8) (n : Int) (h : jnum l = some n) : Lib.itoa n = l ∧ -1000000000000000000 < n ∧ n < 1000000000000000000 := by
  match l with
  | [] => cases h
  | c :: d =>
    rw [jnum] at h
    by_cases hc : c = 45
    · rw [if_pos hc] at h
      split at h
      · rename_i hj
        obtain rfl := Option.some.inj h
        have hb := dval_18 d hj.1
        have hd := dec_of_dval _ d rfl hj.1.1 hj.1.2.1 hj.1.2.2.2
        have h0 : dval d ≠ 0 := by
          intro e
          rw [e, Lib.decDigits, dif_pos (by omega)] at hd
          exact hj.2 hd.symm
        refine ⟨?_, by omega, by omega⟩
        unfold Lib.itoa
        rw [if_pos (by omega), show (-(dval d : Int)).natAbs = dval d by omega, hd, hc]
      · cases h
    · rw [if_neg hc] at h
      split at h
      · rename_i hj
        obtain rfl := Option.some.inj h
        have hb := dval_18 _ hj
        have hd := dec_of_dval _ _ rfl hj.1 hj.2.1 hj.2.2.2
        refine ⟨?_, by omega, by omega⟩
        unfold Lib.itoa
        rw [if_neg (by omega), Int.toNat_natCast, hd]
      · cases h
end Go.Proofs.YtdpaiaeaamokeaaDoor.Job

namespace Go.Proofs.YtdpaiaeaamokeaaDoor.Job
open Go.RowKit Go Go.Proofs.YtdpaiaeaamokeaaDoor.Cron

/-- May a byte stand at place i of a name? -/
def nch (i : Nat) (c : UInt8) : Bool := decide (97 ≤ c.toNat ∧ c.toNat ≤ 122) || decide (48 ≤ c.toNat ∧ c.toNat ≤ 57) || (decide (c.toNat = 45) && decide (i ≠ 0))
theorem nch_iff (i : Nat) (c : UInt8) : nch i c = true ↔ (97 ≤ c.toNat ∧ c.toNat ≤ 122) ∨ (48 ≤ c.toNat ∧ c.toNat ≤ 57) ∨ (c.toNat = 45 ∧ i ≠ 0) := by
  simp [nch, or_assoc]
def NameTo (s : ByteArray) (k : Nat) : Prop := ∀ i (h : i < s.size), i < k → nch i s[i] = true
def NameOk (s : ByteArray) : Prop := NameTo s s.size ∧ 1 ≤ s.size ∧ s.size ≤ 30
noncomputable def nameB (s : ByteArray) : Bool := @decide (NameOk s) (Classical.propDecidable _)
theorem nameB_iff (s : ByteArray) : nameB s = true ↔ NameOk s := by unfold nameB; simp
theorem nameB_bad (s : ByteArray) (k : Nat) (h : k < s.size) (hb : nch k s[k] = false) : nameB s = false := by
  rw [Bool.eq_false_iff, Ne, nameB_iff]
  intro hn
  have := hn.1 k h h
  rw [hb] at this; cases this
theorem nameTo_succ (s : ByteArray) (k : Nat) (hlt : k < s.size) (h : NameTo s k) (hb : nch k s[k] = true) : NameTo s (k + 1) := by
  intro i hi h2
  by_cases e : i = k
  · subst e; exact hb
  · exact h i hi (by omega)
theorem bneI {a b : Int} (h : a ≠ b) : (a == b) = false ∧ (a != b) = true := by simp [h]
theorem beqI {a b : Int} (h : a = b) : (a == b) = true ∧ (a != b) = false := by simp [h]

set_option maxHeartbeats 1000000 in
set_option maxRecDepth 100000 in
theorem name_any (s : ByteArray) (w : World) (hs : s.size ≤ 9223372036854775807) :
    Calls Tryd.prog 36 #[.string s] w fun e w' => e = .returned (.bool (nameB s)) ∧ Below w.heap.size w w' := by
  go_enter Tryd.func36, Tryd.ntmps36
  go_wp2
  go_loopg [] s.size (fun gk wr => ∃ k : Nat, k ≤ s.size ∧ NameTo s k ∧ gk = s.size - k ∧ wr = w.iter s k)
  case atStart => exact ⟨0, by omega, fun i _ h => absurd h (by omega), rfl, rfl⟩
  case round =>
    obtain ⟨k, hk, hall, hgk, rfl⟩ := hrel
    have HG := Lib.hid hgk
    have HA := Lib.hid hall
    clear hgk hall
    by_cases hlt : k < s.size
    · by_cases ha : (s[k]).toNat < 128
      · have hn := fun ty => run_next_ascii (P := Tryd.prog) w s k ty hlt ha
        by_cases hc : nch k s[k] = true
        · have HN := Lib.hid (nameTo_succ s k hlt HA.out hc)
          rw [nch_iff] at hc
          rcases hc with ⟨c1, c2⟩ | ⟨c1, c2⟩ | ⟨c1, c2⟩
          · have d1 : 97 ≤ (s[k].toNat : Int) := by omega
            have d2 : (s[k].toNat : Int) ≤ 122 := by omega
            clear c1 c2
            go_wp2
            go_roundg (s.size - (k + 1))
            case measure => have := HG.out; omega
            case rel => exact ⟨k + 1, by omega, HN.out, rfl, rfl⟩
          · have d0 : (s[k].toNat : Int) < 97 := by omega
            have d1 : 48 ≤ (s[k].toNat : Int) := by omega
            have d2 : (s[k].toNat : Int) ≤ 57 := by omega
            clear c1 c2
            go_wp2
            go_roundg (s.size - (k + 1))
            case measure => have := HG.out; omega
            case rel => exact ⟨k + 1, by omega, HN.out, rfl, rfl⟩
          · have d0 : (s[k].toNat : Int) < 97 := by omega
            have d1 : (s[k].toNat : Int) < 48 := by omega
            obtain ⟨d3, d4⟩ := beqI (show (s[k].toNat : Int) = 45 by omega)
            obtain ⟨d5, d6⟩ := bneI (show (k : Int) ≠ 0 by omega)
            clear c1 c2
            go_wp2
            go_roundg (s.size - (k + 1))
            case measure => have := HG.out; omega
            case rel => exact ⟨k + 1, by omega, HN.out, rfl, rfl⟩
        · have hb : nch k s[k] = false := by simpa using hc
          have HP := Lib.hid (nameB_bad s k hlt hb)
          have hq : (s[k].toNat < 48 ∧ s[k].toNat ≠ 45) ∨ (s[k].toNat = 45 ∧ k = 0) ∨ (57 < s[k].toNat ∧ s[k].toNat < 97) ∨ 122 < s[k].toNat := by
            have := nch_iff k s[k]
            rw [hb] at this
            simp at this
            omega
          clear hc hb
          rcases hq with ⟨c1, c2⟩ | ⟨c1, c2⟩ | ⟨c1, c2⟩ | c1
          · have d0 : (s[k].toNat : Int) < 97 := by omega
            have d1 : (s[k].toNat : Int) < 48 := by omega
            obtain ⟨d3, d4⟩ := bneI (show (s[k].toNat : Int) ≠ 45 by omega)
            clear c1 c2
            go_wp2
            go_ret
            exact ⟨ret_bool HP.out.symm, below_iter _ _ _⟩
          · have d0 : (s[k].toNat : Int) < 97 := by omega
            have d1 : (s[k].toNat : Int) < 48 := by omega
            obtain ⟨d3, d4⟩ := beqI (show (s[k].toNat : Int) = 45 by omega)
            subst c2
            clear c1
            go_wp2
            go_ret
            exact ⟨ret_bool HP.out.symm, below_iter _ _ _⟩
          · have d0 : (s[k].toNat : Int) < 97 := by omega
            have d1 : ¬ (s[k].toNat : Int) < 48 := by omega
            have d2 : 57 < (s[k].toNat : Int) := by omega
            obtain ⟨d3, d4⟩ := bneI (show (s[k].toNat : Int) ≠ 45 by omega)
            clear c1 c2
            go_wp2
            go_ret
            exact ⟨ret_bool HP.out.symm, below_iter _ _ _⟩
          · have d0 : ¬ (s[k].toNat : Int) < 97 := by omega
            have d1 : ¬ (s[k].toNat : Int) < 48 := by omega
            have d2 : 57 < (s[k].toNat : Int) := by omega
            have d5 : 122 < (s[k].toNat : Int) := by omega
            obtain ⟨d3, d4⟩ := bneI (show (s[k].toNat : Int) ≠ 45 by omega)
            clear c1
            go_wp2
            go_ret
            exact ⟨ret_bool HP.out.symm, below_iter _ _ _⟩
      · have hn := fun ty => run_next_any (P := Tryd.prog) w s k ty hlt
        have hh := (decode_high s k hlt (by omega)).1
        have HP := Lib.hid (nameB_bad s k hlt (by
          have := nch_iff k s[k]
          cases hb : nch k s[k] with
          | false => rfl
          | true => rw [hb] at this; simp at this; omega))
        generalize (Utf8.decode s k).1 = r at *
        have d0 : ¬ (r : Int) < 97 := by omega
        have d1 : ¬ (r : Int) < 48 := by omega
        have d2 : 57 < (r : Int) := by omega
        have d5 : 122 < (r : Int) := by omega
        obtain ⟨d3, d4⟩ := bneI (show (r : Int) ≠ 45 by omega)
        go_wp2
        go_ret
        exact ⟨ret_bool HP.out.symm, below_iter _ _ _⟩
    · have hn := fun ty => run_next_end (P := Tryd.prog) w s k ty hlt
      have HB : Hid (nameB s = (decide (1 ≤ s.size) && decide (s.size ≤ 30))) := by
        show _ = _
        rw [Bool.eq_iff_iff, nameB_iff]
        simp only [Bool.and_eq_true, decide_eq_true_eq]
        exact ⟨fun h => h.2, fun h => ⟨fun i hi h2 => HA.out i hi (by omega), h⟩⟩
      have hkk : k = s.size := by omega
      clear hkk
      by_cases z1 : 1 ≤ s.size
      · by_cases z2 : s.size ≤ 30
        · have HF : Hid (nameB s = true) := by show _ = _; rw [HB.out]; simp [z1, z2]
          go_wp2
          go_ret
          exact ⟨ret_bool (by rw [HF.out]; simp; omega), below_iter _ _ _⟩
        · have HF : Hid (nameB s = false) := by show _ = _; rw [HB.out]; simp [z1, z2]
          go_wp2
          go_ret
          exact ⟨ret_bool (by rw [HF.out]; simp; omega), below_iter _ _ _⟩
      · have HF : Hid (nameB s = false) := by show _ = _; rw [HB.out]; simp [z1]
        go_wp2
        go_ret
        exact ⟨ret_bool HF.out.symm, below_iter _ _ _⟩
end Go.Proofs.YtdpaiaeaamokeaaDoor.Job

namespace Go.Proofs.YtdpaiaeaamokeaaDoor.Job
open Go.RowKit Go Go.Proofs.YtdpaiaeaamokeaaDoor.Cron

def Pow (w : World) : Prop := Lib.TabIs Tryd.prog w "internal/strconv.uint64pow10" .u64 Lib.pow10Tab
theorem Pow.below {w w' : World} (h : Pow w) (hb : Below w.heap.size w w') : Pow w' := Joins.tab_stays (g := 4) (by kernel_rfl) h hb (Nat.le_refl _)
theorem grow_bel (w : World) (k : Nat) (os : Array Obj) : Below w.heap.size w (Sort.grow (w.drewN k) os) := by
  refine ⟨rfl, rfl, rfl, ?_, fun i hi => ?_⟩
  · simp [Sort.grow]
  · simp [Sort.grow, Array.getElem?_append_left hi]
theorem itoa_bel (n : Int) (h0 : -9223372036854775808 ≤ n) (h1 : n ≤ 9223372036854775807) (w : World) (h : Pow w) :
    Calls Tryd.prog 51 #[.int .i64 n] w fun e w' => e = .returned (.string (bytesOf (Lib.itoa n))) ∧ Below w.heap.size w w' :=
  (Tryd.strconv_Itoa n h0 h1 w h).mono fun _ _ ⟨he, k, os, hw⟩ => ⟨he, hw ▸ grow_bel w k os⟩
/-- Numbers, a blank between. -/
def minL (xs : List Int) : List UInt8 := Lib.join (xs.map Lib.itoa) [32]
theorem take_snocI (xs : List Int) (k : Nat) (h : k < xs.length) : xs.take (k + 1) = xs.take k ++ [xs.getD k 0] := by
  rw [List.take_succ_eq_append_getElem h, List.getD_eq_getElem?_getD, List.getElem?_eq_getElem h]; rfl

set_option maxHeartbeats 2000000 in
set_option maxRecDepth 100000 in
theorem minutes_any (ao : Option Addr) (cap : Nat) (xs : List Int) (w : World) (h : SlOk w ao xs) (hn : xs.length ≤ 1000) (hP : Pow w) :
    Calls Tryd.prog 13 #[.slice ao xs.length cap] w fun e w' => e = .returned (.string (bytesOf (minL xs))) ∧ Below w.heap.size w w' := by
  obtain ⟨i0, hi0, hz0, hz1, hz2⟩ := info_parts Tryd.infoStr
  have HS : Hid (SlOk w ao xs) := h
  clear h
  go_enter Tryd.func13, Tryd.ntmps13
  go_wp2
  go_loopg [3, 8] xs.length (fun gk v iv wr => ∃ (k : Nat) (bs : List ByteArray), iv = .int .i64 k ∧ k ≤ xs.length ∧ bs.length = k ∧ wr.ownsRow w.heap.size 9 1 v bs.length (bs.map Value.string) ∧ Below w.heap.size w wr ∧ Hid (bs.map (·.data.toList) = (xs.take k).map Lib.itoa) ∧ gk = xs.length - k)
  case atStart => exact ⟨0, [], rfl, by omega, rfl, World.ownsRow_nil _ _ _ _, Below.refl _ _, rfl, rfl⟩
  case round =>
    obtain ⟨k, bs, rfl, hk, hbl, hown, hbel, HB, hgk⟩ := hrel
    have HG := Lib.hid hgk
    have HBL := Lib.hid hbl
    have hbz : bs.length ≤ 1000 := by omega
    clear hgk hbl
    by_cases hlt : k < xs.length
    · obtain ⟨b, o, rfl, hbb, hcell, hx1, hx2⟩ := HS.out k hlt
      have HTK := Lib.hid (take_snocI xs k hlt)
      obtain ⟨x, hx⟩ : ∃ x, xs.getD k 0 = x := ⟨_, rfl⟩
      rw [hx] at hcell hx1 hx2 HTK
      have hcw : wr.cell? ⟨b, o + k, none⟩ = some (.int .i64 x) := (keep0 hbel hbb (o + k)).trans hcell
      clear hx
      have HI : Hid ((Lib.itoa x).length ≤ 21) := Lib.itoa_length_le x hx1 hx2
      go_wp2_with fail
      go_at_call 51
      refine (itoa_bel x hx1 hx2 _ (hP.below hbel)).mono ?_
      rintro y w5 ⟨rfl, hb5⟩
      have HO := Lib.hid (own_below hown hb5)
      have hbel5 := bthen hbel hb5
      clear hb5 hbel hown hcw hcell
      go_wp2_with (at_builtin; refine wpList_append_lies _ rfl _ _ 85 rfl w.heap.size 9 i0 (.string ⟨#[]⟩) 1 16 Tryd.underlying85 hi0 hz0 hz1 hz2 rfl (by decide) _ _ _ rfl (HO.out.alloc _) ⟨w5.heap.size, 0, none⟩ 1 1 [.string (bytesOf (Lib.itoa x))] rfl rfl ?c1 ?c2 (by decide) ?c3 ?c4 ?c5 _ rfl ?_)
      case c1 =>
        intro j u hj
        match j, hj with
        | 0, hj => simp at hj; subst hj; simp [Addr.add]
      case c2 => intro u hu; simp at hu; subst hu; rfl
      case c3 => unfold maxLen; omega
      case c4 => omega
      case c5 => have := hbel5.size; simp; omega
      · intro g cap w6 hown3 hgrow hat hgl
        obtain ⟨hbel6, -⟩ := own_grown (Nat.le_refl _) HO.out hbel5 hgrow
        clear hgrow hat hgl HO hbel5
        go_wp2
        go_roundg (xs.length - (k + 1))
        case measure => have := HG.out; omega
        case rel =>
          refine ⟨k + 1, bs ++ [bytesOf (Lib.itoa x)], rfl, by omega, by rw [List.length_append, HBL.out]; rfl, ?_, hbel6, ?_, rfl⟩
          · rw [List.length_append, List.map_append]; exact hown3
          · show _ = _
            rw [List.map_append, HB.out, HTK.out, List.map_append]; rfl
    · have HF : Hid (Lib.join (bs.map (·.data.toList)) [32] = minL xs) := by
        show _ = _
        rw [HB.out, List.take_of_length_le (by omega)]; rfl
      have HLn : Hid ((Lib.join (bs.map (·.data.toList)) [32]).length ≤ 140737488355328) := by
        show _ ≤ _
        rw [HB.out, List.take_of_length_le (by omega)]
        have := join_len [32] 21 (xs.map Lib.itoa) (by
          intro y hy
          obtain ⟨x, hx, rfl⟩ := List.mem_map.1 hy
          obtain ⟨j, hj, rfl⟩ := List.getElem_of_mem hx
          obtain ⟨_, _, _, _, _, h1, h2⟩ := HS.out j hj
          rw [List.getD_eq_getElem?_getD, List.getElem?_eq_getElem hj] at h1 h2
          exact Lib.itoa_length_le _ h1 h2)
        simp at this
        omega
      rcases hown.2 with ⟨rfl, hz⟩ | ⟨g, cap, cur, rfl, hgB, hrest⟩
      · have h0 : bs = [] := List.eq_nil_of_length_eq_zero hz
        subst h0
        go_wp2_with fail
        go_at_call 52
        refine (Tryd.strings_Join_none none 0 ⟨#[32]⟩ _).mono ?_
        rintro x5 w5 ⟨rfl, rfl⟩
        go_wp2
        go_ret
        exact ⟨by rw [show bytesOf (minL xs) = ⟨#[]⟩ by rw [← HF.out]; rfl]; rfl, hbel⟩
      · go_wp2_with fail
        go_at_call 52
        have hcells : ∀ (i : Nat) x, bs[i]? = some x → wr.cell? ⟨g, 0 + i, none⟩ = some (.string x) := by
          intro i x hx
          obtain ⟨hi3, rfl⟩ := List.getElem?_eq_some_iff.1 hx
          rw [Nat.zero_add, hown.cellAt i (by omega)]
          simp
        have hgl : g < wr.heap.size := (hown.lt g rfl).2
        refine (Tryd.strings_Join g 0 cap bs ⟨#[32]⟩ _ hcells hgl (by omega) hrest.2.1 HLn.out).mono ?_
        rw [show (Lib.join (bs.map (·.data.toList)) (⟨#[32]⟩ : ByteArray).data.toList) = minL xs from HF.out]
        rintro x5 w5 ⟨rfl, hb5⟩
        have hbel5 := bthen hbel hb5
        clear hb5 hcells hown hrest
        go_wp2
        go_ret
        exact ⟨rfl, hbel5⟩
end Go.Proofs.YtdpaiaeaamokeaaDoor.Job

namespace Go.Proofs.YtdpaiaeaamokeaaDoor.Job
open Go.RowKit Go Go.Proofs.YtdpaiaeaamokeaaDoor.Cron

/-- The number that digits say, behind a sign or none. -/
def JN (d : List UInt8) (neg : Bool) : Option Int := if Jd d ∧ (neg = true → d ≠ [48]) then some (if neg then -(dval d : Int) else dval d) else none
theorem jnum_neg (d : List UInt8) : jnum (45 :: d) = JN d true := by simp [jnum, JN]
theorem jnum_pos (l : List UInt8) (h : l.head? ≠ some 45) : jnum l = JN l false := by
  cases l with
  | nil =>
    have hn : ¬ Jd [] := fun k => by have := k.2.1; simp at this
    simp [jnum, JN, hn]
  | cons c d =>
    have hc : c ≠ 45 := by simpa using h
    simp [jnum, JN, hc]
theorem trim_minus (l : List UInt8) : (l.head? = some 45 ∧ l = 45 :: Lib.trimPrefix l [45]) ∨ (l.head? ≠ some 45 ∧ Lib.trimPrefix l [45] = l) := by
  cases l with
  | nil => right; simp [Lib.trimPrefix, Lib.hasPrefix]
  | cons c d =>
    by_cases h : c = 45
    · subst h; left; simp [Lib.trimPrefix, Lib.hasPrefix, List.isPrefixOf]
    · right
      have : ((45 : UInt8) == c) = false := by simp [Ne.symm h]
      simp [Lib.trimPrefix, Lib.hasPrefix, List.isPrefixOf, this, h]
theorem JN_empty (neg : Bool) : JN [] neg = none := by
  unfold JN
  rw [if_neg]
  intro h
  have := h.1.2.1
  simp at this
theorem JN_long (d : List UInt8) (neg : Bool) (h : 18 < d.length) : JN d neg = none := by
  unfold JN
  rw [if_neg]
  intro k
  have := k.1.2.2.1
  omega
theorem JN_nought (d : List UInt8) (neg : Bool) (h : d.head? = some 48) (h2 : neg = true ∨ d ≠ [48]) : JN d neg = none := by
  unfold JN
  rw [if_neg]
  intro k
  have h3 := k.1.2.2.2 h
  have h4 : d = [48] := by
    cases d with
    | nil => simp at h
    | cons c r =>
      cases r with
      | nil => simpa using h
      | cons _ _ => simp at h3
  rcases h2 with h2 | h2
  · exact k.2 h2 h4
  · exact h2 h4
theorem JN_bad (d : List UInt8) (neg : Bool) (c : UInt8) (hc : c ∈ d) (h : isDig c = false) : JN d neg = none := by
  unfold JN
  rw [if_neg]
  intro k
  have := List.all_eq_true.1 k.1.1 c hc
  rw [h] at this; cases this
theorem JN_good (d : List UInt8) (neg : Bool) (h : d.all isDig = true) (h1 : 1 ≤ d.length) (h2 : d.length ≤ 18) (h3 : d.head? = some 48 → neg = false ∧ d = [48]) : JN d neg = some (if neg then -(dval d : Int) else dval d) := by
  unfold JN
  rw [if_pos]
  refine ⟨⟨h, h1, h2, fun k => by rw [(h3 k).2]; rfl⟩, fun hn hd => ?_⟩
  have := (h3 (by rw [hd]; rfl)).1
  rw [hn] at this; cases this
def NumPost (o : Option Int) (x : Ending) : Prop := x = .returned (.tuple #[.int .i64 (o.getD 0), .bool o.isSome])
theorem num_none {o : Option Int} (h : o = none) : Ending.returned (.tuple #[.int .i64 0, .bool false]) = .returned (.tuple #[.int .i64 (o.getD 0), .bool o.isSome]) := by subst h; rfl
theorem num_some {o : Option Int} {n : Int} (h : o = some n) : Ending.returned (.tuple #[.int .i64 n, .bool true]) = .returned (.tuple #[.int .i64 (o.getD 0), .bool o.isSome]) := by subst h; rfl

set_option maxHeartbeats 2000000 in
set_option maxRecDepth 100000 in
/-- Behind the sign. -/
theorem number_in (s D : ByteArray) (neg : Bool) (w : World) (hT : (⟨(Lib.trimPrefix s.data.toList [45]).toArray⟩ : ByteArray) = D) (hn : (D.toList == s.toList) = !neg) (h0 : ((s.toList == [48]) = true) ↔ (neg = false ∧ D.data.toList = [48])) (hs : s.size ≤ 9223372036854775807) (hDs : D.size ≤ s.size) :
    Calls Tryd.prog 48 #[.string s] w fun e w' => NumPost (JN D.data.toList neg) e ∧ Below w.heap.size w w' := by
  have hT2 : (⟨(Lib.trimPrefix s.data.toList (⟨#[45]⟩ : ByteArray).data.toList).toArray⟩ : ByteArray) = D := hT
  have hlen : D.data.toList.length = D.size := by rw [Array.length_toList]; rfl
  by_cases hz : D.size = 0
  · have hD : D.data.toList = [] := List.eq_nil_of_length_eq_zero (by omega)
    have HP : Hid (JN D.data.toList neg = none) := by show _ = _; rw [hD, JN_empty]
    have q0 : (D.toList == []) = true := by rw [Lib.toList_data, hD]; rfl
    clear h0 hn
    go_enter Tryd.func48, Tryd.ntmps48
    go_wp2_with fail
    go_at_call 81
    refine (Tryd.strings_TrimPrefix s ⟨#[45]⟩ _).mono ?_
    rw [hT2]
    rintro x w1 ⟨rfl, rfl⟩
    go_wp2
    go_ret2
    exact ⟨num_none HP.out, Below.refl _ _⟩
  have q0 : (D.toList == []) = false := by
    rw [Lib.toList_data]
    cases hD : D.data.toList with
    | nil => rw [hD] at hlen; simp at hlen; omega
    | cons _ _ => rfl
  by_cases hz18 : 18 < D.size
  · have HP : Hid (JN D.data.toList neg = none) := by show _ = _; rw [JN_long _ _ (by omega)]
    have q1 : (18 : Int) < (D.size : Int) := by omega
    clear h0 hn
    go_enter Tryd.func48, Tryd.ntmps48
    go_wp2_with fail
    go_at_call 81
    refine (Tryd.strings_TrimPrefix s ⟨#[45]⟩ _).mono ?_
    rw [hT2]
    rintro x w1 ⟨rfl, rfl⟩
    go_wp2
    go_ret2
    exact ⟨num_none HP.out, Below.refl _ _⟩
  have q1 : ¬ (18 : Int) < (D.size : Int) := by omega
  have hix : (0 : Int) < (D.size : Int) := by omega
  have hix2 : 0 < D.size := by omega
  have hhead : D.data.toList.head? = some D[0] := by
    rw [List.head?_eq_getElem?, List.getElem?_eq_getElem (by omega)]
    exact congrArg some (list_get D 0 (by omega))
  by_cases hnt : D[0].toNat = 48 ∧ (s.toList == [48]) = false
  · obtain ⟨g1, g2⟩ := hnt
    have HP : Hid (JN D.data.toList neg = none) := by
      show _ = _
      refine JN_nought _ _ (by rw [hhead]; congr 1; exact UInt8.toNat.inj (by simpa using g1)) ?_
      by_cases hng : neg = true
      · exact .inl hng
      · right
        intro hD
        have := h0.2 ⟨by simpa using hng, hD⟩
        rw [g2] at this; cases this
    have e1 : ((D[0].toNat : Int) == 48) = true := by simp only [beq_iff_eq]; omega
    clear h0 hn
    go_enter Tryd.func48, Tryd.ntmps48
    go_wp2_with fail
    go_at_call 81
    refine (Tryd.strings_TrimPrefix s ⟨#[45]⟩ _).mono ?_
    rw [hT2]
    rintro x w1 ⟨rfl, rfl⟩
    go_wp2
    go_ret2
    exact ⟨num_none HP.out, Below.refl _ _⟩
  have h3 : D.data.toList.head? = some 48 → neg = false ∧ D.data.toList = [48] := by
    intro hh
    rw [hhead] at hh
    have h48 : D[0].toNat = 48 := by have := Option.some.inj hh; rw [this]; rfl
    refine h0.1 ?_
    cases hq : (s.toList == [48]) with
    | true => rfl
    | false => exact absurd ⟨h48, hq⟩ hnt
  have H3 : Hid (D.data.toList.head? = some 48 → neg = false ∧ D.data.toList = [48]) := h3
  have hsel : ((D[0].toNat : Int) == 48) = false ∨ (((D[0].toNat : Int) == 48) = true ∧ (s.toList == [48]) = true) := by
    by_cases h48 : D[0].toNat = 48
    · right
      refine ⟨by simp only [beq_iff_eq]; omega, ?_⟩
      cases hq : (s.toList == [48]) with
      | true => rfl
      | false => exact absurd ⟨h48, hq⟩ hnt
    · left; simp only [beq_eq_false_iff_ne]; omega
  clear h0 hnt h3 hhead hT
  rcases hsel with e1 | ⟨e1, e2⟩
  all_goals (
    go_enter Tryd.func48, Tryd.ntmps48
    go_wp2_with fail
    go_at_call 81
    refine (Tryd.strings_TrimPrefix s ⟨#[45]⟩ _).mono ?_
    rw [hT2]
    rintro x w1 ⟨rfl, rfl⟩
    go_wp2
    go_loopg [5] D.size (fun gk t wr => ∃ k : Nat, k ≤ D.size ∧ t = .int .i64 (dval (D.data.toList.take k)) ∧ Hid ((D.data.toList.take k).all isDig = true) ∧ gk = D.size - k ∧ wr = w1.iter D k)
    case atStart => exact ⟨0, by omega, rfl, rfl, rfl, rfl⟩
    case round =>
      obtain ⟨k, hk, rfl, HA, hgk, rfl⟩ := hrel
      have HG := Lib.hid hgk
      clear hgk
      have hd := dval_lt _ HA.out
      have hl : (D.data.toList.take k).length = k := by rw [List.length_take]; omega
      rw [hl] at hd
      by_cases hlt : k < D.size
      · have hd17 : dval (D.data.toList.take k) < 100000000000000000 := by
          have : 10 ^ k ≤ 10 ^ 17 := Nat.pow_le_pow_right (by omega) (by omega)
          omega
        clear hd hl
        by_cases ha : (D[k]).toNat < 128
        · have hn := fun ty => run_next_ascii (P := Tryd.prog) w1 D k ty hlt ha
          by_cases hdig : isDig D[k] = true
          · have hq := (isDig_iff _).1 hdig
            have hsn : Hid (dval (D.data.toList.take (k + 1)) = 10 * dval (D.data.toList.take k) + (D[k].toNat - 48)) := by rw [take_snoc D k hlt]; exact dval_snoc _ _
            have hal : Hid ((D.data.toList.take (k + 1)).all isDig = true) := by
              show _ = _
              rw [take_snoc D k hlt, List.all_append, HA.out]; simpa using hdig
            clear hdig
            generalize dval (D.data.toList.take k) = n at *
            have hc0 : 48 ≤ (D[k].toNat : Int) := by omega
            have hc1 : (D[k].toNat : Int) ≤ 57 := by omega
            go_wp2
            go_roundg (D.size - (k + 1))
            case measure => have := HG.out; omega
            case rel => exact ⟨k + 1, by omega, by rw [hsn.out]; congr 1; omega, hal, rfl, rfl⟩
          · have hb : isDig D[k] = false := by simpa using hdig
            have HP : Hid (JN D.data.toList neg = none) := JN_bad _ _ D[k] (by rw [← list_get D k hlt]; exact List.getElem_mem _) hb
            have hq : (D[k]).toNat < 48 ∨ 57 < (D[k]).toNat := by
              have := isDig_iff D[k]; rw [hb] at this; simp at this; omega
            clear hb hdig
            rcases hq with hq | hq
            · have hc0 : (D[k].toNat : Int) < 48 := by omega
              go_wp2
              go_ret2
              exact ⟨num_none HP.out, below_iter _ _ _⟩
            · have hc0 : ¬ (D[k].toNat : Int) < 48 := by omega
              have hc1 : (57 : Int) < (D[k].toNat : Int) := by omega
              go_wp2
              go_ret2
              exact ⟨num_none HP.out, below_iter _ _ _⟩
        · have hn := fun ty => run_next_any (P := Tryd.prog) w1 D k ty hlt
          have hh := (decode_high D k hlt (by omega)).1
          have HP : Hid (JN D.data.toList neg = none) := JN_bad _ _ D[k] (by rw [← list_get D k hlt]; exact List.getElem_mem _) (by
            have := isDig_iff D[k]
            cases hb : isDig D[k] with
            | false => rfl
            | true => rw [hb] at this; simp at this; omega)
          generalize (Utf8.decode D k).1 = r at *
          have hc0 : ¬ (r : Int) < 48 := by omega
          have hc1 : (57 : Int) < (r : Int) := by omega
          go_wp2
          go_ret2
          exact ⟨num_none HP.out, below_iter _ _ _⟩
      · have e : D.data.toList.take k = D.data.toList := take_all D k (by omega)
        rw [e] at hd ⊢
        have HP : Hid (JN D.data.toList neg = some (if neg then -(dval D.data.toList : Int) else dval D.data.toList)) := by
          show _ = _
          have h1 := HA.out
          rw [e] at h1
          exact JN_good _ _ h1 (by omega) (by omega) H3.out
        have hd18 : dval D.data.toList < 1000000000000000000 := by
          have : 10 ^ k ≤ 10 ^ 18 := Nat.pow_le_pow_right (by omega) (by omega)
          omega
        have hk2 : k = D.size := by omega
        have hn := fun ty => run_next_end (P := Tryd.prog) w1 D k ty hlt
        clear hd hl e hk2
        generalize dval D.data.toList = n at *
        cases neg with
        | false =>
          have HQ : Hid (JN D.data.toList false = some (n : Int)) := by show _ = _; rw [HP.out]; rfl
          go_wp2
          go_ret2
          exact ⟨num_some HQ.out, below_iter _ _ _⟩
        | true =>
          have HQ : Hid (JN D.data.toList true = some (-(n : Int))) := by show _ = _; rw [HP.out]; rfl
          go_wp2
          go_ret2
          exact ⟨num_some HQ.out, below_iter _ _ _⟩)

theorem number_any (s : ByteArray) (w : World) (hs : s.size ≤ 9223372036854775807) :
    Calls Tryd.prog 48 #[.string s] w fun e w' => NumPost (jnum s.data.toList) e ∧ Below w.heap.size w w' := by
  have hsl : s.data.toList.length = s.size := by rw [Array.length_toList]; rfl
  rcases trim_minus s.data.toList with ⟨h1, h2⟩ | ⟨h1, h2⟩
  · obtain ⟨d, hd⟩ : ∃ d, Lib.trimPrefix s.data.toList [45] = d := ⟨_, rfl⟩
    rw [hd] at h2
    have h3 : (⟨d.toArray⟩ : ByteArray).size = d.length := by simp [ByteArray.size]
    have h4 := congrArg List.length h2
    simp only [List.length_cons] at h4
    rw [hsl] at h4
    have := number_in s ⟨d.toArray⟩ true w (by rw [hd]) (by
        rw [Lib.toList_data, Lib.toList_data, h2]
        simp only [Bool.not_true, beq_eq_false_iff_ne, ne_eq]
        intro k
        have := congrArg List.length k
        simp at this) (by
        rw [Lib.toList_data, h2]
        constructor
        · intro k; simp at k
        · rintro ⟨k, -⟩; cases k) hs (by omega)
    rw [h2, jnum_neg]
    exact this
  · have := number_in s s false w (by rw [h2]) (by simp) (by
        rw [Lib.toList_data]
        constructor
        · intro k; exact ⟨rfl, by simpa using k⟩
        · rintro ⟨-, k⟩; rw [k]; rfl) hs (Nat.le_refl _)
    rw [jnum_pos _ h1]
    exact this
end Go.Proofs.YtdpaiaeaamokeaaDoor.Job

namespace Go.Proofs.YtdpaiaeaamokeaaDoor.Job
open Go.RowKit Go Go.Proofs.YtdpaiaeaamokeaaDoor.Cron

/-- The numbers that pieces say; none, if one says none. -/
def jall : List (List UInt8) → Option (List Int)
  | [] => some []
  | p :: ps => match jnum p, jall ps with
    | some n, some ns => some (n :: ns)
    | _, _ => none
/-- What Told answers: the numbers, or none. -/
def told (l : List UInt8) : Option (List Int) := if l = [] then some [] else jall (pieces 32 l)
theorem jall_none (ps : List (List UInt8)) (p : List UInt8) (h : p ∈ ps) (hn : jnum p = none) : jall ps = none := by
  induction ps with
  | nil => cases h
  | cons q qs ih =>
    rw [jall]
    rcases List.mem_cons.1 h with rfl | h
    · rw [hn]
    · rw [ih h]; cases jnum q <;> rfl
theorem jall_some : ∀ (ps : List (List UInt8)) (ns : List Int), ps.map jnum = ns.map some → jall ps = some ns
  | [], [], _ => rfl
  | [], _ :: _, h => by simp at h
  | _ :: _, [], h => by simp at h
  | p :: ps, n :: ns, h => by
    simp only [List.map_cons, List.cons.injEq] at h
    rw [jall, h.1, jall_some ps ns h.2]
/-- The answer: a slice of the call's own. -/
def ToldPost (B : Nat) (o : Option (List Int)) (x : Ending) (w' : World) : Prop :=
  match o with
  | none => x = .returned (.tuple #[.slice none 0 0, .int .i64 11])
  | some ns => ∃ v, x = .returned (.tuple #[v, .int .i64 0]) ∧ w'.ownsRow B 3 1 v ns.length (ns.map (Value.int .i64))

set_option maxHeartbeats 2000000 in
set_option maxRecDepth 100000 in
theorem told_any (s : ByteArray) (w : World) (hm : MaxOk w) (hs : s.size ≤ 1000000) :
    Calls Tryd.prog 11 #[.string s] w fun e w' => ToldPost w.heap.size (told s.data.toList) e w' ∧ Below w.heap.size w w' := by
  obtain ⟨i0, hi0, hz0, hz1, hz2⟩ := info_parts Tryd.infoInt
  have hsl : s.data.toList.length = s.size := by rw [Array.length_toList]; rfl
  by_cases hempty : s.data.toList = []
  · have HP : Hid (told s.data.toList = some []) := by show _ = _; rw [told, if_pos hempty]
    have q0 : (s.toList == []) = true := by rw [Lib.toList_data, hempty]; rfl
    clear hempty
    go_enter Tryd.func11, Tryd.ntmps11
    go_wp2
    go_ret2
    exact ⟨by rw [HP.out]; exact ⟨_, rfl, World.ownsRow_nil _ _ _ _⟩, Below.refl _ _⟩
  have HT : Hid (told s.data.toList = jall (pieces 32 s.data.toList)) := by show _ = _; rw [told, if_neg hempty]
  have q0 : (s.toList == []) = false := by rw [Lib.toList_data]; simpa using hempty
  clear hempty
  obtain ⟨m, hm0⟩ := hm
  obtain ⟨bs, hbs⟩ : ∃ bs : List ByteArray, bs = Lib.splitB ⟨#[32]⟩ 0 (Lib.countB s ⟨#[32]⟩) s := ⟨_, rfl⟩
  have hlen : bs.length = Lib.countB s ⟨#[32]⟩ + 1 := by rw [hbs]; exact Lib.splitB_all ⟨#[32]⟩ (by decide) 0 _ s rfl
  have hpc : bs.map (·.data.toList) = pieces 32 s.data.toList := by rw [hbs]; exact splitB_one 32 s
  have hcnt : Lib.countB s ⟨#[32]⟩ ≤ s.size := Lib.countB_le ⟨#[32]⟩ (by decide) s.size s (Nat.le_refl _)
  have HB := Lib.hid hbs
  have HC := Lib.hid hpc
  have HL := Lib.hid hlen
  have hbl : bs.length ≤ 1000001 := by omega
  clear hbs hpc hlen
  go_enter Tryd.func11, Tryd.ntmps11
  go_wp2_with fail
  go_at_call 47
  refine (Tryd.strings_Split s ⟨#[32]⟩ m w (by omega) hm0 (by decide)).mono ?_
  rw [← HB.out, ← HL.out]
  rintro e w1 ⟨rfl, rfl⟩
  go_wp2
  clear hm0
  go_loopg [4, 14] bs.length (fun gk v iv wr => ∃ (k : Nat) (ns : List Int), iv = .int .i64 k ∧ k ≤ bs.length ∧ ns.length = k ∧ wr.ownsRow (w.heap.size + 1) 3 1 v ns.length (ns.map (Value.int .i64)) ∧ Below (w.alloc (.cells (List.map Value.string bs).toArray 9)).heap.size (w.alloc (.cells (List.map Value.string bs).toArray 9)) wr ∧
    Hid ((bs.take k).map (fun b => jnum b.data.toList) = ns.map some) ∧ gk = bs.length - k)
  case atStart => exact ⟨0, [], rfl, by omega, rfl, World.ownsRow_nil _ _ _ _, Below.refl _ _, rfl, rfl⟩
  case round =>
    obtain ⟨k, ns, rfl, hk, hnl, hown, hb, HN, hgk⟩ := hrel
    have HG := Lib.hid hgk
    have HNL := Lib.hid hnl
    have hnz : ns.length ≤ 1000001 := by omega
    clear hgk hnl
    have hbel : Below w.heap.size w wr := ((Below.refl w.heap.size w).alloc (Nat.le_refl _) _).trans (hb.mono (by simp))
    by_cases hlt : k < bs.length
    · have hcell : wr.cell? ⟨w.heap.size, k, none⟩ = some (.string bs[k]) := by
        rw [keepN hb k]; simp [hlt]
      have hp : bs[k].data.toList ∈ pieces 32 s.data.toList := by rw [← HC.out]; exact List.mem_map.2 ⟨bs[k], List.getElem_mem _, rfl⟩
      have hsz : bs[k].size ≤ s.size := by
        have := pieces_le 32 s.data.toList _ hp
        rw [Array.length_toList, Array.length_toList] at this
        exact this
      have HPI := Lib.hid hp
      have HTK : Hid ((bs.take (k + 1)).map (fun b => jnum b.data.toList) = (bs.take k).map (fun b => jnum b.data.toList) ++ [jnum bs[k].data.toList]) := by
        show _ = _
        rw [List.take_succ_eq_append_getElem hlt, List.map_append]; rfl
      clear hp
      go_wp2_with fail
      go_at_call 48
      refine (number_any bs[k] _ (by omega)).mono ?_
      obtain ⟨o, ho⟩ : ∃ o, jnum bs[k].data.toList = o := ⟨_, rfl⟩
      rw [ho]
      rw [ho] at HTK
      have HO := Lib.hid ho
      have HNR : Hid (∀ n, o = some n → -1000000000000000000 < n ∧ n < 1000000000000000000) := fun n hn => (itoa_jnum _ n (ho.trans hn)).2
      clear ho
      rintro e w3 ⟨hx, hb3⟩
      unfold NumPost at hx
      have hown3 := own_below hown hb3
      have hb5 := hb.trans (hb3.mono hb.size)
      have hbel3 := bthen hbel hb3
      have hz3 : w.heap.size + 1 ≤ w3.heap.size := by have := hb5.size; simp at this; omega
      clear hb3 hown hb hbel hcell
      cases o with
      | none =>
        have HF : Hid (told s.data.toList = none) := by show _ = _; rw [HT.out]; exact jall_none _ _ HPI.out HO.out
        simp only [Option.getD_none, Option.isSome_none] at hx
        subst hx
        go_wp2
        go_ret2
        exact ⟨by rw [HF.out]; exact rfl, hbel3⟩
      | some n =>
        have hnr := HNR.out n rfl
        simp only [Option.getD_some, Option.isSome_some] at hx
        subst hx
        have HW := Lib.hid hown3
        clear hown3
        go_wp2_with (at_builtin; refine wpList_append_lies _ rfl _ _ 22 rfl (w.heap.size + 1) 3 i0 (.int .i64 0) 1 8 Tryd.underlying22 hi0 hz0 hz1 hz2 rfl (by decide) _ _ _ rfl (HW.out.alloc _) ⟨w3.heap.size, 0, none⟩ 1 1 [.int .i64 n] rfl rfl ?c1 ?c2 (by decide) ?c3 ?c4 ?c5 _ rfl ?_)
        case c1 =>
          intro j u hj
          match j, hj with
          | 0, hj => simp at hj; subst hj; simp [Addr.add]
        case c2 => intro u hu; simp at hu; subst hu; rfl
        case c3 => unfold maxLen; omega
        case c4 => omega
        case c5 => simp; omega
        · intro g cap w6 hown6 hgrow hat hgl
          obtain ⟨hb6, -⟩ := own_grown (w := w.alloc (.cells (List.map Value.string bs).toArray 9)) (by simp) HW.out hb5 hgrow
          clear hgrow hat hgl HW hb5 hbel3
          go_wp2
          go_roundg (bs.length - (k + 1))
          case measure => have := HG.out; omega
          case rel =>
            refine ⟨k + 1, ns ++ [n], rfl, by omega, by rw [List.length_append, HNL.out]; rfl, ?_, hb6, ?_, rfl⟩
            · rw [List.length_append, List.map_append]; exact hown6
            · show _ = _
              rw [HTK.out, HN.out, List.map_append]; rfl
    · have HF : Hid (told s.data.toList = some ns) := by
        show _ = _
        have h1 := HN.out
        rw [List.take_of_length_le (by omega)] at h1
        rw [HT.out]
        refine jall_some _ _ ?_
        rw [← HC.out, List.map_map]
        exact h1
      have HW := Lib.hid (own_le hown (Nat.le_succ w.heap.size))
      clear hown hb
      go_wp2
      go_ret2
      exact ⟨by rw [HF.out]; exact ⟨_, rfl, HW.out⟩, hbel⟩
end Go.Proofs.YtdpaiaeaamokeaaDoor.Job

