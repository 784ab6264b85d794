/- JobNames, walked. -/
import Derived.Test.YtggcnbdpobbkaaaDoorJobEnc
import Derived.Test.YtggcnbdpobbkaaaDoorJobName
import Derived.Test.YtggcnbdpobbkaaaDoorCronLawBlanks
namespace Go.Proofs.YtggcnbdpobbkaaaDoor.Job
open Go.RowKit Go Go.Proofs.YtggcnbdpobbkaaaDoor.Cron

theorem within17 (a n : Int) (w : World) (h1 : 0 < n) (h2 : n ≤ 4611686018427387904) :
    Calls Tryd.prog 18 #[.int .i64 a, .int .i64 n] w fun e w' => e = .returned (.int .i64 (a % n)) ∧ w = w' := by
  obtain ⟨t1, t2, t3, t4⟩ := tmod_within a n h1
  have hz : (n == 0) = false := by simp; omega
  by_cases c : a.tmod n < 0
  · have H := Lib.hid (t1 c)
    clear t1 t2
    go_enter Tryd.func18, Tryd.ntmps18
    go_wp2
    go_ret
    exact ⟨ret_int H.out, rfl⟩
  · have H := Lib.hid (t2 c)
    clear t1 t2
    go_enter Tryd.func18, Tryd.ntmps18
    go_wp2
    go_ret
    exact ⟨ret_int H.out, rfl⟩
theorem within17n (a n : Int) (w : World) (h1 : 0 < n) (h2 : n ≤ 4611686018427387904) :
    Calls Tryd.prog 18 #[.int .i64 a, .int .i64 n] w fun e w' => (∃ q : Nat, e = .returned (.int .i64 q) ∧ (q : Int) < n ∧ Hid (a % n = q)) ∧ w = w' :=
  (within17 a n w h1 h2).mono fun _ _ ⟨he, hw⟩ => ⟨⟨(a % n).toNat, by rw [he, Int.toNat_of_nonneg (Int.emod_nonneg _ (by omega))], by have := Int.emod_lt_of_pos a h1; omega, by show _ = _; rw [Int.toNat_of_nonneg (Int.emod_nonneg _ (by omega))]⟩, hw⟩

def signs : ByteArray := ⟨#[97, 98, 99, 100, 101, 102, 103, 104, 105, 106, 107, 108, 109, 110, 111, 112, 113, 114, 115, 116, 117, 118, 119, 120, 121, 122, 48, 49, 50, 51, 52, 53, 54, 55, 56, 57, 45]⟩
def bads : ByteArray := ⟨#[65, 95, 47, 32, 46, 0, 255]⟩
/-- A sign of names, at whatever place but the first. -/
def sgn (c : UInt8) : Bool := nch 1 c
theorem signs_at : ∀ q (h : q < signs.size), sgn signs[q] = true := by decide
theorem bads_at : ∀ q (h : q < bads.size), sgn bads[q] = false ∧ bads[q] ≠ 45 := by decide
theorem sgn_first (c : UInt8) : nch 0 c = (sgn c && decide (c ≠ 45)) := by
  rw [Bool.eq_iff_iff, Bool.and_eq_true, sgn, nch_iff, nch_iff]
  have : c ≠ 45 ↔ c.toNat ≠ 45 := ⟨fun h k => h (UInt8.toNat.inj (by simpa using k)), fun h k => h (by rw [k]; rfl)⟩
  simp only [decide_eq_true_eq, this]
  omega
theorem nch_later (i : Nat) (h : i ≠ 0) (c : UInt8) : nch i c = sgn c := by
  rw [Bool.eq_iff_iff, sgn, nch_iff, nch_iff]; omega
def AllSgn (T : ByteArray) : Prop := ∀ c ∈ T.data.toList, sgn c = true
theorem names_is (T : ByteArray) (h : AllSgn T) (h1 : 1 ≤ T.size) : nameB T = (decide (T[0] ≠ 45) && decide (T.size ≤ 30)) := by
  have hm : ∀ i (hi : i < T.size), sgn T[i] = true := fun i hi => h _ (by rw [← list_get T i hi]; exact List.getElem_mem _)
  rw [Bool.eq_iff_iff, nameB_iff, Bool.and_eq_true, decide_eq_true_eq, decide_eq_true_eq]
  constructor
  · rintro ⟨a, _, c⟩
    have := a 0 (by omega) (by omega)
    rw [sgn_first, Bool.and_eq_true, decide_eq_true_eq] at this
    exact ⟨this.2, c⟩
  · rintro ⟨a, b⟩
    refine ⟨fun i hi _ => ?_, h1, b⟩
    by_cases e : i = 0
    · subst e; rw [sgn_first, hm 0 hi]; simp [a]
    · rw [nch_later i e]; exact hm i hi
theorem name_hole (T E : ByteArray) (k : Nat) (c : UInt8) (hk : k < T.size) (hE : E.data.toList = [c]) (h1 : sgn c = false) (h2 : c ≠ 45) : nameB (T.extract 0 k ++ E ++ T.extract (k + 1) T.size) = false := by
  have hl : (T.extract 0 k ++ E ++ T.extract (k + 1) T.size).data.toList = (T.extract 0 k).data.toList ++ (c :: (T.extract (k + 1) T.size).data.toList) := by simp [hE]
  have hz : (T.extract 0 k).data.toList.length = k := by rw [Array.length_toList]; show (T.extract 0 k).size = k; simp; omega
  have hs : k < (T.extract 0 k ++ E ++ T.extract (k + 1) T.size).size := by
    have := congrArg List.length hl
    rw [Array.length_toList, List.length_append, hz] at this
    show k < (T.extract 0 k ++ E ++ T.extract (k + 1) T.size).data.size
    rw [this]; first | (simp; done) | (simp; omega)
  refine nameB_bad _ k hs ?_
  have hg : (T.extract 0 k ++ E ++ T.extract (k + 1) T.size)[k] = c := by
    have h3 : (T.extract 0 k ++ E ++ T.extract (k + 1) T.size).data.toList[k]? = some c := by
      rw [hl, List.getElem?_append_right (by omega), hz, Nat.sub_self]; rfl
    obtain ⟨_, h4⟩ := List.getElem?_eq_some_iff.1 h3
    exact h4
  rw [hg]
  by_cases e : k = 0
  · subst e; rw [sgn_first, h1]; rfl
  · rw [nch_later k e, h1]
theorem name_empty : nameB ⟨#[]⟩ = false := by
  rw [Bool.eq_false_iff, Ne, nameB_iff]
  intro h
  have := h.2.1
  exact absurd this (by decide)

theorem bel_k {w W : World} (hb : Below w.heap.size w W) : Below w.heap.size w W := hb

set_option maxHeartbeats 4000000 in
set_option maxRecDepth 100000 in
theorem names_walk (w : World) (ao : Option Addr) (cap : Nat) (xs : List Int) (w0 : SlOk w ao xs ∧ xs.length ≤ 9223372036854775807) (a1 : Int) (w1 : (Lit.int .i64 a1).wf = true) (hL : Laid w) (hP : Pow w) :
    Calls Tryd.prog 3 #[.slice ao xs.length cap, .int .i64 a1] w fun e w' => e = .returned (.bool true) ∧ Below w.heap.size w w' := by
  obtain ⟨w0, hxl⟩ := w0
  have HS : Hid (SlOk w ao xs) := w0
  clear w0
  go_enter Tryd.func3, Tryd.ntmps3
  go_wp2_with fail
  go_at_call 17
  refine (known17 _ hL hP).mono ?_
  rintro x wk0 ⟨rfl, hbel⟩
  by_cases hx0 : xs.length = 0
  · have h1 : ((xs.length : Int) == 0) = true := by rw [hx0]; rfl
    clear hx0
    go_wp2
    go_ret
    exact ⟨rfl, hbel⟩
  have h1 : ((xs.length : Int) == 0) = false := by simp only [beq_eq_false_iff_ne]; omega
  by_cases hx35 : 35 < xs.length
  · have h2 : (35 : Int) < (xs.length : Int) := by omega
    clear hx0
    go_wp2
    go_ret
    exact ⟨rfl, hbel⟩
  have h2 : ¬ (35 : Int) < (xs.length : Int) := by omega
  go_wp2
  go_loopg [5, 7] xs.length (fun gk tv iv wr => ∃ (i : Nat) (T : ByteArray), tv = .string T ∧ iv = .int .i64 i ∧ i ≤ xs.length ∧ T.size = i ∧ Hid (AllSgn T) ∧ Below w.heap.size w wr ∧ gk = xs.length - i)
  case atStart => exact ⟨0, ⟨#[]⟩, rfl, rfl, by omega, rfl, fun c hc => by simp at hc, hbel, rfl⟩
  case round =>
    clear hbel
    obtain ⟨i, T, rfl, rfl, hi, hTz, HA, hbel, hgk⟩ := hrel
    have HG := Lib.hid hgk
    have HTZ := Lib.hid hTz
    have hTb : T.size ≤ 35 := by omega
    clear hgk hTz
    by_cases hlt : i < xs.length
    · obtain ⟨b, o, rfl, hbb, hcell, hx1, hx2⟩ := HS.out i hlt
      obtain ⟨x, hx⟩ : ∃ x, xs.getD i 0 = x := ⟨_, rfl⟩
      rw [hx] at hcell hx1 hx2
      have hcw : wr.cell? ⟨b, o + i, none⟩ = some (.int .i64 x) := (keep0 hbel hbb (o + i)).trans hcell
      clear hx hcell
      go_wp2_with fail
      go_at_call 18
      refine (within17n x 37 _ (by omega) (by omega)).mono ?_
      rintro y w4 ⟨⟨q, rfl, hq, HQ⟩, rfl⟩
      have hq37 : q < signs.size := by show q < 37; omega
      have HXT := Lib.hid (extract_one signs q hq37)
      have HSG := Lib.hid (signs_at q hq37)
      obtain ⟨E, hE⟩ : ∃ E, signs.extract q (q + 1) = E := ⟨_, rfl⟩
      rw [hE] at HXT
      have hEz : E.size = 1 := by have := congrArg List.length HXT.out; rw [Array.length_toList] at this; exact this
      unfold signs at hE
      have hs1 : (q : Int) + 1 ≤ 37 := by omega
      have hs2 : (q : Int) ≤ (q : Int) + 1 := by omega
      have hs3 : ((q : Int) + 1).toNat = q + 1 := by omega
      have hs4 : 0 ≤ (q : Int) + 1 := by omega
      have hT3 : ¬ 9223372036854775807 < T.size + 1 := by omega
      have hT4 : ¬ 9223372036854775807 < T.size + E.size := by omega
      go_wp2
      go_roundg (xs.length - (i + 1))
      case measure => have := HG.out; omega
      case rel =>
        refine ⟨i + 1, T ++ E, rfl, rfl, by omega, by rw [ByteArray.size_append, HTZ.out, hEz], ?_, hbel, rfl⟩
        show AllSgn _
        intro c hc
        rw [app_list, HXT.out] at hc
        rcases List.mem_append.1 hc with hc | hc
        · exact HA.out c hc
        · simp at hc; subst hc; exact HSG.out
    · have hTz : 1 ≤ T.size := by have := HTZ.out; omega
      have HN := Lib.hid (names_is T HA.out hTz)
      have h0lt : 0 < T.size := by omega
      have hix : (0 : Int) < (T.size : Int) := by omega
      have HBR := Lib.hid hbel
      clear hbel
      have hbs : Below wr.heap.size wr wr := Below.refl _ _
      go_upto_region 12 with fail
      go_cut [50] (fun s50 wx => s50 = .bool false ∧ Below wr.heap.size wr wx)
      case first =>
        by_cases g1 : T[0] = 45
        · have hc45 : (T[0].toNat) = 45 := by rw [g1]; rfl
          have HV : Hid (nameB T = false) := by show _ = _; rw [HN.out]; simp [g1]
          clear g1
          first
            | (go_region_with (go_at_call 19; refine (name_any T _ (by omega)).mono ?_; rw [HV.out]; rintro x w5 ⟨rfl, hb⟩))
            | fail
          all_goals (
            go_wp2
            go_meet
            exact ⟨rfl, (by first | exact hb | exact hbs.drew.trans (hb.mono (Nat.le_refl _)) | exact (bthen hbs.drew hb) | trace_state)⟩)
        · have hc45 : ¬ (T[0].toNat) = 45 := fun h => g1 (UInt8.toNat.inj (by simpa using h))
          by_cases g2 : T.size ≤ 30
          · have HV : Hid (nameB T = true) := by show _ = _; rw [HN.out]; simp [g1, g2]
            have e1 : ((T[0].toNat : Int) == 45) = false := by simp only [beq_eq_false_iff_ne]; omega
            have e2 : ((T[0].toNat : Int) != 45) = true := by rw [bne, e1]; rfl
            have e3 : (T.size : Int) ≤ 30 := by omega
            have e4 : decide ((T.size : Int) ≤ 30) = true := by simp; omega
            clear g1 g2 hc45
            go_region_held3 (fun w' => Below wr.heap.size wr w')
              (first
                | with_reducible exact hbs.drew
                | (with_reducible refine bel_k (bthen ?_ hb)
                   first | assumption | exact hbs.drew | (go_split_ands; assumption))
                | go_keep)
              ((go_at_call 19; refine (name_any T _ (by omega)).mono ?_; rw [HV.out]; rintro x w5 ⟨rfl, hb⟩))
            all_goals (
              go_wp2
              go_meet
              exact ⟨rfl, (by first | assumption | (go_split_ands; assumption))⟩)
          · have HV : Hid (nameB T = false) := by show _ = _; rw [HN.out]; simp [g1, g2]
            have e1 : ((T[0].toNat : Int) == 45) = false := by simp only [beq_eq_false_iff_ne]; omega
            have e2 : ((T[0].toNat : Int) != 45) = true := by rw [bne, e1]; rfl
            have e3 : ¬ (T.size : Int) ≤ 30 := by omega
            have e4 : decide ((T.size : Int) ≤ 30) = false := by simp; omega
            clear g1 g2 hc45
            go_region_held3 (fun w' => Below wr.heap.size wr w')
              (first
                | with_reducible exact hbs.drew
                | (with_reducible refine bel_k (bthen ?_ hb)
                   first | assumption | exact hbs.drew | (go_split_ands; assumption))
                | go_keep)
              ((go_at_call 19; refine (name_any T _ (by omega)).mono ?_; rw [HV.out]; rintro x w5 ⟨rfl, hb⟩))
            all_goals (
              go_wp2
              go_meet
              exact ⟨rfl, (by first | assumption | (go_split_ands; assumption))⟩)
      case rest =>
        obtain ⟨rfl, hbx⟩ := hcut
        have hbelx := bthen HBR.out hbx
        clear hbx
        go_wp2_with fail
        go_at_call 18
        refine (within17n a1 T.size _ (by omega) (by omega)).mono ?_
        rintro y w7 ⟨⟨kk, rfl, hkk, -⟩, rfl⟩
        go_wp2_with fail
        go_at_call 18
        refine (within17n a1 7 _ (by omega) (by omega)).mono ?_
        rintro y w8 ⟨⟨r, rfl, hr, HR⟩, rfl⟩
        go_wp2_with fail
        go_at_call 18
        refine (within17 a1 7 _ (by omega) (by omega)).mono ?_
        rw [HR.out]
        rintro y w9 ⟨rfl, rfl⟩
        have hr7 : r < bads.size := by show r < 7; omega
        have HXT := Lib.hid (extract_one bads r hr7)
        have hBA := bads_at r hr7
        obtain ⟨E, hE⟩ : ∃ E, bads.extract r (r + 1) = E := ⟨_, rfl⟩
        rw [hE] at HXT
        have hEz : E.size = 1 := by have := congrArg List.length HXT.out; rw [Array.length_toList] at this; exact this
        have HNU := Lib.hid (name_hole T E kk bads[r] (by omega) HXT.out hBA.1 hBA.2)
        have HNE := Lib.hid name_empty
        clear hBA
        unfold bads at hE
        have hs1 : (r : Int) + 1 ≤ 7 := by omega
        have hs2 : (r : Int) ≤ (r : Int) + 1 := by omega
        have hs3 : ((r : Int) + 1).toNat = r + 1 := by omega
        have hs4 : 0 ≤ (r : Int) + 1 := by omega
        have hk1 : (kk : Int) + 1 ≤ (T.size : Int) := by omega
        have hk2 : (kk : Int) ≤ (T.size : Int) := by omega
        have hk3 : ((kk : Int) + 1).toNat = kk + 1 := by omega
        have hk4 : 0 ≤ (kk : Int) + 1 := by omega
        obtain ⟨X, hX⟩ : ∃ X, T.extract 0 kk = X := ⟨_, rfl⟩
        obtain ⟨Y, hY⟩ : ∃ Y, T.extract (kk + 1) T.size = Y := ⟨_, rfl⟩
        rw [hX, hY] at HNU
        have hXz : X.size ≤ 35 := by rw [← hX]; simp; omega
        have hYz : Y.size ≤ 35 := by rw [← hY]; simp; omega
        have hq1 : ¬ 9223372036854775807 < X.size + 1 := by omega
        have hq2 : ¬ 9223372036854775807 < X.size + 1 + Y.size := by omega
        have hkw : IntKind.i64.wrap ((kk : Int) + 1) = (kk : Int) + 1 := by rw [IntKind.wrap_i64]; omega
        have hk5 : (0 : Int) ≤ (kk : Int) := by omega
        have HBX := Lib.hid hbelx
        have HUZ : Hid ((X ++ E ++ Y).size ≤ 9223372036854775807) := by show _ ≤ _; rw [ByteArray.size_append, ByteArray.size_append]; omega
        clear hbelx
        go_wp2
        have hbs2 : Below wc.heap.size wc wc := Below.refl _ _
        go_region_held3 (fun w' => Below wc.heap.size wc w')
          (first
            | with_reducible exact hbs2.drew
            | (with_reducible refine bel_k (bthen ?_ hb)
               first | assumption | exact hbs2.drew | (go_split_ands; assumption))
            | go_keep)
          ((go_at_call 19; refine (name_any _ _ (by first | exact HUZ.out | decide)).mono ?_; first | rw [HNU.out] | rw [HNE.out]
            rintro x w5 ⟨rfl, hb⟩))
        all_goals (
          go_wp2
          go_ret
          exact ⟨rfl, bthen HBX.out (by first | assumption | (go_split_ands; assumption))⟩)
end Go.Proofs.YtggcnbdpobbkaaaDoor.Job
