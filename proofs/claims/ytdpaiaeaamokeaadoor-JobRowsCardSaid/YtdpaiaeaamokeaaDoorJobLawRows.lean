/- JobRows, walked. -/
import Derived.Test.YtdpaiaeaamokeaaDoorJobC
import Derived.Test.YtdpaiaeaamokeaaDoorJobB
import Derived.BigQuiet
namespace Go.Proofs.YtdpaiaeaamokeaaDoor.Job
open Go.RowKit Go Go.Proofs.YtdpaiaeaamokeaaDoor.Cron

/-! ### Rows of the call's own, slices that came in -/
theorem slok_below {w w' : World} {ao : Option Addr} {xs : List Int} (h : SlOk w ao xs) (hb : Below w.heap.size w w') : SlOk w' ao xs := by
  intro i hi
  obtain ⟨b, o, h1, h2, h3, h4⟩ := h i hi
  exact ⟨b, o, h1, Nat.lt_of_lt_of_le h2 hb.size, (keep0 hb h2 _).trans h3, h4⟩
theorem slok_own {w : World} {B : Nat} {v : Value} {ns : List Int} (h : w.ownsRow B 3 1 v ns.length (ns.map (Value.int .i64))) (hb : ∀ y ∈ ns, -9223372036854775808 ≤ y ∧ y ≤ 9223372036854775807) :
    ∃ ao cap, v = .slice ao ns.length cap ∧ SlOk w ao ns := by
  rcases h.2 with ⟨rfl, h0⟩ | ⟨g, cap, cur, rfl, hg, hh, hrest⟩
  · exact ⟨none, 0, by rw [h0], fun i hi => by omega⟩
  · refine ⟨some ⟨g, 0, none⟩, cap, rfl, fun i hi => ⟨g, 0, rfl, (h.lt g rfl).2, ?_, ?_⟩⟩
    · rw [Nat.zero_add, h.cellAt i (by omega)]; simp [hi]
    · rw [List.getD_eq_getElem?_getD, List.getElem?_eq_getElem hi]
      exact hb _ (List.getElem_mem _)
theorem own_empty (W : World) (B : Nat) (hB : B ≤ W.heap.size) : (W.alloc (.cells #[] 3)).ownsRow B 3 1 (.slice (some ⟨W.heap.size, 0, none⟩) 0 0) 0 [] :=
  ⟨by simp, .inr ⟨W.heap.size, 0, #[], rfl, hB, Go.heap_alloc_new _ _, Nat.le_refl _, by unfold maxLen; omega, by simp, by simp⟩⟩
theorem grown_below {w W W1 : World} {row : Option Nat} (hb : Below w.heap.size w W) (hg : W.grownBy W1 row) (hr : ∀ k, row = some k → w.heap.size ≤ k) : Below w.heap.size w W1 :=
  hb.trans ⟨hg.os, hg.tape, hg.output, hg.size, fun k hk => hg.block k (Nat.lt_of_lt_of_le hk hb.size) (fun h => by have := hr k h.symm; omega)⟩
/-- A number as the statement draws it. -/
def fr (x : Int) : Int := x % 1999999999999999999 - 999999999999999999
theorem fr_bd (x : Int) : -1000000000000000000 < fr x ∧ fr x < 1000000000000000000 := by unfold fr; omega
def mix (xs : List Int) (k : Nat) : List Int := (xs.take k).map fr ++ xs.drop k
theorem mix_len (xs : List Int) (k : Nat) : (mix xs k).length = xs.length := by simp [mix]; omega
theorem mix_zero (xs : List Int) : mix xs 0 = xs := by simp [mix]
theorem mix_all (xs : List Int) (k : Nat) (h : xs.length ≤ k) : mix xs k = xs.map fr := by simp [mix, List.take_of_length_le h, List.drop_of_length_le h]
theorem mix_at (xs : List Int) (k : Nat) (h : k < xs.length) : (mix xs k).getD k 0 = xs.getD k 0 := by
  unfold mix
  rw [List.getD_eq_getElem?_getD, List.getElem?_append_right (by simp; omega), List.getD_eq_getElem?_getD]
  simp [Nat.min_eq_left (Nat.le_of_lt h)]
theorem mix_step (xs : List Int) (k : Nat) (h : k < xs.length) : (mix xs k).set k (fr (xs.getD k 0)) = mix xs (k + 1) := by
  apply List.ext_getElem?
  intro i
  have hl : ((xs.take k).map fr).length = k := by simp; omega
  have hl2 : ((xs.take (k + 1)).map fr).length = k + 1 := by simp; omega
  rw [List.getElem?_set]
  unfold mix
  by_cases e : k = i
  · subst e
    rw [if_pos rfl, if_pos (by have := mix_len xs k; unfold mix at this; omega), List.getElem?_append_left (by omega)]
    simp [h]
  · rw [if_neg e]
    by_cases c : i < k
    · rw [List.getElem?_append_left (by omega), List.getElem?_append_left (by omega)]
      simp [List.getElem?_take, c, show i < k + 1 by omega]
    · rw [List.getElem?_append_right (by omega), List.getElem?_append_right (by omega), hl, hl2, List.getElem?_drop, List.getElem?_drop]
      congr 1; omega
theorem told_post {B : Nat} {o : Option (List Int)} {x : Ending} {w' : World} (h : ToldPost B o x w') (hb : ∀ ns, o = some ns → ∀ y ∈ ns, -9223372036854775808 ≤ y ∧ y ≤ 9223372036854775807) :
    ∃ ao cap, x = .returned (.tuple #[.slice ao (o.getD []).length cap, .int .i64 (if o.isSome then 0 else 11)]) ∧ SlOk w' ao (o.getD []) := by
  cases o with
  | none => exact ⟨none, 0, h, fun i hi => by simp at hi⟩
  | some ns =>
    obtain ⟨v, hx, hown⟩ := h
    obtain ⟨ao, cap, rfl, hs⟩ := slok_own hown (hb ns rfl)
    exact ⟨ao, cap, hx, hs⟩
theorem told_bd (l : List UInt8) (ns : List Int) (h : told l = some ns) : ∀ y ∈ ns, -9223372036854775808 ≤ y ∧ y ≤ 9223372036854775807 := by
  unfold told at h
  split at h
  · cases h; simp
  · intro y hy
    have := (jall_itoa _ _ h).2 y hy
    omega
theorem pieces_num (sep : UInt8) : ∀ l : List UInt8, (pieces sep l).length ≤ l.length + 1
  | [] => by simp [pieces]
  | c :: l => by
    have ih := pieces_num sep l
    rw [pieces]
    split
    · simp; omega
    · split
      · simp
      · rename_i h; rw [h] at ih; simp at ih ⊢; omega
theorem told_num (l : List UInt8) (ns : List Int) (h : told l = some ns) : ns.length ≤ l.length + 1 := by
  unfold told at h
  split at h
  · cases h; simp
  · have := congrArg List.length (jall_itoa _ _ h).1
    rw [List.length_map] at this
    rw [this]; exact pieces_num 32 l
theorem minutes_n (ao : Option Addr) (cap n : Nat) (xs : List Int) (w : World) (hl : n = xs.length) (h : SlOk w ao xs) (hn : xs.length ≤ 1000) (hP : Pow w) :
    Calls Tryd.prog 13 #[.slice ao n cap] w fun e w' => e = .returned (.string (bytesOf (minL xs))) ∧ Below w.heap.size w w' := by subst hl; exact minutes_any ao cap xs w h hn hP
theorem rminutes_n (ao : Option Addr) (cap n : Nat) (xs : List Int) (w : World) (hl : n = xs.length) (h : SlOk w ao xs) (hn : xs.length ≤ 1000) :
    Calls Tryd.prog 14 #[.slice ao n cap] w fun e w' => e = .returned (.string (bytesOf (minL xs))) ∧ Below w.heap.size w w' := by subst hl; exact rminutes_any ao cap xs w h hn

set_option maxHeartbeats 4000000 in
set_option maxRecDepth 100000 in
theorem rows_walk (w : World) (ao : Option Addr) (cap : Nat) (xs : List Int) (w0 : SlOk w ao xs ∧ xs.length ≤ 9223372036854775807) (s : ByteArray) (ws : s.size ≤ 140737488351232) (hL : Laid w) (hP : Pow w) :
    Calls Tryd.prog 3 #[.slice ao xs.length cap, .string s] w fun e w' => e = .returned (.bool true) ∧ Below w.heap.size w w' := by
  obtain ⟨i0, hi0, hz0, hz1, hz2⟩ := info_parts Tryd.infoInt
  obtain ⟨w0, hxl⟩ := w0
  have HS : Hid (SlOk w ao xs) := w0
  clear w0
  go_enter Tryd.func3, Tryd.ntmps3
  go_wp2_with fail
  go_at_call 9
  refine (known17 _ hL hP).mono ?_
  rintro x wk0 ⟨rfl, hbel⟩
  by_cases hx50 : 50 < xs.length
  · have h2 : (50 : Int) < (xs.length : Int) := by omega
    go_wp2
    go_ret
    exact ⟨rfl, hbel⟩
  have h2 : ¬ (50 : Int) < (xs.length : Int) := by omega
  by_cases hs : 1000 < s.size
  · have h3 : (1000 : Int) < (s.size : Int) := by omega
    go_wp2
    go_ret
    exact ⟨rfl, hbel⟩
  have h3 : ¬ (1000 : Int) < (s.size : Int) := by omega
  have hS0 : Hid (SlOk wk0 ao (mix xs 0)) := by show SlOk _ _ _; rw [mix_zero]; exact slok_below HS.out hbel
  clear HS
  go_wp2
  go_loopg [0, 5] xs.length (fun gk v iv wr => ∃ (k : Nat) (ao : Option Addr) (cap : Nat), v = .slice ao xs.length cap ∧ iv = .int .i64 k ∧ k ≤ xs.length ∧ Hid (SlOk wr ao (mix xs k)) ∧ Below w.heap.size w wr ∧ gk = xs.length - k)
  case atStart => exact ⟨0, ao, cap, rfl, rfl, by omega, hS0, hbel, rfl⟩
  case round =>
    clear hS0 hbel
    obtain ⟨k, ao, cap, rfl, rfl, hk, HS, hbel, hgk⟩ := hrel
    have HG := Lib.hid hgk
    clear hgk
    by_cases hlt : k < xs.length
    · have hlti : (k : Int) < (xs.length : Int) := by omega
      have hml := mix_len xs k
      have HML := Lib.hid hml
      obtain ⟨b, o, rfl, -, -, -, -⟩ := HS.out k (by omega)
      have HSB : Hid (∀ j, j < xs.length → b < wr.heap.size ∧ wr.cell? ⟨b, o + j, none⟩ = some (.int .i64 ((mix xs k).getD j 0)) ∧ -9223372036854775808 ≤ (mix xs k).getD j 0 ∧ (mix xs k).getD j 0 ≤ 9223372036854775807) := by
        intro j hj
        obtain ⟨b', o', e, h1, h2, h3⟩ := HS.out j (by omega)
        cases e
        exact ⟨h1, h2, h3⟩
      obtain ⟨x, hx⟩ : ∃ x, xs.getD k 0 = x := ⟨_, rfl⟩
      have HMS := Lib.hid (mix_step xs k hlt)
      have HMA := Lib.hid (mix_at xs k hlt)
      rw [hx] at HMS HMA
      have hxr : -9223372036854775808 ≤ x ∧ x ≤ 9223372036854775807 := by
        have := (HSB.out k hlt).2.2
        rw [HMA.out] at this; exact this
      obtain ⟨hx1, hx2⟩ := hxr
      clear hx hml HS
      have hB := hbel.size
      go_wp2_with (at_builtin; refine wpList_append_lies _ rfl _ _ 22 rfl w.heap.size 3 i0 (.int .i64 0) 1 8 Tryd.underlying22 hi0 hz0 hz1 hz2 rfl (by decide) _ _ _ rfl (own_empty wr w.heap.size hB) ⟨b, o, none⟩ xs.length _ ((mix xs k).map (Value.int .i64)) rfl ?cl ?c1 ?c2 ?cm ?c3 ?c4 ?c5 _ rfl ?_)
      case cl => rw [List.length_map, HML.out, Nat.mul_one]
      case c1 =>
        intro j u hj
        rw [List.getElem?_map] at hj
        have hj2 : j < xs.length := by
          by_cases c : j < xs.length
          · exact c
          · rw [List.getElem?_eq_none (by have := HML.out; omega)] at hj; cases hj
        obtain ⟨g1, g2, -⟩ := HSB.out j hj2
        rw [List.getD_eq_getElem?_getD] at g2
        rw [List.getElem?_eq_getElem (by have := HML.out; omega)] at hj g2
        simp at hj g2
        subst hj
        rw [show (⟨b, o, none⟩ : Addr).add j = ⟨b, o + j, none⟩ by unfold Addr.add; split <;> simp_all]
        exact (alloc_old wr _ g1 _).trans g2
      case c2 => intro u hu; simp at hu; obtain ⟨y, -, rfl⟩ := hu; rfl
      case cm => omega
      case c3 => unfold maxLen; omega
      case c4 => omega
      case c5 => simp; omega
      · intro g cap w6 hown6 hgrow hat hgl
        have hbel6 : Below w.heap.size w w6 := grown_below (bmore hbel _) hgrow (fun k hk => by cases hk; exact hB)
        have hcell : w6.cell? ⟨g, k, none⟩ = some (.int .i64 x) := by
          rw [hown6.cellAt k (by omega), List.getElem?_map]
          have h4 := HMA.out
          rw [List.getD_eq_getElem?_getD] at h4
          rw [List.getElem?_eq_getElem (by have := HML.out; omega)] at h4 ⊢
          simp at h4 ⊢
          exact h4
        have hfz := hown6.frozenAt k
        have HO := Lib.hid hown6
        have hgB : w.heap.size ≤ g := (hown6.lt g rfl).1
        clear hgrow hat hown6 hbel hB
        obtain ⟨q, hq⟩ : ∃ q, x % 1999999999999999999 = q := ⟨_, rfl⟩
        have hqb : 0 ≤ q ∧ q < 1999999999999999999 := by omega
        have HQ := Lib.hid hq
        clear hq
        go_wp2_with fail
        go_at_call 10
        refine (within17 x 1999999999999999999 _ (by omega) (by omega)).mono ?_
        rw [HQ.out]
        rintro y w7 ⟨rfl, rfl⟩
        go_wp2
        go_roundg (xs.length - (k + 1))
        case measure => have := HG.out; omega
        case rel =>
          refine ⟨k + 1, some ⟨g, 0, none⟩, cap, rfl, rfl, by omega, ?_, bset hbel6 hgB _, rfl⟩
          have h1 := (HO.out.stored k (.int .i64 (q - 999999999999999999))).1
          have h5 : ((mix xs k).map (Value.int .i64)).set k (.int .i64 (q - 999999999999999999)) = (mix xs (k + 1)).map (Value.int .i64) := by
            rw [← HMS.out, List.map_set]; congr 2; unfold fr; rw [HQ.out]
          rw [h5] at h1
          have h6 := mix_len xs (k + 1)
          rw [← h6] at h1
          obtain ⟨ao2, cap2, e2, h7⟩ := slok_own h1 (by
            intro y hy
            rw [← HMS.out] at hy
            rcases List.mem_or_eq_of_mem_set hy with hy | rfl
            · obtain ⟨j, hj, rfl⟩ := List.getElem_of_mem hy
              have h8 := (HSB.out j (by have := HML.out; omega)).2.2
              rw [List.getD_eq_getElem?_getD, List.getElem?_eq_getElem hj] at h8
              exact h8
            · have := fr_bd x; omega)
          cases e2
          exact h7
    · have hlti : ¬ (k : Int) < (xs.length : Int) := by omega
      obtain ⟨zs, hzs⟩ : ∃ zs, xs.map fr = zs := ⟨_, rfl⟩
      have hzl : zs.length = xs.length := by rw [← hzs]; simp
      have HZB : Hid (∀ y ∈ zs, -1000000000000000000 < y ∧ y < 1000000000000000000) := by
        intro y hy
        rw [← hzs] at hy
        obtain ⟨x, -, rfl⟩ := List.mem_map.1 hy
        exact fr_bd x
      have HZ : Hid (SlOk wr ao zs) := by
        show SlOk _ _ _
        rw [← hzs, ← mix_all xs k (by omega)]; exact HS.out
      have HTZ : Hid (told (minL zs) = some zs) := told_minLs zs HZB.out
      have hTl : (minL zs).length ≤ 1100 := by
        have := minL_len zs (fun y hy => by have := HZB.out y hy; omega)
        omega
      clear HS hzs
      obtain ⟨T, hT⟩ : ∃ T, bytesOf (minL zs) = T := ⟨_, rfl⟩
      have hTs : T.size ≤ 1100 := by rw [← hT, bytes_size]; exact hTl
      have HTT : Hid (told T.data.toList = some zs) := by rw [← hT]; exact HTZ
      have HT := Lib.hid hT
      clear hT hTl HTZ
      obtain ⟨ot, hot⟩ : ∃ ot, told s.data.toList = ot := ⟨_, rfl⟩
      have HOB : Hid (∀ ns, ot = some ns → ∀ y ∈ ns, -9223372036854775808 ≤ y ∧ y ≤ 9223372036854775807) := fun ns h => told_bd _ ns (hot.trans h)
      have hol : (ot.getD []).length ≤ 1001 := by
        cases ot with
        | none => simp
        | some ns =>
          have h1 := told_num _ ns hot
          have h4 : s.data.toList.length = s.size := by rw [Array.length_toList]; rfl
          show ns.length ≤ 1001
          omega
      have HOT := Lib.hid hot
      clear hot
      obtain ⟨ec, hec⟩ : ∃ ec : Int, (if ot.isSome then (0 : Int) else 11) = ec := ⟨_, rfl⟩
      obtain ⟨ns, hns⟩ : ∃ ns, ot.getD [] = ns := ⟨_, rfl⟩
      rw [hns] at hol
      go_wp2_with fail
      go_at_call 11
      refine (told_any s _ (hL.below hbel).max (by omega)).mono ?_
      rw [HOT.out]
      rintro x w1 ⟨hx, hb1⟩
      obtain ⟨ao1, cap1, rfl, hs1⟩ := told_post hx HOB.out
      rw [hec, hns]
      rw [hns] at hs1
      have hz1' := slok_below HZ.out hb1
      have hbel1 := bthen hbel hb1
      clear hb1 hbel HZ hx
      have HS1 := Lib.hid hs1
      have HZ1 := Lib.hid hz1'
      clear hs1 hz1'
      go_wp2_with fail
      go_at_call 12
      refine (rtold17_any s _ (by omega)).mono ?_
      rw [HOT.out]
      rintro x w2 ⟨hx, hb2⟩
      obtain ⟨ao2, cap2, rfl, hs2⟩ := told_post hx HOB.out
      rw [hec, hns]
      rw [hns] at hs2
      have HS1b := Lib.hid (slok_below HS1.out hb2)
      have HZ2 := Lib.hid (slok_below HZ1.out hb2)
      have HS2 := Lib.hid hs2
      have hbel2 := bthen hbel1 hb2
      clear hb2 hbel1 hx HS1 HZ1 hs2 hec hns
      go_wp2_with fail
      go_at_call 13
      refine (minutes_n ao cap xs.length zs _ hzl.symm HZ2.out (by omega) (hP.below hbel2)).mono ?_
      rw [HT.out]
      rintro x w3 ⟨rfl, hb3⟩
      have HS1 := Lib.hid (slok_below HS1b.out hb3)
      have HS2b := Lib.hid (slok_below HS2.out hb3)
      have HZ3 := Lib.hid (slok_below HZ2.out hb3)
      have hbel3 := bthen hbel2 hb3
      clear hb3 hbel2 HS1b HS2 HZ2
      go_wp2_with fail
      go_at_call 11
      refine (told_any T _ (hL.below hbel3).max (by omega)).mono ?_
      rw [HTT.out]
      rintro x w4 ⟨hx, hb4⟩
      obtain ⟨ao4, cap4, rfl, hs4⟩ := told_post hx (fun ns h => told_bd _ ns (HTT.out.trans h))
      rw [show (Option.getD (some zs) []) = zs from rfl] at hs4 ⊢
      rw [show (if (some zs).isSome = true then (0 : Int) else 11) = 0 from rfl]
      have HS1b := Lib.hid (slok_below HS1.out hb4)
      have HS2 := Lib.hid (slok_below HS2b.out hb4)
      have HZ4 := Lib.hid (slok_below HZ3.out hb4)
      have HS4 := Lib.hid hs4
      have hbel4 := bthen hbel3 hb4
      clear hb4 hbel3 HS1 HS2b HZ3 hs4 hx
      have q1 : (ec == ec) = true := by simp
      have q2 : ((ns.length : Int) == (ns.length : Int)) = true := by simp
      have q3 : (T.toList == T.toList) = true := by simp
      have q4 : ((zs.length : Int) == (xs.length : Int)) = true := by rw [hzl]; simp
      go_wp2_with fail
      go_at_call 14
      refine (rminutes_n ao cap xs.length zs _ hzl.symm HZ4.out (by omega)).mono ?_
      rw [HT.out]
      rintro x w5 ⟨rfl, hb5⟩
      have HS1 := Lib.hid (slok_below HS1b.out hb5)
      have HS2b := Lib.hid (slok_below HS2.out hb5)
      have HZ5 := Lib.hid (slok_below HZ4.out hb5)
      have HS5 := Lib.hid (slok_below HS4.out hb5)
      have hbel5 := bthen hbel4 hb5
      clear hb5 hbel4 HS1b HS2 HZ4 HS4
      go_wp2
      go_loopg [13] ns.length (fun gk iv wr => ∃ k : Nat, iv = .int .i64 k ∧ k ≤ ns.length ∧ gk = ns.length - k ∧ Below w5.heap.size w5 wr)
      case atStart => exact ⟨0, rfl, by omega, rfl, Below.refl _ _⟩
      case round =>
        obtain ⟨k, rfl, hk, hgk, hb⟩ := hrel
        have HG := Lib.hid hgk
        have hbelr := bthen hbel5 hb
        clear hgk
        by_cases hlt2 : k < ns.length
        · have hlti2 : (k : Int) < (ns.length : Int) := by omega
          obtain ⟨b1, o1, rfl, -, c1, -⟩ := slok_below HS1.out hb k hlt2
          obtain ⟨b2, o2, rfl, -, c2, -⟩ := slok_below HS2b.out hb k hlt2
          obtain ⟨y, hy⟩ : ∃ y, ns.getD k 0 = y := ⟨_, rfl⟩
          rw [hy] at c1 c2
          have q5 : (y == y) = true := by simp
          clear hy hbelr
          go_wp2_with fail
          go_quiet (fail)
          go_wp2
          go_roundg (ns.length - (k + 1))
          case measure => have := HG.out; omega
          case rel => exact ⟨k + 1, rfl, by omega, rfl, below_drewN hb _⟩
        · have hlti2 : ¬ (k : Int) < (ns.length : Int) := by omega
          have HS6 := Lib.hid (slok_below HS5.out hb)
          have HZ6 := Lib.hid (slok_below HZ5.out hb)
          clear HS5 HZ5 HS1 HS2b hb
          go_wp2
          go_loopg [14] xs.length (fun gk iv wr2 => ∃ k : Nat, iv = .int .i64 k ∧ k ≤ xs.length ∧ gk = xs.length - k ∧ Below wr.heap.size wr wr2)
          case atStart => exact ⟨0, rfl, by omega, rfl, Below.refl _ _⟩
          case round =>
            obtain ⟨k, rfl, hk, hgk, hb⟩ := hrel
            have HG := Lib.hid hgk
            clear hgk
            by_cases hlt3 : k < xs.length
            · have hlti3 : (k : Int) < (xs.length : Int) := by omega
              have hlz : (k : Int) < (zs.length : Int) := by omega
              have hk50 : (k : Int) ≤ 50 := by omega
              obtain ⟨b1, o1, rfl, -, c1, -⟩ := slok_below HS6.out hb k (by omega)
              obtain ⟨b2, o2, rfl, -, c2, -⟩ := slok_below HZ6.out hb k (by omega)
              obtain ⟨y, hy⟩ : ∃ y, zs.getD k 0 = y := ⟨_, rfl⟩
              rw [hy] at c1 c2
              have q5 : (y == y) = true := by simp
              clear hy
              go_wp2_with fail
              go_quiet (fail)
              go_wp2
              go_roundg (xs.length - (k + 1))
              case measure => have := HG.out; omega
              case rel => exact ⟨k + 1, rfl, by omega, rfl, below_drewN hb _⟩
            · have hlti3 : ¬ (k : Int) < (xs.length : Int) := by omega
              have hbelf := bthen hbelr hb
              clear HS6 HZ6
              go_wp2
              go_ret
              exact ⟨rfl, hbelf⟩
end Go.Proofs.YtdpaiaeaamokeaaDoor.Job
