/- CronSteps, walked. -/
import Derived.Test.YtggcnbdpobbkaaaDoorCronKnown
import Derived.OpenShut
import Derived.Deep.AppendLies
namespace Go.Proofs.YtggcnbdpobbkaaaDoor.Cron
open Go.RowKit Go Go.Proofs.YtggcnbdpobbkaaaDoor.Cal

/-- What comes behind a, again and again. -/
def Chain (e : Ex) : Int → List Int → Prop
  | _, [] => True
  | a, x :: xs => NextIs e a x 0 ∧ Chain e x xs
theorem chain_snoc (e : Ex) : ∀ (xs : List Int) (a y : Int), Chain e a xs → NextIs e (xs.getLastD a) y 0 → Chain e a (xs ++ [y])
  | [], a, y, _, h => ⟨h, trivial⟩
  | x :: xs, a, y, ⟨h1, h2⟩, h => ⟨h1, chain_snoc e xs x y h2 (by rw [List.getLastD_cons] at h; exact h)⟩
theorem next_pos {e : Ex} {a x : Int} (h : NextIs e a x 0) : a < x ∧ x ≤ a + 4216320 ∧ isMatch e x ∧ (∀ m, a < m → m < x → ¬ isMatch e m) ∧ -1035593280 ≤ x ∧ x ≤ 4223371679 := by
  rcases h with ⟨-, -, k⟩ | ⟨-, -, -, k4, k5, k6, k7⟩ | ⟨-, -, k, -⟩
  · omega
  · exact ⟨k4, k5, k6, k7, k6.1, k6.2.1⟩
  · omega
/-- The place k of a chain, and what stands ahead of it. -/
def before (a : Int) (xs : List Int) (k : Nat) : Int := if k = 0 then a else xs.getD (k - 1) 0
theorem chain_at (e : Ex) : ∀ (xs : List Int) (a : Int) (k : Nat), Chain e a xs → k < xs.length → NextIs e (before a xs k) (xs.getD k 0) 0
  | [], _, _, _, h => by simp at h
  | x :: xs, a, 0, ⟨h1, _⟩, _ => h1
  | x :: xs, a, k + 1, ⟨_, h2⟩, h => by
    have := chain_at e xs x k h2 (by simpa using h)
    unfold before at this ⊢
    cases k with
    | zero => simpa using this
    | succ k => simpa using this
theorem chain_gt (e : Ex) : ∀ (xs : List Int) (a : Int) (k : Nat), Chain e a xs → k < xs.length → a < xs.getD k 0
  | [], _, _, _, h => by simp at h
  | x :: xs, a, 0, ⟨h1, _⟩, _ => (next_pos h1).1
  | x :: xs, a, k + 1, ⟨h1, h2⟩, h => by
    have := chain_gt e xs x k h2 (by simpa using h)
    have := (next_pos h1).1
    simp at *
    omega
/-- From a minute between a chain's place and the next one back, the last one is that place. -/
theorem chain_prev (e : Ex) (xs : List Int) (a now : Int) (k : Nat) (h : Chain e a xs) (hk : k < xs.length) (hn : now = xs.getD k 0 ∨ (k + 1 < xs.length ∧ now = xs.getD (k + 1) 0 - 1)) : PrevIs e now a (xs.getD k 0) 0 := by
  have g := next_pos (chain_at e xs a k h hk)
  have gt := chain_gt e xs a k h hk
  rcases hn with rfl | ⟨hk2, rfl⟩
  · exact .inr (.inl ⟨g.2.2.2.2.1, g.2.2.2.2.2, gt, rfl, gt, by omega, by omega, g.2.2.1, fun m h1 h2 => by omega⟩)
  · have g2 := next_pos (chain_at e xs a (k + 1) h hk2)
    have e1 : before a xs (k + 1) = xs.getD k 0 := by simp [before]
    rw [e1] at g2
    exact .inr (.inl ⟨by omega, by omega, by omega, rfl, gt, by omega, by omega, g.2.2.1, fun m h1 h2 => g2.2.2.2.1 m h1 (by omega)⟩)
theorem own_below {w w' : World} {B : Nat} {e : TypeId} {z : Nat} {v : Value} {n : Nat} {xs : List Value} (h : w.ownsRow B e z v n xs) (hb : Below w.heap.size w w') : w'.ownsRow B e z v n xs :=
  h.kept (row := none) ⟨hb.os, hb.tape, hb.output, hb.size, fun k hk _ => hb.block k hk⟩ (by cases v.ownBlock <;> simp)
theorem last_at (xs : List Int) (m : Int) (k : Nat) (h : xs.length = k + 1) : xs.getLastD m = xs.getD k 0 := by
  rw [List.getLastD_eq_getLast?, List.getLast?_eq_getElem?, h, List.getD_eq_getElem?_getD, Nat.add_sub_cancel, List.getElem?_eq_getElem (by omega)]; rfl
theorem cneI {a b : Int} (h : a ≠ b) : (a == b) = false ∧ (a != b) = true := by simp [h]
theorem cneC {c : Int} (h : c ≠ 0) : (c == 0) = false ∧ (c != 0) = true := by simp [h]
theorem Tryd.infoInt : (Tryd.prog.info? 3).map (fun i => (i.zero, i.size, i.bytes)) = some (some (.int .i64 0), 1, 8) := by kernel_rfl
theorem within6y (a n : Int) (w : World) (h1 : 0 < n) (h2 : n ≤ 4611686018427387904) :
    Calls Tryd.prog 34 #[.int .i64 a, .int .i64 n] w fun e w' => (∃ q, e = .returned (.int .i64 q) ∧ 0 ≤ q ∧ q < n) ∧ w = w' :=
  (within6 a n w h1 h2).mono fun _ _ ⟨he, hw⟩ => ⟨⟨_, he, Int.emod_nonneg _ (by omega), Int.emod_lt_of_pos _ h1⟩, hw⟩

set_option maxHeartbeats 2000000 in
set_option maxRecDepth 100000 in
theorem steps_walk (s : ByteArray) (ws : s.size ≤ 140737488351232) (a0 : Int) (w0 : (Lit.int .i64 a0).wf = true) (a1 : Int) (w1 : (Lit.int .i64 a1).wf = true) (w : World) (hL : Laid w) :
    Calls Tryd.prog 13 #[.string s, .int .i64 a0, .int .i64 a1] w fun e w' => e = .returned (.bool true) ∧ Below w.heap.size w w' := by
  obtain ⟨i0, hi0, hz0, hz1, hz2⟩ := info_parts Tryd.infoInt
  obtain ⟨m, hm⟩ : ∃ m, a0 % 5250000000 - 1035500000 = m := ⟨_, rfl⟩
  have hmb : -1035500000 ≤ m ∧ m ≤ 4214499999 := by omega
  have HM := Lib.hid hm
  clear hm
  obtain ⟨pe, hpe⟩ : ∃ pe, pres s = pe := ⟨_, rfl⟩
  have HOk : Hid (ExOk pe.1) := by have h := pres_ok s; rw [hpe] at h; exact h
  obtain ⟨⟨mi, ho, da, mo, wk, ad, aw⟩, c⟩ := pe
  have HX := Lib.hid hpe
  clear hpe
  go_enter Tryd.func13, Tryd.ntmps13
  go_wp2_with fail
  go_at_call 24
  refine (known6 _ hL).mono ?_
  rintro x wk0 ⟨rfl, hbel⟩
  have hL1 := hL.below hbel
  go_wp2_with fail
  go_at_call 25
  refine (parse_any s _ hL1.tabs hL1.max (by omega)).mono ?_
  rintro x wp ⟨hx, hbp⟩
  unfold ParPost exV at hx
  rw [HX.out] at hx
  subst hx
  have hbel2 := bthen hbel hbp
  have hwp : w.heap.size ≤ wp.heap.size := hbel2.size
  clear hbel hbp hL1
  by_cases hc0 : c ≠ 0
  · obtain ⟨q1, q2⟩ := cneC hc0
    go_wp2
    go_ret
    exact ⟨rfl, bmore hbel2 _⟩
  obtain rfl : c = 0 := by omega
  clear hc0
  go_wp2_with fail
  go_at_call 31
  refine (minute6 a0 m _ HM.out).mono ?_
  rintro x w2 ⟨rfl, rfl⟩
  have hce0 := alloc_new wp #[.int .u64 mi, .int .u64 ho, .int .u64 da, .int .u64 mo, .int .u64 wk, .bool ad, .bool aw] 37
  have hz00 : wp.heap.size < (wp.alloc (.cells #[.int .u64 mi, .int .u64 ho, .int .u64 da, .int .u64 mo, .int .u64 wk, .bool ad, .bool aw] 37)).heap.size := by simp
  have hbel3 := bmore hbel2 (.cells #[.int .u64 mi, .int .u64 ho, .int .u64 da, .int .u64 mo, .int .u64 wk, .bool ad, .bool aw] 37)
  clear hbel2
  generalize wp.alloc (.cells #[.int .u64 mi, .int .u64 ho, .int .u64 da, .int .u64 mo, .int .u64 wk, .bool ad, .bool aw] 37) = W1 at *
  go_wp2
  go_loopg [9, 10, 11] 11 (fun gk v nw iv wr => ∃ (i : Nat) (xs : List Int) (y : Int), iv = .int .i64 i ∧ nw = .int .i64 y ∧ Hid (y = xs.getLastD m) ∧ -1035593280 ≤ y ∧ y ≤ 4223371679 ∧ xs.length = i ∧ i ≤ 10 ∧ wr.ownsRow (wp.heap.size + 1) 3 1 v xs.length (xs.map (Value.int .i64)) ∧ Below w.heap.size w wr ∧ wp.heap.size < wr.heap.size ∧
    (∀ o, wr.cell? ⟨wp.heap.size, o, none⟩ = (#[.int .u64 mi, .int .u64 ho, .int .u64 da, .int .u64 mo, .int .u64 wk, .bool ad, .bool aw] : Array Value)[o]?) ∧ Hid (Chain ⟨mi, ho, da, mo, wk, ad, aw⟩ m xs) ∧ gk = 11 - i)
  case atStart => exact ⟨0, [], m, rfl, rfl, rfl, by omega, by omega, rfl, by omega, World.ownsRow_nil _ _ _ _, hbel3, hz00, hce0, trivial, rfl⟩
  case round =>
    clear hbel3 hz00 hce0
    obtain ⟨i, xs, y, rfl, rfl, HY, hy1, hy2, hlen, hi, hown, hbel, hz, hce, HC, hgk⟩ := hrel
    have HG := Lib.hid hgk
    have HO := Lib.hid hown
    have HLN := Lib.hid hlen
    clear hgk hown hlen
    have hxl : xs.length ≤ 10 := by have := HLN.out; omega
    go_wp2_with fail
    go_at_call 34
    refine (within6y a1 10 _ (by omega) (by omega)).mono ?_
    rintro x w4 ⟨⟨q, rfl, hq1, hq2⟩, rfl⟩
    by_cases hq : (i : Int) < 1 + q
    · go_wp2_with fail
      go_at_call 30
      refine (next_any ⟨mi, ho, da, mo, wk, ad, aw⟩ y _ HOk.out (hL.below hbel).db).mono ?_
      rintro x w5 ⟨⟨n, g, rfl, hn⟩, hb5⟩
      have HO2 := Lib.hid (own_below HO.out hb5)
      have hce5 := fun o => (keep0 hb5 hz o).trans (hce o)
      have hz5 := Nat.lt_of_lt_of_le hz hb5.size
      have hbel5 := bthen hbel hb5
      clear hb5 hbel hce hz HO
      by_cases hg0 : g = 0
      · subst hg0
        have hpos := next_pos hn
        have hn1 : y < n := hpos.1
        have hn2 : -1035593280 ≤ n ∧ n ≤ 4223371679 := ⟨hpos.2.2.2.2.1, hpos.2.2.2.2.2⟩
        have HC2 : Hid (Chain ⟨mi, ho, da, mo, wk, ad, aw⟩ m (xs ++ [n])) := chain_snoc _ xs m n HC.out (by rw [← HY.out]; exact hn)
        clear hn hpos HC
        go_wp2_with (at_builtin; refine wpList_append_lies _ rfl _ _ 22 rfl (wp.heap.size + 1) 3 i0 (.int .i64 0) 1 8 Tryd.underlying22 hi0 hz0 hz1 hz2 rfl (by decide) _ _ _ rfl (HO2.out.alloc _) ⟨w5.heap.size, 0, none⟩ 1 1 [.int .i64 n] rfl rfl ?c1 ?c2 (by decide) ?c3 ?c4 ?c5 _ rfl ?_)
        case c1 =>
          intro j u hj
          match j, hj with
          | 0, hj => simp at hj; subst hj; simp [Addr.add]
        case c2 => intro u hu; simp at hu; subst hu; rfl
        case c3 => unfold maxLen; omega
        case c4 => omega
        case c5 => simp; omega
        · intro g cap w6 hown3 hgrow hat hgl
          obtain ⟨hbel6, hkeep⟩ := own_grown (by omega) HO2.out hbel5 hgrow
          have hce6 : ∀ o, w6.cell? ⟨wp.heap.size, o, none⟩ = (#[.int .u64 mi, .int .u64 ho, .int .u64 da, .int .u64 mo, .int .u64 wk, .bool ad, .bool aw] : Array Value)[o]? := by
            intro o
            obtain ⟨it, hit⟩ : ∃ it, w5.heap[wp.heap.size]? = some it := ⟨_, Array.getElem?_eq_getElem hz5⟩
            rw [← hce5 o]
            exact World.cell?_of_block ((hkeep _ _ (by omega) hit).trans hit.symm)
          have hz6 : wp.heap.size < w6.heap.size := by have := hgrow.size; simp at this; omega
          clear hgrow hat hgl HO2 hbel5 hce5 hz5 hkeep
          go_wp2
          go_roundg (11 - (i + 1))
          case measure => have := HG.out; omega
          case rel =>
            refine ⟨i + 1, xs ++ [n], n, rfl, rfl, by show _ = _; simp, hn2.1, hn2.2, by rw [List.length_append, HLN.out]; rfl, by omega, ?_, hbel6, hz6, hce6, HC2, rfl⟩
            rw [List.length_append, List.map_append]; exact hown3
      · obtain ⟨q1, q2⟩ := cneC hg0
        have hbel := hbel5
        have hz := hz5
        have hce := hce5
        clear hn hbel5 hz5 hce5
        clear q1 q2
        have HGC := Lib.hid hg0
        clear hg0
        rcases HO2.out.2 with ⟨rfl, hv2⟩ | ⟨gv, capv, curv, rfl, -⟩
        · obtain rfl : xs = [] := List.eq_nil_of_length_eq_zero hv2
          obtain ⟨q1, q2⟩ := cneC HGC.out
          go_wp2
          go_loopg [14] 0 (fun gk iv wr2 => iv = .int .i64 (-1) ∧ Below w.heap.size w wr2 ∧ gk = 0)
          case atStart => exact ⟨rfl, hbel, rfl⟩
          case round =>
            clear hbel hz hce
            obtain ⟨rfl, hbel, -⟩ := hrel
            go_wp2
            go_ret
            exact ⟨rfl, hbel⟩
        · obtain ⟨q1, q2⟩ := cneC HGC.out
          go_wp2
          go_loopg [10, 14] (xs.length) (fun gk nw iv wr2 => ∃ (j : Nat) (y2 : Int), iv = .int .i64 ((j : Int) - 1) ∧ nw = .int .i64 y2 ∧ j ≤ xs.length ∧ Hid (∀ k, j = k + 1 → y2 = xs.getD k 0 ∨ (k + 1 < xs.length ∧ y2 = xs.getD (k + 1) 0 - 1)) ∧ wr2.ownsRow (wp.heap.size + 1) 3 1 (.slice (some ⟨gv, 0, none⟩) xs.length capv) xs.length (xs.map (Value.int .i64)) ∧ Below w.heap.size w wr2 ∧ wp.heap.size < wr2.heap.size ∧
            (∀ o, wr2.cell? ⟨wp.heap.size, o, none⟩ = (#[.int .u64 mi, .int .u64 ho, .int .u64 da, .int .u64 mo, .int .u64 wk, .bool ad, .bool aw] : Array Value)[o]?) ∧ gk = j)
          case atStart =>
            refine ⟨xs.length, y, rfl, rfl, Nat.le_refl _, ?_, HO2.out, hbel, hz, hce, rfl⟩
            intro k hk
            left
            rw [HY.out]
            exact last_at xs m k hk
          case round =>
            clear hbel hz hce
            obtain ⟨j, y2, rfl, rfl, hj, HJ, hown, hbel, hz, hce, hgk⟩ := hrel
            have HG2 := Lib.hid hgk
            clear hgk
            cases j with
            | zero =>
              go_wp2
              go_ret
              exact ⟨rfl, hbel⟩
            | succ k =>
              have hk : k < xs.length := by omega
              have HPV := Lib.hid (chain_prev _ xs m y2 k HC.out hk (HJ.out k rfl))
              have hgt := chain_gt _ xs m k HC.out hk
              have hbd := next_pos (chain_at _ xs m k HC.out hk)
              obtain ⟨z, hzz⟩ : ∃ z, xs.getD k 0 = z := ⟨_, rfl⟩
              rw [hzz] at hgt hbd
              have HZ := Lib.hid hzz
              have hzb : -1035593280 ≤ z ∧ z ≤ 4223371679 := ⟨hbd.2.2.2.2.1, hbd.2.2.2.2.2⟩
              have hcell : ∀ W : World, W.ownsRow (wp.heap.size + 1) 3 1 (.slice (some ⟨gv, 0, none⟩) xs.length capv) xs.length (xs.map (Value.int .i64)) → W.cell? ⟨gv, k, none⟩ = some (.int .i64 z) := by
                intro W hW
                rw [hW.cellAt k (by omega), List.getElem?_map, List.getElem?_eq_getElem hk]
                have : xs[k] = z := by have := HZ.out; rw [List.getD_eq_getElem?_getD, List.getElem?_eq_getElem hk] at this; simpa using this
                rw [this]; rfl
              have hkI : ((k + 1 : Nat) : Int) - 1 = k := by omega
              clear hbd hzz
              rw [hkI]
              go_wp2_with fail
              go_at_call 52
              refine (prev_any ⟨mi, ho, da, mo, wk, ad, aw⟩ y2 m _ HOk.out (by omega)).mono ?_
              rintro x w7 ⟨⟨r, g7, rfl, hn⟩, hb7⟩
              obtain ⟨hr1, hr2⟩ := HPV.out.uniq hn
              rw [HZ.out] at hr1
              subst hr1
              subst hr2
              have hown7 := own_below hown hb7
              have hc7 := hcell w7 hown7
              have hce7 := fun o => (keep0 hb7 hz o).trans (hce o)
              have hz7 := Nat.lt_of_lt_of_le hz hb7.size
              have hbel7 := bthen hbel hb7
              clear hb7 hn hcell hown hce hz hbel
              by_cases hk0 : k = 0
              · subst hk0
                go_wp2
                go_ret
                exact ⟨rfl, hbel7⟩
              · obtain ⟨q1, q2⟩ := cneI (show (k : Int) ≠ 0 by omega)
                by_cases hle : z - 1 ≤ m
                · go_wp2
                  go_ret
                  exact ⟨rfl, hbel7⟩
                · go_wp2
                  go_roundg k
                  case measure => have := HG2.out; omega
                  case rel =>
                    refine ⟨k, z - 1, by congr 1, rfl, by omega, ?_, hown7, hbel7, hz7, hce7, rfl⟩
                    intro k2 hk2
                    right
                    subst hk2
                    exact ⟨hk, by rw [HZ.out]⟩

    · have HO2 := HO
      clear HO
      rcases HO2.out.2 with ⟨rfl, hv2⟩ | ⟨gv, capv, curv, rfl, -⟩
      · obtain rfl : xs = [] := List.eq_nil_of_length_eq_zero hv2
        go_wp2
        go_loopg [14] 0 (fun gk iv wr2 => iv = .int .i64 (-1) ∧ Below w.heap.size w wr2 ∧ gk = 0)
        case atStart => exact ⟨rfl, hbel, rfl⟩
        case round =>
          clear hbel hz hce
          obtain ⟨rfl, hbel, -⟩ := hrel
          go_wp2
          go_ret
          exact ⟨rfl, hbel⟩
      · skip
        go_wp2
        go_loopg [10, 14] (xs.length) (fun gk nw iv wr2 => ∃ (j : Nat) (y2 : Int), iv = .int .i64 ((j : Int) - 1) ∧ nw = .int .i64 y2 ∧ j ≤ xs.length ∧ Hid (∀ k, j = k + 1 → y2 = xs.getD k 0 ∨ (k + 1 < xs.length ∧ y2 = xs.getD (k + 1) 0 - 1)) ∧ wr2.ownsRow (wp.heap.size + 1) 3 1 (.slice (some ⟨gv, 0, none⟩) xs.length capv) xs.length (xs.map (Value.int .i64)) ∧ Below w.heap.size w wr2 ∧ wp.heap.size < wr2.heap.size ∧
          (∀ o, wr2.cell? ⟨wp.heap.size, o, none⟩ = (#[.int .u64 mi, .int .u64 ho, .int .u64 da, .int .u64 mo, .int .u64 wk, .bool ad, .bool aw] : Array Value)[o]?) ∧ gk = j)
        case atStart =>
          refine ⟨xs.length, y, rfl, rfl, Nat.le_refl _, ?_, HO2.out, hbel, hz, hce, rfl⟩
          intro k hk
          left
          rw [HY.out]
          exact last_at xs m k hk
        case round =>
          clear hbel hz hce
          obtain ⟨j, y2, rfl, rfl, hj, HJ, hown, hbel, hz, hce, hgk⟩ := hrel
          have HG2 := Lib.hid hgk
          clear hgk
          cases j with
          | zero =>
            go_wp2
            go_ret
            exact ⟨rfl, hbel⟩
          | succ k =>
            have hk : k < xs.length := by omega
            have HPV := Lib.hid (chain_prev _ xs m y2 k HC.out hk (HJ.out k rfl))
            have hgt := chain_gt _ xs m k HC.out hk
            have hbd := next_pos (chain_at _ xs m k HC.out hk)
            obtain ⟨z, hzz⟩ : ∃ z, xs.getD k 0 = z := ⟨_, rfl⟩
            rw [hzz] at hgt hbd
            have HZ := Lib.hid hzz
            have hzb : -1035593280 ≤ z ∧ z ≤ 4223371679 := ⟨hbd.2.2.2.2.1, hbd.2.2.2.2.2⟩
            have hcell : ∀ W : World, W.ownsRow (wp.heap.size + 1) 3 1 (.slice (some ⟨gv, 0, none⟩) xs.length capv) xs.length (xs.map (Value.int .i64)) → W.cell? ⟨gv, k, none⟩ = some (.int .i64 z) := by
              intro W hW
              rw [hW.cellAt k (by omega), List.getElem?_map, List.getElem?_eq_getElem hk]
              have : xs[k] = z := by have := HZ.out; rw [List.getD_eq_getElem?_getD, List.getElem?_eq_getElem hk] at this; simpa using this
              rw [this]; rfl
            have hkI : ((k + 1 : Nat) : Int) - 1 = k := by omega
            clear hbd hzz
            rw [hkI]
            go_wp2_with fail
            go_at_call 52
            refine (prev_any ⟨mi, ho, da, mo, wk, ad, aw⟩ y2 m _ HOk.out (by omega)).mono ?_
            rintro x w7 ⟨⟨r, g7, rfl, hn⟩, hb7⟩
            obtain ⟨hr1, hr2⟩ := HPV.out.uniq hn
            rw [HZ.out] at hr1
            subst hr1
            subst hr2
            have hown7 := own_below hown hb7
            have hc7 := hcell w7 hown7
            have hce7 := fun o => (keep0 hb7 hz o).trans (hce o)
            have hz7 := Nat.lt_of_lt_of_le hz hb7.size
            have hbel7 := bthen hbel hb7
            clear hb7 hn hcell hown hce hz hbel
            by_cases hk0 : k = 0
            · subst hk0
              go_wp2
              go_ret
              exact ⟨rfl, hbel7⟩
            · obtain ⟨q1, q2⟩ := cneI (show (k : Int) ≠ 0 by omega)
              by_cases hle : z - 1 ≤ m
              · go_wp2
                go_ret
                exact ⟨rfl, hbel7⟩
              · go_wp2
                go_roundg k
                case measure => have := HG2.out; omega
                case rel =>
                  refine ⟨k, z - 1, by congr 1, rfl, by omega, ?_, hown7, hbel7, hz7, hce7, rfl⟩
                  intro k2 hk2
                  right
                  subst hk2
                  exact ⟨hk, by rw [HZ.out]⟩
end Go.Proofs.YtggcnbdpobbkaaaDoor.Cron
