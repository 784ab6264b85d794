/- watch: Poll. -/
import Derived.Deep.DeepCutAuto
import Derived.Test.YtbheebpfbabffaaGreatWLate
import Derived.Test.YtbheebpfbabffaaGreatWMc
set_option linter.unusedSimpArgs false
set_option linter.unusedVariables false
namespace Go.Proofs.YtbheebpfbabffaaGreat.Wat
open Go.RowKit Go Go.Lib Mach Go.MapKept

/-- What Poll tells, and makes of a watcher. -/
def PollR (chs : List Ver) (rev pl : Nat) : Mo → List Ver → Nat → Mo → Prop
  | .behind, out, pl', mo' => LateR chs rev pl out pl' mo'
  | .hears l, out, pl', mo' => ∃ n, n ≤ l.length ∧ out = l.take n ∧ pl' = pl ∧ mo' = .hears (l.drop n)
  | .ended l, out, pl', mo' => ∃ n, 0 < n ∧ n ≤ l.length ∧ out = l.take n ∧ pl' = pl ∧ mo' = .ended (l.drop n)
def PollPost (chs : List Ver) (rev : Nat) (hb hm wb sb : Nat) (id : Int) (pl : Nat) (mo : Mo) (B : List Nat) (w : World) (e : Ending) (w' : World) : Prop :=
  (∃ v' out pl' mo' B', e = .returned (.tuple #[v', .int .i64 0]) ∧ PollR chs rev pl mo out pl' mo' ∧ (EvR w' v' out ∧ ∀ y ∈ blk v', w.heap.size ≤ y) ∧ Hb w' hb hm wb sb id pl' mo' B' ∧ Grow w B B' ∧ Only (fun y => y = wb) w w') ∨
  (e = .returned (.tuple #[.slice none 0 0, .int .i64 14]) ∧ mo = .ended [] ∧ He w' hb hm sb id ∧ Only (fun y => y = hm) w w')
theorem zero_wat (w : World) : (zeroValue 85).run Tryz.prog w = .ok (.pointer none) w := by kernel_rfl
theorem Hb.look {w : World} {hb hm wb sb : Nat} {id : Int} {pl : Nat} {mo : Mo} {B : List Nat} (h : Hb w hb hm wb sb id pl mo B) : (Instr.lookup 82 (.map (some hm)) (.int .i64 id) true).run Tryz.prog w = .ok (.tuple #[Ptr wb, .bool true]) w := by
  obtain ⟨c, hM⟩ := h.map
  rcases look_map Tryz.underlying82 Tryz.underlying3 zero_wat (key := .int .i64 id) (l := [{ key := .int .i64 id, val := Ptr wb, born := c }]) (b := hm) rfl hM.key with ⟨hno, -⟩ | ⟨e, he, -, hl⟩
  · exact absurd rfl (hno _ (List.mem_singleton.2 rfl))
  · have := hl w true hM
    simp at he
    subst he
    exact this
theorem mk_h (v : Value) (w : World) : (method 475 113 (.agg #[v]) "horologe/watch.kept").run Tryz.prog w = .ok (254, .agg #[v]) w := by kernel_rfl
theorem mk_e (v : Value) (w : World) : (method 475 117 (.agg #[v, .int .i64 14]) "horologe/watch.kept").run Tryz.prog w = .ok (255, .agg #[v, .int .i64 14]) w := by kernel_rfl
theorem kept_h (a : Option Addr) (n c : Nat) (w : World) : Calls Tryz.prog 254 #[.agg #[.slice a n c]] w fun e w' => e = .returned (.slice a n c) ∧ Below w.heap.size w w' := by
  go_enter Tryz.func254, Tryz.ntmps254
  go_wp2
  go_ret
  exact ⟨rfl, bmore (Below.refl _ _) _⟩
theorem kept_e (a : Option Addr) (n c : Nat) (y : Int) (w : World) : Calls Tryz.prog 255 #[.agg #[.slice a n c, .int .i64 y]] w fun e w' => e = .returned (.slice a n c) ∧ Below w.heap.size w w' := by
  go_enter Tryz.func255, Tryz.ntmps255
  go_wp2
  go_ret
  exact ⟨rfl, bmore (Below.refl _ _) _⟩

set_option maxHeartbeats 8000000 in
set_option maxRecDepth 100000 in
theorem poll_b {w : World} {rev C : Nat} {op : Value} {chs : List Ver} {Ks : List Value} {S : List Nat} {hb hm wb sb : Nat} {id : Int} {pl : Nat} {B : List Nat} (h : Hb w hb hm wb sb id pl .behind B)
    (hs : St w sb op rev C chs Ks S) (hC : C ≤ 1000000) (hso : chs.Pairwise (fun a b => a.1 ≤ b.1)) (hrv : ∀ p ∈ chs, p.1 ≤ rev) (hrev : rev ≤ 1000000) (hpl : 1 ≤ pl) (hpl2 : pl ≤ 3000000) (hwS : ∀ y ∈ S, y ≠ wb) (most : Int) :
    Calls Tryz.prog 17 #[Ptr hb, .int .i64 id, .int .i64 most] w (PollPost chs rev hb hm wb sb id pl .behind B w) := by
  obtain ⟨md, bl, hW, ⟨rfl, rfl⟩, hBl⟩ := h.wat
  have hlk := h.look
  have t1 := tm_bb
  have c1 := h.hub.cell
  have c2 := hW.cell
  go_enter Tryz.func17, Tryz.ntmps17
  go_wp2_with fail
  go_at_call 41
  have hbX : Below w.heap.size w (w.alloc (.cells #[] 87)) := bmore (Below.refl _ _) _
  refine (late_f (h.keep hbX) (hs.keep hbX) hC hso hrv hrev hpl hpl2 hwS _).mono ?_
  rintro e w5 ⟨v', out, pl', mo', B', rfl, hR, hE, hH, hG, hO⟩
  go_wp2
  refine bodyPost_ret (v := .tuple #[v', .int .i64 0]) (by simp [results, Tryz.results17, go_sem]) rfl (.inl ⟨v', out, pl', mo', B', rfl, hR, ⟨hE.1, fun y hy => by have := hE.2 y hy; simp at this; omega⟩, hH, grow_from hbX.size h.lt hG, (Only.of_below hbX).trans hO (fun _ _ h => h)⟩)

set_option maxHeartbeats 16000000 in
set_option maxRecDepth 100000 in
theorem poll_h {w : World} {rev : Nat} {chs : List Ver} {hb hm wb sb : Nat} {id : Int} {pl : Nat} {B : List Nat} {l : List Ver} (h : Hb w hb hm wb sb id pl (.hears l) B) (most : Int) :
    Calls Tryz.prog 17 #[Ptr hb, .int .i64 id, .int .i64 most] w (PollPost chs rev hb hm wb sb id pl (.hears l) B w) := by
  obtain ⟨md, bl, hW, ⟨v, rfl, hE, hl16, hbl⟩, hBl⟩ := h.wat
  obtain ⟨c0, hM⟩ := h.map
  have hHl := h.lt
  have hnd := h.nd
  have hwbl := hW.lt
  have hhbl := h.hub.lt
  have hnod : B.Nodup := List.nodup_iff_count.2 hnd
  rw [hBl] at hnod
  simp at hnod
  obtain ⟨av, cv, rfl⟩ := hE.shape
  obtain ⟨n, hmn⟩ : ∃ n : Nat, min (max most 1) (l.length : Int) = (n : Int) := ⟨(min (max most 1) (l.length : Int)).toNat, by omega⟩
  have hnl : n ≤ l.length := by omega
  have hn0 : n = 0 → l.length = 0 := by omega
  have hlk := h.look
  have t1 := tm_hb (.slice av l.length cv)
  have t2 := tm_he (.slice av l.length cv)
  have t3 := mk_h (.slice av l.length cv)
  have c1 := h.hub.cell
  have c2 := hW.cell
  have hbX := fun o => bmore (Below.refl w.heap.size w) o
  have c3 := fun o => (hW.keep (hbX o)).cell
  go_enter Tryz.func17, Tryz.ntmps17
  go_wp2_with fail
  go_at_call 254
  refine (kept_h av l.length cv _).mono ?_
  rintro e wk ⟨rfl, hbk0⟩
  have hbk := bthen (hbX _) hbk0
  have HN0 : Aside _ := hn0
  clear hbk0 hn0
  have hWk := hW.keep hbk
  have c4 := hWk.cell
  have c5 := (h.hub.keep hbk).cell
  go_wp2_with fail
  go_cut [14, 15] (fun s14 s15 wx => ∃ (a1 a2 : Option Addr) (k1 k2 : Nat), s14 = .slice a1 n k1 ∧ s15 = .slice a2 (l.length - n) k2 ∧ Evs wx wk.heap.size s14 (l.take n) ∧ Evs wx wk.heap.size s15 (l.drop n) ∧ Below wk.heap.size wk wx)
  case first =>
    have hEd : Evs wk.drew 0 (.slice av l.length cv) l := hE.keep hbk.drew
    rcases own_open hEd with ⟨e0, hn0, hx0⟩ | ⟨gb, cap, e0, -, hgl, hcap, hcell⟩
    · injection e0 with e1 e2 e3
      subst e1 e3
      obtain rfl := List.length_eq_zero_iff.1 hn0
      obtain rfl : n = 0 := by omega
      have hA : EvR wk.drew (.slice none 0 0) [] := ⟨none, 0, rfl, .inl rfl⟩
      go_region_with (first
        | (go_at_call 40; refine (clone_evs hA (by simp)).mono ?_; rintro e w5 ⟨⟨v5, rfl, hE5⟩, hb5⟩; obtain ⟨a5, c5, rfl⟩ := hE5.shape)
        | (go_at_call 40; refine (clone_evs (hA.keep hb5) (by simp)).mono ?_; rintro e w6 ⟨⟨v6, rfl, hE6⟩, hb6⟩; obtain ⟨a6, c6, rfl⟩ := hE6.shape))
      all_goals (
        go_wp2_with fail
        go_meet
        exact ⟨_, _, _, _, rfl, rfl, hE5.keep hb6, hE6.base hb5.size, bthen (bthen (Below.refl wk.heap.size wk).drew hb5) hb6⟩)
    · injection e0 with e1 e2 e3
      subst e1 e3
      have hA : EvR wk.drew (.slice (some ⟨gb, 0, none⟩) n cv) (l.take n) := ⟨_, cv, by rw [List.length_take, Nat.min_eq_left hnl], .inr ⟨gb, 0, rfl, hgl, fun j u hj => by
        rw [Nat.zero_add]
        refine hcell j u ?_
        have h1 : evs l = evs (l.take n) ++ evs (l.drop n) := by rw [← evs_append, List.take_append_drop]
        rw [h1, List.getElem?_append_left (List.getElem?_eq_some_iff.1 hj).1]
        exact hj⟩⟩
      have hD : ∀ o : Nat, (l.drop n = [] ∨ o = n * 8) → EvR wk.drew (.slice (some ⟨gb, o, none⟩) (l.length - n) (cv - n)) (l.drop n) := fun o ho => ⟨_, cv - n, by rw [List.length_drop], by
        rcases ho with ho | rfl
        · exact .inl ho
        · exact .inr ⟨gb, n * 8, rfl, hgl, fun j u hj => by
            refine hcell (n * 8 + j) u ?_
            have h1 : evs l = evs (l.take n) ++ evs (l.drop n) := by rw [← evs_append, List.take_append_drop]
            rw [h1, List.getElem?_append_right (by rw [evs_len, List.length_take, Nat.min_eq_left hnl]; omega), evs_len, List.length_take, Nat.min_eq_left hnl, show n * 8 + j - n * 8 = j by omega]
            exact hj⟩⟩
      have hl1 : (l.take n).length ≤ 1000000 := by rw [List.length_take]; omega
      have hl2 : (l.drop n).length ≤ 1000000 := by rw [List.length_drop]; omega
      have hlt : (l.take n).length = n := by rw [List.length_take, Nat.min_eq_left hnl]
      have hld : (l.drop n).length = l.length - n := List.length_drop
      have HLT : Aside _ := hlt
      have HLD : Aside _ := hld
      clear hlt hld hcell
      by_cases hcn : cv = n
      · subst hcn
        have hD0 := hD 0 (.inl (List.drop_eq_nil_of_le (by omega)))
        rw [Nat.sub_self, show l.length - cv = 0 by omega] at hD0
        have hld0 : (l.drop cv).length = 0 := by rw [List.length_drop]; omega
        have HLD : Aside _ := hld0
        clear hld0
        clear hD
        go_region_with (first
          | (go_at_call 40; refine (clone_evs hA hl1).mono ?_; rintro e w5 ⟨⟨v5, rfl, hE5⟩, hb5⟩; obtain ⟨a5, c5, rfl⟩ := hE5.shape)
          | (go_at_call 40; refine (clone_evs (hD0.keep hb5) hl2).mono ?_; rintro e w6 ⟨⟨v6, rfl, hE6⟩, hb6⟩; obtain ⟨a6, c6, rfl⟩ := hE6.shape))
        all_goals (
          go_wp2_with fail
          go_meet
          rw [HLT.out] at hE5
          rw [HLD.out] at hE6
          rw [show l.length - cv = 0 by omega]
          exact ⟨_, _, _, _, rfl, rfl, hE5.keep hb6, hE6.base hb5.size, bthen (bthen (Below.refl wk.heap.size wk).drew hb5) hb6⟩)
      · have hD0 := hD (n * 8) (.inr rfl)
        clear hD
        go_region_with (first
          | (go_at_call 40; refine (clone_evs hA hl1).mono ?_; rintro e w5 ⟨⟨v5, rfl, hE5⟩, hb5⟩; obtain ⟨a5, c5, rfl⟩ := hE5.shape)
          | (go_at_call 40; refine (clone_evs (hD0.keep hb5) hl2).mono ?_; rintro e w6 ⟨⟨v6, rfl, hE6⟩, hb6⟩; obtain ⟨a6, c6, rfl⟩ := hE6.shape))
        all_goals (
          go_wp2_with fail
          go_meet
          rw [HLT.out] at hE5
          rw [HLD.out] at hE6
          exact ⟨_, _, _, _, rfl, rfl, hE5.keep hb6, hE6.base hb5.size, bthen (bthen (Below.refl wk.heap.size wk).drew hb5) hb6⟩)
  case rest =>
    obtain ⟨a1, a2, k1, k2, rfl, rfl, hE1, hE2, hbc⟩ := hcut
    have hbkz := hbk.size
    have hbw : Below w.heap.size w wc := hbk.trans (hbc.mono hbkz)
    have hWc := hW.keep hbw
    have d1 := hWc.cell
    have d2 := fun o => (hWc.alloc o).cell
    have d3 := fun o => (hWc.alloc o).frz
    clear c1 c2 c3 c4 c5
    go_wp2
    have hO5 : Only (fun y => y = wb) wc ((wc.alloc (.cells #[.slice none 0 0, .int .i64 0] 117)).setCell ⟨wb, 3, none⟩ (.iface 113 (.agg #[.slice a2 (l.length - n) k2]))) := ((Only.refl (fun y => y = wb) wc).alloc _).set ⟨wb, 3, none⟩ (fun _ => rfl) _
    have hW6 := (hWc.alloc (.cells #[.slice none 0 0, .int .i64 0] 117)).setCell 3 (.iface 113 (.agg #[.slice a2 (l.length - n) k2]))
    have hOw := (Only.of_below (F := fun y => y = wb) hbw).trans hO5 (fun _ _ h => h)
    have h1lt := hE1.lt
    have h2lt := hE2.lt
    have hG : Grow w B ([hb, hm, wb] ++ blk (.slice a2 (l.length - n) k2)) := grow_blk hBl hHl (by rw [← hBl]; exact hnd) (fun y hy => by have := (h2lt y hy).1; omega)
    refine bodyPost_ret (v := .tuple #[.slice a1 n k1, .int .i64 0]) (by simp [results, Tryz.results17, go_sem]) rfl (.inl ⟨_, l.take n, pl, .hears (l.drop n), _, rfl, ⟨n, hnl, rfl, rfl, rfl⟩, ⟨(hE1.read).only hO5 (fun y hy e => by have := (h1lt y hy).1; omega), fun y hy => by have := (h1lt y hy).1; omega⟩, ⟨h.hub.only hOw (by omega), ⟨c0, hM.only hOw (by omega)⟩, ⟨_, _, ?_, ⟨_, rfl, (hE2.only hO5 (fun y hy e => by have := (h2lt y hy).1; omega)).base (Nat.zero_le _), by rw [List.length_drop]; omega, rfl⟩, rfl⟩, hG.nd hnd⟩, hG, hOw⟩)
    unfold Wa
    simpa using hW6
set_option maxHeartbeats 16000000 in
set_option maxRecDepth 100000 in
theorem poll_e {w : World} {rev : Nat} {chs : List Ver} {hb hm wb sb : Nat} {id : Int} {pl : Nat} {B : List Nat} {l : List Ver} (h : Hb w hb hm wb sb id pl (.ended l) B) (most : Int) :
    Calls Tryz.prog 17 #[Ptr hb, .int .i64 id, .int .i64 most] w (PollPost chs rev hb hm wb sb id pl (.ended l) B w) := by
  obtain ⟨md, bl, hW, ⟨v, rfl, hE, hl16, hbl⟩, hBl⟩ := h.wat
  obtain ⟨c0, hM⟩ := h.map
  have hHl := h.lt
  have hnd := h.nd
  have hwbl := hW.lt
  have hhbl := h.hub.lt
  have hnod : B.Nodup := List.nodup_iff_count.2 hnd
  rw [hBl] at hnod
  simp at hnod
  obtain ⟨av, cv, rfl⟩ := hE.shape
  obtain ⟨n, hmn⟩ : ∃ n : Nat, min (max most 1) (l.length : Int) = (n : Int) := ⟨(min (max most 1) (l.length : Int)).toNat, by omega⟩
  have hnl : n ≤ l.length := by omega
  have hn0 : n = 0 → l.length = 0 := by omega
  have hlk := h.look
  have t1 := tm_eb (.slice av l.length cv)
  have t2 := tm_ee (.slice av l.length cv)
  have t3 := mk_e (.slice av l.length cv)
  have c1 := h.hub.cell
  have c2 := hW.cell
  have hbX := fun o => bmore (Below.refl w.heap.size w) o
  have c3 := fun o => (hW.keep (hbX o)).cell
  go_enter Tryz.func17, Tryz.ntmps17
  go_wp2_with fail
  go_at_call 255
  refine (kept_e av l.length cv 14 _).mono ?_
  rintro e wk ⟨rfl, hbk0⟩
  have hbk := bthen (hbX _) hbk0
  have HN0 : Aside _ := hn0
  clear hbk0 hn0
  have hWk := hW.keep hbk
  have c4 := hWk.cell
  have c5 := (h.hub.keep hbk).cell
  go_wp2_with fail
  go_cut [14, 15] (fun s14 s15 wx => ∃ (a1 a2 : Option Addr) (k1 k2 : Nat), s14 = .slice a1 n k1 ∧ s15 = .slice a2 (l.length - n) k2 ∧ Evs wx wk.heap.size s14 (l.take n) ∧ Evs wx wk.heap.size s15 (l.drop n) ∧ Below wk.heap.size wk wx)
  case first =>
    have hEd : Evs wk.drew 0 (.slice av l.length cv) l := hE.keep hbk.drew
    rcases own_open hEd with ⟨e0, hn0, hx0⟩ | ⟨gb, cap, e0, -, hgl, hcap, hcell⟩
    · injection e0 with e1 e2 e3
      subst e1 e3
      obtain rfl := List.length_eq_zero_iff.1 hn0
      obtain rfl : n = 0 := by omega
      have hA : EvR wk.drew (.slice none 0 0) [] := ⟨none, 0, rfl, .inl rfl⟩
      go_region_with (first
        | (go_at_call 40; refine (clone_evs hA (by simp)).mono ?_; rintro e w5 ⟨⟨v5, rfl, hE5⟩, hb5⟩; obtain ⟨a5, c5, rfl⟩ := hE5.shape)
        | (go_at_call 40; refine (clone_evs (hA.keep hb5) (by simp)).mono ?_; rintro e w6 ⟨⟨v6, rfl, hE6⟩, hb6⟩; obtain ⟨a6, c6, rfl⟩ := hE6.shape))
      all_goals (
        go_wp2_with fail
        go_meet
        exact ⟨_, _, _, _, rfl, rfl, hE5.keep hb6, hE6.base hb5.size, bthen (bthen (Below.refl wk.heap.size wk).drew hb5) hb6⟩)
    · injection e0 with e1 e2 e3
      subst e1 e3
      have hA : EvR wk.drew (.slice (some ⟨gb, 0, none⟩) n cv) (l.take n) := ⟨_, cv, by rw [List.length_take, Nat.min_eq_left hnl], .inr ⟨gb, 0, rfl, hgl, fun j u hj => by
        rw [Nat.zero_add]
        refine hcell j u ?_
        have h1 : evs l = evs (l.take n) ++ evs (l.drop n) := by rw [← evs_append, List.take_append_drop]
        rw [h1, List.getElem?_append_left (List.getElem?_eq_some_iff.1 hj).1]
        exact hj⟩⟩
      have hD : ∀ o : Nat, (l.drop n = [] ∨ o = n * 8) → EvR wk.drew (.slice (some ⟨gb, o, none⟩) (l.length - n) (cv - n)) (l.drop n) := fun o ho => ⟨_, cv - n, by rw [List.length_drop], by
        rcases ho with ho | rfl
        · exact .inl ho
        · exact .inr ⟨gb, n * 8, rfl, hgl, fun j u hj => by
            refine hcell (n * 8 + j) u ?_
            have h1 : evs l = evs (l.take n) ++ evs (l.drop n) := by rw [← evs_append, List.take_append_drop]
            rw [h1, List.getElem?_append_right (by rw [evs_len, List.length_take, Nat.min_eq_left hnl]; omega), evs_len, List.length_take, Nat.min_eq_left hnl, show n * 8 + j - n * 8 = j by omega]
            exact hj⟩⟩
      have hl1 : (l.take n).length ≤ 1000000 := by rw [List.length_take]; omega
      have hl2 : (l.drop n).length ≤ 1000000 := by rw [List.length_drop]; omega
      have hlt : (l.take n).length = n := by rw [List.length_take, Nat.min_eq_left hnl]
      have hld : (l.drop n).length = l.length - n := List.length_drop
      have HLT : Aside _ := hlt
      have HLD : Aside _ := hld
      clear hlt hld hcell
      by_cases hcn : cv = n
      · subst hcn
        have hD0 := hD 0 (.inl (List.drop_eq_nil_of_le (by omega)))
        rw [Nat.sub_self, show l.length - cv = 0 by omega] at hD0
        have hld0 : (l.drop cv).length = 0 := by rw [List.length_drop]; omega
        have HLD : Aside _ := hld0
        clear hld0
        clear hD
        go_region_with (first
          | (go_at_call 40; refine (clone_evs hA hl1).mono ?_; rintro e w5 ⟨⟨v5, rfl, hE5⟩, hb5⟩; obtain ⟨a5, c5, rfl⟩ := hE5.shape)
          | (go_at_call 40; refine (clone_evs (hD0.keep hb5) hl2).mono ?_; rintro e w6 ⟨⟨v6, rfl, hE6⟩, hb6⟩; obtain ⟨a6, c6, rfl⟩ := hE6.shape))
        all_goals (
          go_wp2_with fail
          go_meet
          rw [HLT.out] at hE5
          rw [HLD.out] at hE6
          rw [show l.length - cv = 0 by omega]
          exact ⟨_, _, _, _, rfl, rfl, hE5.keep hb6, hE6.base hb5.size, bthen (bthen (Below.refl wk.heap.size wk).drew hb5) hb6⟩)
      · have hD0 := hD (n * 8) (.inr rfl)
        clear hD
        go_region_with (first
          | (go_at_call 40; refine (clone_evs hA hl1).mono ?_; rintro e w5 ⟨⟨v5, rfl, hE5⟩, hb5⟩; obtain ⟨a5, c5, rfl⟩ := hE5.shape)
          | (go_at_call 40; refine (clone_evs (hD0.keep hb5) hl2).mono ?_; rintro e w6 ⟨⟨v6, rfl, hE6⟩, hb6⟩; obtain ⟨a6, c6, rfl⟩ := hE6.shape))
        all_goals (
          go_wp2_with fail
          go_meet
          rw [HLT.out] at hE5
          rw [HLD.out] at hE6
          exact ⟨_, _, _, _, rfl, rfl, hE5.keep hb6, hE6.base hb5.size, bthen (bthen (Below.refl wk.heap.size wk).drew hb5) hb6⟩)
  case rest =>
    obtain ⟨a1, a2, k1, k2, rfl, rfl, hE1, hE2, hbc⟩ := hcut
    have hbkz := hbk.size
    have hbw : Below w.heap.size w wc := hbk.trans (hbc.mono hbkz)
    have hWc := hW.keep hbw
    have d1 := hWc.cell
    have d2 := fun o => (hWc.alloc o).cell
    have d3 := fun o => (hWc.alloc o).frz
    clear c1 c2 c3 c4 c5
    by_cases hz : n = 0
    · have hl0 := List.length_eq_zero_iff.1 (HN0.out hz)
      subst hz
      subst hl0
      have t2z := tm_ee (.slice av 0 cv)
      have d1z : ∀ o, wc.cell? ⟨wb, o, none⟩ = (#[.string ⟨#[0]⟩, .string (topn 101), .int .i64 pl, .iface 117 (.agg #[.slice av 0 cv, .int .i64 14])] : Array Value)[o]? := hWc.cell
      have hMc := hM.keep hbw
      obtain ⟨l', q, hu, hM2, hsub, hne⟩ := del_map Tryz.underlying82 Tryz.underlying3 (key := .int .i64 id) rfl (hMc.alloc (.cells #[.slice av 0 cv, .int .i64 14] 117)) 0
      have hl' : l' = [] := by
        cases l' with
        | nil => rfl
        | cons x r =>
          have h1 := hsub.subset (List.mem_cons_self ..)
          simp at h1
          exact absurd (by rw [h1]) (hne x (List.mem_cons_self ..))
      subst hl'
      have dh := fun o => ((h.hub.keep hbw).alloc o).cell
      have hO5 : Only (fun y => y = hm) w (setMap (wc.alloc (.cells #[.slice av 0 cv, .int .i64 14] 117)) hm #[] q) := Only.map (F := fun y => y = hm) (Only.of_below (bmore hbw _)) hm (fun _ => rfl) _ _
      have hzw := hbw.size
      have hX : Blk (setMap (wc.alloc (.cells #[.slice av 0 cv, .int .i64 14] 117)) hm #[] q) wc.heap.size #[.slice av 0 cv, .int .i64 14] := (Blk.new wc _ _).only (Only.map (F := fun y => y = hm) (Only.refl _ _) hm (fun _ => rfl) _ _) (by have := hM.lt; omega)
      have d8 := hX.cell
      have d9 := hX.drew.cell
      have hO5d := hO5.trans (Only.of_below (F := fun y => y = hm) (Below.refl _ _).drew) (fun _ _ h => h)
      have hfin : PollPost chs rev hb hm wb sb id pl (.ended []) B w (.returned (.tuple #[.slice none 0 0, .int .i64 14])) (setMap (wc.alloc (.cells #[.slice av 0 cv, .int .i64 14] 117)) hm #[] q).drew := .inr ⟨rfl, rfl, ⟨h.hub.only hO5d (by omega), hM2.drew⟩, hO5d⟩
      go_wp2_with (at_delete; refine wpList_del_run rfl _ _ _ _ rfl hu ?_)
      go_region
      go_wp2
      exact bodyPost_ret (v := .tuple #[.slice none 0 0, .int .i64 14]) (by simp [results, Tryz.results17, go_sem]) rfl hfin
    have hz1 : (n : Int) ≠ 0 := by omega
    have hz2 : ((n : Int) == 0) = false := by simp; omega
    go_wp2
    have hO5 : Only (fun y => y = wb) wc ((wc.alloc (.cells #[.slice av l.length cv, .int .i64 14] 117)).setCell ⟨wb, 3, none⟩ (.iface 117 (.agg #[.slice a2 (l.length - n) k2, .int .i64 14]))) := ((Only.refl (fun y => y = wb) wc).alloc _).set ⟨wb, 3, none⟩ (fun _ => rfl) _
    have hW6 := (hWc.alloc (.cells #[.slice av l.length cv, .int .i64 14] 117)).setCell 3 (.iface 117 (.agg #[.slice a2 (l.length - n) k2, .int .i64 14]))
    have hOw := (Only.of_below (F := fun y => y = wb) hbw).trans hO5 (fun _ _ h => h)
    have h1lt := hE1.lt
    have h2lt := hE2.lt
    have hG : Grow w B ([hb, hm, wb] ++ blk (.slice a2 (l.length - n) k2)) := grow_blk hBl hHl (by rw [← hBl]; exact hnd) (fun y hy => by have := (h2lt y hy).1; omega)
    refine bodyPost_ret (v := .tuple #[.slice a1 n k1, .int .i64 0]) (by simp [results, Tryz.results17, go_sem]) rfl (.inl ⟨_, l.take n, pl, .ended (l.drop n), _, rfl, ⟨n, by omega, hnl, rfl, rfl, rfl⟩, ⟨(hE1.read).only hO5 (fun y hy e => by have := (h1lt y hy).1; omega), fun y hy => by have := (h1lt y hy).1; omega⟩, ⟨h.hub.only hOw (by omega), ⟨c0, hM.only hOw (by omega)⟩, ⟨_, _, ?_, ⟨_, rfl, (hE2.only hO5 (fun y hy e => by have := (h2lt y hy).1; omega)).base (Nat.zero_le _), by rw [List.length_drop]; omega, rfl⟩, rfl⟩, hG.nd hnd⟩, hG, hOw⟩)
    unfold Wa
    simpa using hW6
end Go.Proofs.YtbheebpfbabffaaGreat.Wat

