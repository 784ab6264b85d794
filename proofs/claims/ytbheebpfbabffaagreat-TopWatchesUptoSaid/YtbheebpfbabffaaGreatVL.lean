/- Joined: a part of the proof of TopWatches. -/
import Derived.Test.YtbheebpfbabffaaGreatWNoteT
set_option linter.unusedSimpArgs false
set_option linter.unusedVariables false
namespace Go.Proofs.YtbheebpfbabffaaGreat.Wat
open Go.RowKit Go Go.Lib Mach Go.MapKept

theorem St.head {w : World} {sb : Nat} {op : Value} {rev C : Nat} {chs : List Ver} {Ks : List Value} {S : List Nat} (h : St w sb op rev C chs Ks S) :
    ∃ (live : Int) (xi vb : Nat) (cv : Value), Blk w sb #[.int .i64 rev, .int .i64 0, .int .i64 live, Ptr xi, .map (some vb), cv, op] ∧
      ∀ (rev' : Nat) (live' : Int) (op' : Value) (w' : World), Only (fun y => y = sb) w w' → Blk w' sb #[.int .i64 rev', .int .i64 0, .int .i64 live', Ptr xi, .map (some vb), cv, op'] → St w' sb op' rev' C chs Ks S := by
  obtain ⟨live, xi, vb, cv, SX, es, hs, hix, hm, hes, hch, ho, hcl, hk, hS, hN⟩ := h
  refine ⟨live, xi, vb, cv, hs, fun rev' live' op' w' hO hb => ?_⟩
  have hN2 : Nd (sb :: vb :: (SX ++ (blk cv ++ ent es))) := by rw [hS] at hN; exact hN
  have hct := fun y => (st_count sb vb SX (blk cv) (ent es) y)
  have hn : ∀ y, y = sb → ([vb] : List Nat).count y + SX.count y + (blk cv).count y + (ent es).count y = 0 := fun y hy => by
    have := hN2 y
    rw [hct] at this
    have : ([sb] : List Nat).count y = 1 := by simp [hy]
    omega
  refine ⟨live', xi, vb, cv, SX, es, hb, hix.only hO (fun y hy e => ?_), hm.only hO (fun e => ?_), fun e he => ?_, own_keep hch hO (fun y hy e => ?_), ho, hcl, hk, hS, hN⟩
  · have := hn y e; have := count_in hy; omega
  · have := hn vb e; have : ([vb] : List Nat).count vb = 1 := (by simp); omega
  · obtain ⟨vs, h1, h2⟩ := hes e he
    exact ⟨vs, own_keep h1 hO (fun y hy ee => by have := hn y ee; have := count_in (ent_mem he hy); omega), h2⟩
  · have := hn y e; have := count_in hy; omega

set_option maxRecDepth 100000 in
theorem write_f {w : World} {sb : Nat} {op : Value} {rev C : Nat} {chs : List Ver} {Ks : List Value} {S : List Nat} (h : St w sb op rev C chs Ks S) :
    Calls Tryz.prog 117 #[Ptr sb] w fun e w' => e = .returned (Ptr (w.heap.size + 1)) ∧ Tx w' sb (w.heap.size + 1) rev C 0 chs Ks [] S [w.heap.size + 1, w.heap.size] ∧ Only (fun y => y = sb) w w' ∧ w.heap.size ≤ w'.heap.size := by
  have hlt := h.lt
  have hnd := h.nd
  obtain ⟨live, xi, vb, cv, hs, hmk⟩ := h.head
  have hmm := @run_makeMap Tryz.prog
  have hc := hs.cell
  have hf := hs.frz
  have hl := hs.lt
  have hb6 := hs.setCell 6 (Ptr (w.heap.size + 1))
  clear h hs
  go_enter Tryz.func117, Tryz.ntmps117
  go_wp2
  go_ret
  have hO : Only (fun y => y = sb) w (w.setCell ⟨sb, 6, none⟩ (Ptr (w.heap.size + 1))) := (Only.refl (fun y => y = sb) w).set _ (fun _ => rfl) _
  have hsz : (w.setCell ⟨sb, 6, none⟩ (Ptr (w.heap.size + 1))).heap.size = w.heap.size := by simp [World.setCell]
  obtain ⟨w1, hw1⟩ : ∃ w1, w1 = w.setCell ⟨sb, 6, none⟩ (Ptr (w.heap.size + 1)) := ⟨_, rfl⟩
  rw [← hw1] at hO hb6 hsz ⊢
  clear hw1
  have hst := hmk rev live (Ptr (w.heap.size + 1)) w1 hO (by simpa using hb6)
  have hO2 := (hO.alloc (.map #[] 0)).alloc (.cells #[Ptr sb, .slice none 0 0, .map (some w.heap.size), .int .i64 live] 281)
  have hst2 := hst.only (G := fun _ => False) (((Only.refl _ _).alloc (.map #[] 0)).alloc (.cells #[Ptr sb, .slice none 0 0, .map (some w.heap.size), .int .i64 live] 281)) (fun _ _ h => h)
  refine ⟨rfl, ⟨hst2, ⟨live, .slice none 0 0, w.heap.size, [], ⟨Blk.newAt (by simp [hsz]), World.ownsRow_nil _ _ _ _, ?_, fun _ h => absurd h List.not_mem_nil, fun _ h => absurd h List.not_mem_nil, Nat.le_refl _, List.nodup_nil, fun _ h => absurd h List.not_mem_nil, Nat.le_refl _, rfl⟩⟩, ?_⟩, hO2, hO2.size⟩
  · have := (MapK.new w1 .string).alloc (.cells #[Ptr sb, .slice none 0 0, .map (some w.heap.size), .int .i64 live] 281)
    rwa [hsz] at this
  · intro a
    rw [List.count_append, show ([w.heap.size + 1, w.heap.size] : List Nat) = [w.heap.size + 1] ++ [w.heap.size] from rfl, List.count_append]
    have h1 := hnd a
    have c1 := single_one (w.heap.size + 1) a
    have c2 := single_one w.heap.size a
    by_cases ha : a < w.heap.size
    · have := single_zero (k := w.heap.size) (a := a) (by omega)
      have := single_zero (k := w.heap.size + 1) (a := a) (by omega)
      omega
    · have := count_out (fun hm : a ∈ S => ha (hlt a hm))
      by_cases e : w.heap.size = a
      · have := single_zero (k := w.heap.size + 1) (a := a) (by omega)
        omega
      · have := single_zero e
        omega

def isPut : Chg → Bool
  | .put _ => true
  | .del _ => false
def nput (L : List Chg) : Nat := (L.filter isPut).length
theorem nput_len : ∀ L : List Chg, L.length = nput L + (dels L).length
  | [] => rfl
  | .put x :: L => by
    have h := nput_len L
    have h1 : nput (.put x :: L) = nput L + 1 := rfl
    have h2 : dels (.put x :: L) = dels L := rfl
    rw [h1, h2, List.length_cons]; omega
  | .del k :: L => by
    have h := nput_len L
    have h1 : nput (.del k :: L) = nput L := rfl
    have h2 : dels (.del k :: L) = .string k :: dels L := rfl
    rw [h1, h2, List.length_cons, List.length_cons]; omega
theorem nput_snoc (L : List Chg) (c : Chg) : nput (L ++ [c]) = nput L + if isPut c then 1 else 0 := by
  unfold nput
  rw [List.filter_append, List.length_append]
  cases h : isPut c <;> simp [h]
theorem take_succ' (L : List Chg) (j : Nat) (hj : j < L.length) : L.take (j + 1) = L.take j ++ [L[j]] := by
  rw [List.take_succ_eq_append_getElem hj]
theorem nput_take (L : List Chg) (j : Nat) : nput (L.take j) ≤ nput L := by
  unfold nput
  exact ((List.take_sublist j L).filter _).length_le

/-- What Done leaves of the store. -/
def DonePost (w : World) (sb rev C P : Nat) (chs : List Ver) (Ks : List Value) (L : List Chg) (S : List Nat) (w' : World) : Prop :=
  Only (fun y => y ∈ S) w w' ∧ ∃ (rev' : Nat) (new : List Ver) (Ks' : List Value) (S' : List Nat), St w' sb (.pointer none) rev' (C + L.length) (chs ++ new) Ks' S' ∧ Grow w S S' ∧ Ks'.length ≤ Ks.length + P ∧
    ((new = [] ∧ rev' = rev) ∨ (new ≠ [] ∧ rev' = rev + 1 ∧ ∀ p ∈ new, p.1 = (rev : Int) + 1)) ∧ new.length = L.length

theorem St.weak {w : World} {sb : Nat} {op : Value} {rev C C' : Nat} {chs : List Ver} {Ks : List Value} {S : List Nat} (h : St w sb op rev C chs Ks S) (hC : C ≤ C') : St w sb op rev C' chs Ks S := by
  obtain ⟨live, xi, vb, cv, SX, es, hs, ⟨r, n, F, ms, hx, hR, hI, hK, h5, h6⟩, hm, hes, hch, ho, hcl, hk, hS, hN⟩ := h
  exact ⟨live, xi, vb, cv, SX, es, hs, ⟨r, n, F, ms, hx, hR, fun p hp => (hI p hp).mono hC, by omega, h5, h6⟩, hm, fun e he => by
    obtain ⟨vs, h1, h2, h3⟩ := hes e he
    exact ⟨vs, h1, h2, by omega⟩, hch, ho, by omega, hk, hS, hN⟩

set_option maxHeartbeats 4000000 in
set_option maxRecDepth 100000 in
theorem done_t {w : World} {sb wk rev C P : Nat} {chs : List Ver} {Ks : List Value} {L : List Chg} {S W : List Nat} (h : Tx w sb wk rev C P chs Ks L S W) (hC : C + L.length ≤ 1000000) (hrev : rev ≤ 1000000) :
    Calls Tryz.prog 119 #[Ptr wk] w fun e w' => (∃ x : Int, e = .returned (.int .i64 x)) ∧ DonePost w sb rev C P chs Ks L S w' := by
  have hcl := h.closed
  obtain ⟨hst, ⟨live, lv, bm, bs, hW⟩, hN⟩ := h
  have hSlt := hst.lt
  have hap := nd_apart hN
  have hfo := hW.foot
  have hsS : sb ∈ S := by
    obtain ⟨_, _, _, _, _, _, _, _, _, _, _, _, _, _, rfl, _⟩ := hst
    simp
  have hwW : wk ∈ W := by rw [hfo]; simp
  have hws : wk ≠ sb := fun e => hap sb hsS (e ▸ hwW)
  have hlW : ∀ y ∈ blk lv, y ∉ S := fun y hy hm => hap y hm (by rw [hfo]; simp [hy])
  have hnp : nput L ≤ P := by have := nput_len L; have := hW.puts; omega
  obtain ⟨slive, xi, vb, cv, hs, hmk⟩ := hst.head
  have hc := hs.cell
  have hf := hs.frz
  have hwc := hW.blk.cell
  have hsl := hs.lt
  have hwl := hW.blk.lt
  have hrow := hW.row
  have hok := hW.ok
  have hsub := hW.sub
  have hwb := hW.blk
  have hG0 : Grow w S S := ⟨fun _ _ => Nat.le_refl _, fun a _ => hst.nd a⟩
  clear hW hN
  go_enter Tryz.func119, Tryz.ntmps119
  go_wp2_with fail
  go_at_call 153
  refine hcl.mono ?_
  rintro e w0 ⟨rfl, rfl⟩
  obtain ⟨w1, hw1⟩ : ∃ w1, w1 = w.setCell ⟨sb, 6, none⟩ (.pointer none) := ⟨_, rfl⟩
  have hO1 : Only (fun y => y = sb) w w1 := by rw [hw1]; exact (Only.refl (fun y => y = sb) w).set _ (fun _ => rfl) _
  have hb1 : Blk w1 sb #[.int .i64 rev, .int .i64 0, .int .i64 slive, Ptr xi, .map (some vb), cv, .pointer none] := by
    have := hs.setCell 6 (.pointer none)
    rw [hw1]; simpa using this
  by_cases hL0 : L.length = 0
  · obtain rfl := List.length_eq_zero_iff.1 hL0
    have hlv : ∃ a c, lv = .slice a 0 c := by
      rcases hrow.2 with ⟨rfl, -⟩ | ⟨g, cap, cur, rfl, -⟩
      · exact ⟨_, _, rfl⟩
      · exact ⟨_, _, rfl⟩
    obtain ⟨a, c, rfl⟩ := hlv
    have hwc1 := (hwb.only hO1 hws).cell
    have hc1 := hb1.cell
    rw [hw1] at hwc1 hc1
    go_wp2
    go_ret
    rw [← hw1]
    refine ⟨⟨_, rfl⟩, (Only.refl (fun y => y ∈ S) w).trans hO1 (fun y _ h => h ▸ hsS), rev, [], Ks, S, ?_, hG0, by omega, .inl ⟨rfl, rfl⟩, rfl⟩
    simpa using hmk rev slive (.pointer none) w1 hO1 hb1
  · obtain ⟨g, cap, rfl, -, hgl, -, hcell⟩ := own_some hrow (by omega)
    have hgS : g ∉ S := hlW g (by simp [blk, Value.ownBlock])
    have hgs : g ≠ sb := fun e => hgS (e ▸ hsS)
    have hwc1 := (hwb.only hO1 hws).cell
    have hc1 := hb1.cell
    have hf1 := hb1.frz
    rw [hw1] at hwc1 hc1 hf1
    have hLi : ((L.length : Int) == 0) = false := by
      cases hh : ((L.length : Int) == 0) with
      | false => rfl
      | true => exact absurd (by have : (L.length : Int) = 0 := eq_of_beq hh; omega) hL0
    have hlk : ∀ (a : Int) (l : Int), Only (fun y => y = sb) w (((w.setCell ⟨sb, 6, none⟩ (.pointer none)).setCell ⟨sb, 0, none⟩ (.int .i64 a)).setCell ⟨sb, 2, none⟩ (.int .i64 l)) := fun a l =>
      (((Only.refl (fun y => y = sb) w).set ⟨sb, 6, none⟩ (fun _ => rfl) _).set ⟨sb, 0, none⟩ (fun _ => rfl) _).set ⟨sb, 2, none⟩ (fun _ => rfl) _
    have hbk : ∀ (a : Int) (l : Int), Blk (((w.setCell ⟨sb, 6, none⟩ (.pointer none)).setCell ⟨sb, 0, none⟩ (.int .i64 a)).setCell ⟨sb, 2, none⟩ (.int .i64 l)) sb #[.int .i64 a, .int .i64 0, .int .i64 l, Ptr xi, .map (some vb), cv, .pointer none] := fun a l => by
      have := ((hs.setCell 6 (.pointer none)).setCell 0 (.int .i64 a)).setCell 2 (.int .i64 l)
      simpa using this
    have hwk2 : ∀ (a : Int) (o : Nat), ((w.setCell ⟨sb, 6, none⟩ (.pointer none)).setCell ⟨sb, 0, none⟩ (.int .i64 a)).cell? ⟨wk, o, none⟩ = _ := fun a => (hwb.only (((Only.refl (fun y => y = sb) w).set ⟨sb, 6, none⟩ (fun _ => rfl) _).set ⟨sb, 0, none⟩ (fun _ => rfl) _) hws).cell
    have hwk3 : ∀ (a l : Int) (o : Nat), (((w.setCell ⟨sb, 6, none⟩ (.pointer none)).setCell ⟨sb, 0, none⟩ (.int .i64 a)).setCell ⟨sb, 2, none⟩ (.int .i64 l)).cell? ⟨wk, o, none⟩ = _ := fun a l => (hwb.only (hlk a l) hws).cell
    go_wp2
    have hstA := hmk (rev + 1) live (.pointer none) _ (hlk ((rev : Int) + 1) live) (by have := hbk ((rev : Int) + 1) live; simpa using this)
    have hOA := hlk ((rev : Int) + 1) live
    generalize ((w.setCell ⟨sb, 6, none⟩ (.pointer none)).setCell ⟨sb, 0, none⟩ (.int .i64 ((rev : Int) + 1))).setCell ⟨sb, 2, none⟩ (.int .i64 live) = wA at hstA hOA ⊢
    clear hlk hbk hwk2 hwk3 hwc1 hc1 hf1 hmk hc hf hwc hw1
    have hOS : Only (fun y => y ∈ S) w wA := (Only.refl (fun y => y ∈ S) w).trans hOA (fun y _ h => h ▸ hsS)
    go_loopg [5, 48] L.length (fun kx _ s48 wq => ∃ (j : Nat) (Ks2 : List Value) (S2 : List Nat), s48 = .int .i64 j ∧ j ≤ L.length ∧ kx = L.length - j ∧ St wq sb (.pointer none) (rev + 1) (C + j) (chs ++ (L.take j).map (fun c => ((rev : Int) + 1, c))) Ks2 S2 ∧ Grow w S S2 ∧ Only (fun y => y ∈ S) w wq ∧ Ks2.length ≤ Ks.length + nput (L.take j) ∧ ∀ k ∈ Ks, k ∈ Ks2)
    case atStart => exact ⟨0, Ks, S, rfl, Nat.zero_le _, rfl, by simpa using hstA, hG0, hOS, Nat.le_add_right _ _, fun _ h => h⟩
    case round =>
      obtain ⟨j, Ks2, S2, rfl, hj, hkx, hSt, hGr, hOr, hKl, hKs⟩ := hrel
      obtain ⟨live3, xi3, vb3, cv3, hs3, -⟩ := hSt.head
      have hc3 := hs3.cell
      rw [show ((rev + 1 : Nat) : Int) = (rev : Int) + 1 by omega] at hc3
      by_cases hjn : j = L.length
      · subst hjn
        go_wp2
        go_ret
        rw [List.take_length] at hSt hKl
        refine ⟨⟨_, rfl⟩, hOr, rev + 1, _, Ks2, S2, hSt, hGr, by omega, .inr ⟨?_, rfl, fun p hp => ?_⟩, by simp⟩
        · intro e
          exact hL0 (by simpa using congrArg List.length e)
        · obtain ⟨c, -, rfl⟩ := List.mem_map.1 hp
          rfl
      · have hjl : j < L.length := by omega
        have hcj : (L.map Chg.val)[j]? = some L[j].val := by simp [hjl]
        have hgr : wr.cell? ⟨g, j, none⟩ = some L[j].val := (World.cell?_of_block (w := w) (hOr.block g hgl hgS)).trans (hcell j _ hcj)
        have hnote := note_t hSt L[j] (hok _ (List.getElem_mem _)) (Nat.succ_pos _) (by omega)
        rw [show ((rev + 1 : Nat) : Int) = (rev : Int) + 1 by omega] at hnote
        have hdk : ∀ k, L[j] = .del k → .string k ∈ Ks2 := fun k hk => hKs _ (hsub _ (List.mem_filterMap.2 ⟨L[j], List.getElem_mem _, by rw [hk]⟩)).2
        have hfin : ∀ w5, NotePost wr sb (.pointer none) (rev + 1) (C + j) (chs ++ (L.take j).map (fun c => ((rev : Int) + 1, c))) Ks2 S2 ((rev : Int) + 1, L[j]) w5 → ∃ (j2 : Nat) (Ks2 : List Value) (S2 : List Nat), Value.int .i64 ((j : Int) + 1) = .int .i64 j2 ∧ j2 ≤ L.length ∧ L.length - (j + 1) = L.length - j2 ∧ St w5 sb (.pointer none) (rev + 1) (C + j2) (chs ++ (L.take j2).map (fun c => ((rev : Int) + 1, c))) Ks2 S2 ∧ Grow w S S2 ∧ Only (fun y => y ∈ S) w w5 ∧ Ks2.length ≤ Ks.length + nput (L.take j2) ∧ ∀ k ∈ Ks, k ∈ Ks2 := fun w5 ⟨h1, Ks3, S3, h2, h3, h4, h5, h6⟩ => by
          refine ⟨j + 1, Ks3, S3, by simp, by omega, rfl, ?_, hGr.trans hOr.size h3, hOr.trans h1 (fun y hy hm => hGr.mem hy hm), ?_, fun k hk => h6 k (hKs k hk)⟩
          · rw [take_succ' L j hjl, List.map_append, ← List.append_assoc]
            exact h2
          · rw [take_succ' L j hjl, nput_snoc]
            cases hc : L[j] with
            | put x => simp [isPut]; omega
            | del k => have := h5 (by rw [hc]; exact hdk k hc); simp [isPut]; omega
        clear hnp hok hsub hcell hrow
        generalize L[j] = c at hgr hnote hfin hdk hcj
        cases c with
        | put x =>
          obtain ⟨xk, xv, xa, xb, xc, xd⟩ := x
          unfold Chg.val KVr.agg at hgr hnote
          go_wp2_with fail
          go_at_call 136
          refine hnote.mono ?_
          rintro e w5 ⟨rfl, hP⟩
          go_wp2
          go_roundg (L.length - (j + 1))
          case measure => omega
          case rel => exact hfin _ hP
        | del k =>
          unfold Chg.val at hgr hnote
          go_wp2_with fail
          go_at_call 136
          refine hnote.mono ?_
          rintro e w5 ⟨rfl, hP⟩
          go_wp2
          go_roundg (L.length - (j + 1))
          case measure => omega
          case rel => exact hfin _ hP
end Go.Proofs.YtbheebpfbabffaaGreat.Wat

namespace Go.Proofs.YtbheebpfbabffaaGreat.Wat
open Go.RowKit Go Go.Lib Mach Go.MapKept

abbrev EvT : TypeId := 53
theorem ev_info : (Tryz.prog.info? 53).map (fun i => (i.zero, i.size, i.bytes)) = some (some (.agg #[.int .i64 0, .bool false, .string ⟨#[]⟩, .string ⟨#[]⟩, .int .i64 0, .int .i64 0, .int .i64 0, .int .i64 0]), 8, 80) := by kernel_rfl
/-- A change, as it is told. -/
def evc (p : Ver) : List Value := match p.2 with
  | .put x => [.int .i64 p.1, .bool false, .string x.k, .string x.v, .int .i64 x.a, .int .i64 x.b, .int .i64 x.c, .int .i64 x.d]
  | .del k => [.int .i64 p.1, .bool true, .string k, .string ⟨#[]⟩, .int .i64 0, .int .i64 p.1, .int .i64 0, .int .i64 0]
theorem evc_len (p : Ver) : (evc p).length = 8 := by
  obtain ⟨r, c⟩ := p
  cases c <;> rfl
def evs (l : List Ver) : List Value := l.flatMap evc
theorem evs_append (l m : List Ver) : evs (l ++ m) = evs l ++ evs m := List.flatMap_append ..
theorem evs_get {l : List Ver} {j : Nat} {x : Ver} (h : l[j]? = some x) (i : Nat) (hi : i < 8) : (evs l)[8 * j + i]? = (evc x)[i]? := flat_get evc 8 evc_len l j i x h hi

set_option maxHeartbeats 4000000 in
set_option maxRecDepth 100000 in
theorem search_exact (g : Nat) (cb : Array Value) (n : Nat) (p : Nat → Bool) (hmono : ∀ i j, i ≤ j → j < n → p i = true → p j = true) (I : World → Prop) (w : World) (eg : ∀ args w, (callFunc g args).run Tryz.prog w = .ok (.enter g args) w) (hsz : n < 4611686018427387904) (hI : I w)
    (hf : ∀ (w : World) (i : Nat), I w → i < n → Calls Tryz.prog g (#[.int .i64 i] ++ cb) w fun e w' => e = .returned (.bool (p i)) ∧ I w') :
    Calls Tryz.prog 36 #[.int .i64 n, .func (.func g) #[] cb] w fun e w' => ∃ r : Nat, r ≤ n ∧ e = .returned (.int .i64 r) ∧ I w' ∧ (∀ i, i < r → p i = false) ∧ ∀ i, r ≤ i → i < n → p i = true := by
  have HF : Aside _ := hf
  have HM : Aside _ := hmono
  clear hf hmono
  go_enter Tryz.func36, Tryz.ntmps36
  go_wp2
  go_loopg [5, 6] n (fun kx s5 s6 wr => ∃ (lo hi : Nat), s5 = .int .i64 lo ∧ s6 = .int .i64 hi ∧ lo ≤ hi ∧ hi ≤ n ∧ hi - lo ≤ kx ∧ I wr ∧ Aside ((∀ i, i < lo → p i = false) ∧ ∀ i, hi ≤ i → i < n → p i = true))
  case atStart => exact ⟨0, n, rfl, rfl, Nat.zero_le _, Nat.le_refl _, by omega, hI, ⟨fun i h => absurd h (Nat.not_lt_zero i), fun i h1 h2 => by omega⟩⟩
  case round =>
    obtain ⟨lo, hi, rfl, rfl, hlh, hin, hg, hIr, hA⟩ := hrel
    by_cases hlt : lo < hi
    · have hc := HF.out wr ((lo + hi) / 2) hIr (by omega)
      rw [show (((lo + hi) / 2 : Nat) : Int) = ((lo : Int) + (hi : Int)) / 2 by omega] at hc
      have hF0 : p ((lo + hi) / 2) = false → ∀ i, i < (lo + hi) / 2 + 1 → p i = false := fun h i hi2 => by
        cases hp : p i with
        | false => rfl
        | true => rw [HM.out i ((lo + hi) / 2) (by omega) (by omega) hp] at h; cases h
      have hT0 : p ((lo + hi) / 2) = true → ∀ i, (lo + hi) / 2 ≤ i → i < n → p i = true := fun h i h1 h2 => HM.out _ i h1 h2 h
      have hF : Aside _ := hF0
      have hT : Aside _ := hT0
      clear hF0 hT0
      generalize p ((lo + hi) / 2) = pb at hc hF hT
      cases pb with
      | false =>
        go_wp2_with (go_at_fn g; refine hc.mono ?_; rintro e w' ⟨rfl, hI2⟩)
        go_roundg (hi - ((lo + hi) / 2 + 1))
        case measure => omega
        case rel => exact ⟨(lo + hi) / 2 + 1, hi, by rw [show ((lo : Int) + (hi : Int)) / 2 + 1 = (((lo + hi) / 2 + 1 : Nat) : Int) by omega], rfl, by omega, hin, Nat.le_refl _, hI2, ⟨hF.out (by first | rfl | trivial), hA.out.2⟩⟩
      | true =>
        go_wp2_with (go_at_fn g; refine hc.mono ?_; rintro e w' ⟨rfl, hI2⟩)
        go_roundg ((lo + hi) / 2 - lo)
        case measure => omega
        case rel => exact ⟨lo, (lo + hi) / 2, rfl, by rw [show ((lo : Int) + (hi : Int)) / 2 = (((lo + hi) / 2 : Nat) : Int) by omega], by omega, by omega, Nat.le_refl _, hI2, ⟨hA.out.1, hT.out (by first | rfl | trivial)⟩⟩
    · obtain rfl : hi = lo := by omega
      go_wp2
      go_ret
      exact ⟨hi, hin, rfl, hIr, hA.out⟩

set_option maxHeartbeats 4000000 in
set_option maxRecDepth 100000 in
theorem since_closure (ps pr sb g j n c : Nat) (a0 a1 a2 a3 a4 a6 : Value) (r rev : Int) (w : World) (h0 : w.cell? ⟨ps, 0, none⟩ = some (Ptr sb)) (hs : Blk w sb #[a0, a1, a2, a3, a4, .slice (some ⟨g, 0, none⟩) n c, a6]) (h2 : w.cell? ⟨pr, 0, none⟩ = some (.int .i64 rev)) (hj : j < n) (h3 : w.cell? ⟨g, j * 2, none⟩ = some (.int .i64 r)) :
    Calls Tryz.prog 37 (#[.int .i64 j] ++ #[Ptr ps, Ptr pr]) w fun e w' => e = .returned (.bool (decide (rev ≤ r))) ∧ Below w.heap.size w w' := by
  have d1 : w.drew.cell? ⟨ps, 0, none⟩ = _ := h0
  have d2 : w.drew.cell? ⟨pr, 0, none⟩ = _ := h2
  have d3 : w.drew.cell? ⟨g, j * 2, none⟩ = _ := h3
  have d4 : ∀ o, w.drew.cell? ⟨sb, o, none⟩ = _ := hs.cell
  have hbd := (Below.refl w.heap.size w).drew
  clear h0 h2 h3 hs
  go_enter Tryz.func37, Tryz.ntmps37
  go_wp2_with fail
  go_region
  go_wp2
  go_ret
  exact ⟨by first | rfl | simp, hbd⟩
theorem eg_since : ∀ args w, (callFunc 37 args).run Tryz.prog w = .ok (.enter 37 args) w := enters_of Tryz.func37 (by kernel_rfl) rfl

theorem below_set8 {N b : Nat} {w w1 : World} (h : Below N w w1) (hb : N ≤ b) {a0 a1 a2 a3 a4 a5 a6 a7 : Value} :
    Below N w ((((((((w1.setCell ⟨b, 0, none⟩ a0).setCell ⟨b, 1, none⟩ a1).setCell ⟨b, 2, none⟩ a2).setCell ⟨b, 3, none⟩ a3).setCell ⟨b, 4, none⟩ a4).setCell ⟨b, 5, none⟩ a5).setCell ⟨b, 6, none⟩ a6).setCell ⟨b, 7, none⟩ a7) :=
  below_set (below_set (below_set6 h hb) _ hb _) _ hb _

set_option maxHeartbeats 8000000 in
set_option maxRecDepth 100000 in
theorem event_f (rev : Int) (c : Chg) (w : World) : Calls Tryz.prog 38 #[.agg #[.int .i64 rev, c.val]] w fun e w' => e = .returned (.agg (evc (rev, c)).toArray) ∧ Below w.heap.size w w' := by
  cases c with
  | put x =>
    have hta := run_ta_put x
    obtain ⟨xk, xv, xa, xb, xc, xd⟩ := x
    unfold Chg.val KVr.agg at *
    go_enter Tryz.func38, Tryz.ntmps38
    go_wp2
    exact bodyPost_ret (v := .agg (evc (rev, .put ⟨xk, xv, xa, xb, xc, xd⟩)).toArray) (by simp [results, Tryz.results38, go_sem, evc]) rfl ⟨rfl, bmore (bmore (bmore (Below.refl _ _) _) _) _⟩
  | del k =>
    have hta := run_ta_del k
    have hmt := meth_del k
    unfold Chg.val at *
    go_enter Tryz.func38, Tryz.ntmps38
    go_wp2
    obtain ⟨wa, hwa⟩ : ∃ wa, wa = ((w.alloc (.cells #[.int .i64 rev, .iface 259 (.agg #[.string k])] 109)).alloc (.cells #[.int .i64 0, .bool false, .string ⟨#[]⟩, .string ⟨#[]⟩, .int .i64 0, .int .i64 0, .int .i64 0, .int .i64 0] 53)).alloc (.cells #[.string ⟨#[]⟩, .string ⟨#[]⟩, .int .i64 0, .int .i64 0, .int .i64 0, .int .i64 0] 191) := ⟨_, rfl⟩
    have hb0 : Below w.heap.size w wa := by rw [hwa]; exact bmore (bmore (bmore (Below.refl _ _) _) _) _
    have hA : Blk wa w.heap.size #[.int .i64 rev, .iface 259 (.agg #[.string k])] := by rw [hwa]; exact ((Blk.new w _ _).alloc _).alloc _
    have hB : Blk wa (w.heap.size + 1) #[.int .i64 0, .bool false, .string ⟨#[]⟩, .string ⟨#[]⟩, .int .i64 0, .int .i64 0, .int .i64 0, .int .i64 0] := by rw [hwa]; exact (Blk.newAt (by simp)).alloc _
    rw [← hwa]
    clear hwa
    have hc1 := hA.cell
    have hd1 : ∀ o, wa.drew.cell? ⟨w.heap.size, o, none⟩ = _ := hA.cell
    go_region_with (go_at_call 258; refine (key_del_f k _).mono ?_; rintro e w5 ⟨rfl, hb5⟩; have hc5 := (hA.drew.keep hb5).cell; have hB5 := (hB.drew.keep hb5).cell; have hF5 := (hB.drew.keep hb5).frz)
    all_goals (
      go_wp2
      refine bodyPost_ret (v := .agg (evc (rev, .del k)).toArray) (by simp [results, Tryz.results38, go_sem, evc, hB5, cell_same, isSome_setCell]) rfl ⟨rfl, ?_⟩
      exact below_set8 (bthen hb0.drew hb5) (Nat.le_succ _))
end Go.Proofs.YtbheebpfbabffaaGreat.Wat

