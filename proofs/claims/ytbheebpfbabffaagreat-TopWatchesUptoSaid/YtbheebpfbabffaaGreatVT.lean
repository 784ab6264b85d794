/- Joined: a part of the proof of TopWatches. -/
import Derived.Test.YtbheebpfbabffaaGreatVS
import Derived.Test.YtbheebpfbabffaaGreatShelf2
import Derived.Test.YtbheebpfbabffaaGreatShelf
import Derived.Test.YtbheebpfbabffaaGreatVP
set_option linter.unusedSimpArgs false
set_option linter.unusedVariables false
namespace Go.Proofs.YtbheebpfbabffaaGreat.Wat
open Go.RowKit Go Go.Lib Mach Go.MapKept Go.Shelf Go.Sort

def lsc (x y : Lse) : Int := Lib.compareInt x.1 y.1
theorem lsc_lt (x y : Lse) : ltOf lsc x y = decide (x.1 < y.1) := by
  unfold ltOf lsc Lib.compareInt
  by_cases h1 : x.1 < y.1
  · simp [h1]
  · by_cases h2 : y.1 < x.1 <;> simp [h1, h2]
theorem lsc_swo : SWO (ltOf lsc) where
  irrefl x := by rw [lsc_lt]; simp
  trans x y z h1 h2 := by rw [lsc_lt] at *; simp at *; omega
  ntrans x y z h1 h2 := by rw [lsc_lt] at *; simp at *; omega
set_option maxHeartbeats 1000000 in
theorem all1_f (x y : Lse) (W : World) : Calls Tryz.prog 108 #[.agg (Lse.cells x).toArray, .agg (Lse.cells y).toArray] W fun e w' => e = .returned (.int .i64 (lsc x y)) ∧ ∃ q os', w' = grow (W.drewN q) os' := by
  have hcon := fun W' => Tryz.cmp_Compare_int x.1 y.1 W'
  unfold lsc Lse.cells
  generalize Lib.compareInt x.1 y.1 = r at hcon ⊢
  go_enter Tryz.func108, Tryz.ntmps108
  go_wp2_with (go_at_call 109; refine (hcon _).mono ?_; rintro e w' ⟨rfl, rfl⟩)
  go_ret
  exact ⟨rfl, 0, _, by rw [alloc_eq_grow, alloc_eq_grow, grow_grow]; rfl⟩
theorem all1_lays (blk off size : Nat) (w : World) : CmpLays Tryz.prog 108 #[] Lse.cells 3 lsc blk off size w := fun _ _ _ _ x y => all1_f x y _

theorem lse_flat (xs : List Lse) : ∀ t, t < xs.length * 3 → (lses xs)[t]? = some (flatK Lse.cells 3 xs.toArray)[t]! := by
  intro t ht
  rw [get_flatK Lse.cells 3 xs.toArray t (by simpa using ht)]
  have hj : t / 3 < xs.length := by omega
  have h := flat_get Lse.cells 3 (fun _ => rfl) xs (t / 3) (t % 3) xs[t / 3] (List.getElem?_eq_getElem hj) (by omega)
  rw [show 3 * (t / 3) + t % 3 = t by omega] at h
  refine h.trans ?_
  have hm : t % 3 = 0 ∨ t % 3 = 1 ∨ t % 3 = 2 := by omega
  have hx : xs.toArray[t / 3]! = xs[t / 3] := by rw [getElem!_pos xs.toArray (t / 3) (by simpa using hj)]; simp
  rw [hx]
  rcases hm with h | h | h <;> rw [h] <;> rfl
theorem lse_holds {w : World} {g : Nat} {cur : Array Value} {e : TypeId} {xs : List Lse} (hb : w.heap[g]? = some (.cells cur e (0, 0))) (ht : cur.toList.take (xs.length * 3) = lses xs) : HoldsK Lse.cells 3 w g 0 xs.toArray := by
  intro j hj
  have hj' : j < xs.length * 3 := by simpa using hj
  refine ⟨?_, by simp [World.frozen?, hb]⟩
  have h1 := lse_flat xs j hj'
  rw [← ht, List.getElem?_take, if_pos hj'] at h1
  simp [World.cell?, hb]
  simpa using h1
theorem grownBy_sortK {w : World} {g n : Nat} {os : Array Obj} (d : Array Value) : w.grownBy (grow (putRow id (Sort.ahead w n) g 0 d) os) (some g) := by
  refine ⟨rfl, rfl, rfl, by simp, fun k hk hne => ?_⟩
  rw [heap_grow_old _ _ (by simpa using hk)]
  have : g ≠ k := fun e => hne (by rw [e])
  simp [putRow, mapBlock, Sort.ahead, Array.getElem?_modify, this]
theorem lse_row {w : World} {g cap : Nat} {d : Array Lse} (hg : g < w.heap.size) (h : HoldsK Lse.cells 3 w g 0 d) : RdRow w (.slice (some ⟨g, 0, none⟩) d.size cap) 3 Lse.cells d.toList := by
  refine ⟨_, cap, by rw [Array.length_toList], .inr ⟨g, 0, rfl, hg, fun j x hx i u hu => ?_⟩⟩
  have hj : j < d.size := by
    have := (List.getElem?_eq_some_iff.1 hx).1
    simpa using this
  have hi : i < 3 := (List.getElem?_eq_some_iff.1 hu).1
  have h1 := (h (j * 3 + i) (by simp; omega)).1
  rw [get_flatK Lse.cells 3 d (j * 3 + i) (by omega), show (j * 3 + i) / 3 = j by omega, show (j * 3 + i) % 3 = i by omega] at h1
  have hx' : d[j]! = x := by
    rw [getElem!_pos d j hj]
    have := (List.getElem?_eq_some_iff.1 hx).2
    simpa using this
  rw [hx'] at h1
  rw [Nat.add_assoc, h1]
  have h2 := (List.getElem?_eq_some_iff.1 hu)
  rw [getElem!_pos (Lse.cells x) i h2.1, h2.2]
  rfl
set_option maxRecDepth 100000 in
theorem ins0_f (w : World) : Calls Tryz.prog 180 #[.slice none 0 0, .int .i64 0, .int .i64 0, .func (.func 108) #[] #[]] w fun e w' => e = .returned (.tuple #[]) ∧ w' = w := by
  go_enter Tryz.func180, Tryz.ntmps180
  go_wp2
  refine wp_loop_once ?_
  go_wp2
  go_end0
  exact ⟨rfl, rfl⟩
set_option maxRecDepth 100000 in
theorem pdq0_f (n : Int) (w : World) : Calls Tryz.prog 165 #[.slice none 0 0, .int .i64 0, .int .i64 0, .int .i64 n, .func (.func 108) #[] #[]] w fun e w' => e = .returned (.tuple #[]) ∧ w' = w := by
  go_enter Tryz.func165, Tryz.ntmps165
  go_wp2
  refine wp_loop_once ?_
  go_wp2_with (go_at_call 180; refine (ins0_f _).mono ?_; rintro e w' ⟨rfl, rfl⟩)
  refine bodyPost_ret (results_none rfl _ _ _) rfl ?_
  exact ⟨rfl, rfl⟩
set_option maxRecDepth 100000 in
theorem sort0_f (w : World) : Calls Tryz.prog 140 #[.slice none 0 0, .func (.func 108) #[] #[]] w fun e w' => e = .returned (.tuple #[]) ∧ w' = w := by
  have hlen := fun w => Tryz.bits_Len 0 w (by omega) (by omega)
  go_enter Tryz.func140, Tryz.ntmps140
  go_wp2_with (first | (go_at_call 166; refine (hlen _).mono ?_; rintro e w' ⟨rfl, rfl⟩) | (go_at_call 165; refine (pdq0_f _ _).mono ?_; rintro e w' ⟨rfl, rfl⟩))
  go_end0
  exact ⟨rfl, rfl⟩
theorem sortL_f {w : World} {base : Nat} {v : Value} {xs : List Lse} (h : w.ownsRow base LseT 3 v xs.length (lses xs)) (hl : xs.length ≤ 2000) (hb : base ≤ w.heap.size) :
    Calls Tryz.prog 140 #[v, .func (.func 108) #[] #[]] w fun e w' => e = .returned (.tuple #[]) ∧ (∃ ys : List Lse, ys.length = xs.length ∧ RdRow w' v 3 Lse.cells ys) ∧ Below base w w' := by
  rcases h.2 with ⟨rfl, h0⟩ | ⟨g, cap, cur, rfl, hbase, hbb, h1, h2, h3, h4⟩
  · refine (sort0_f w).mono ?_
    rintro e w' ⟨rfl, rfl⟩
    exact ⟨rfl, ⟨[], by simp [h0], _, _, rfl, .inl rfl⟩, Below.refl _ _⟩
  · have hg := (Array.getElem?_eq_some_iff.1 hbb).1
    have hH := lse_holds hbb h4
    have eg : ∀ args w, (callFunc 108 args).run Tryz.prog w = .ok (.enter 108 args) w := enters_of Tryz.func108 (by kernel_rfl) rfl
    have hcon := AnyQ.slices_SortFunc Tryz.sortLse 3 Tryz.isAgg148 Tryz.sizeOf148 Lse.cells (fun _ => rfl) (fun x v hv => by simp [Lse.cells] at hv; rcases hv with rfl | rfl | rfl <;> rfl) lsc lsc_swo 108 #[] g 0 cap xs.toArray w eg (all1_lays g 0 _ w) hH hg (by simp; omega)
    change Calls Tryz.prog 140 _ _ _ at hcon
    rw [show xs.toArray.size = xs.length from List.size_toArray] at hcon
    refine Calls.mono hcon ?_
    rintro e w' ⟨rfl, d', n, os, hp, -, rfl⟩
    have hsz : d'.size = xs.toArray.size := hp.1
    have hr := lse_row (cap := cap) (lt_sortWorldK Lse.cells 3 w g 0 n d' os hg) (holdsK_sortWorldK Lse.cells 3 w g 0 n xs.toArray d' os hg hH hsz)
    refine ⟨rfl, ⟨d'.toList, by simpa using hsz, ?_⟩, below_grown (grownBy_sortK _) hbase hb⟩
    have hs2 : d'.size = xs.length := by simpa using hsz
    rw [hs2] at hr
    exact hr
end Go.Proofs.YtbheebpfbabffaaGreat.Wat

namespace Go.Proofs.YtbheebpfbabffaaGreat.Wat
open Go.RowKit Go Go.Lib Mach Go.MapKept

/-- A row of leases, read. -/
def Leases (w : World) (e : Ending) (w' : World) : Prop := ∃ (v : Value) (xs : List Lse), e = .returned v ∧ xs.length ≤ 2000 ∧ RdRow w' v 3 Lse.cells xs ∧ Below w.heap.size w w'
set_option maxRecDepth 100000 in
theorem sorted_f (Bm bm : Nat) (ls : List MapEntry) (hvals : ∀ e ∈ ls, ∃ a b c : Int, e.val = .agg #[.int .i64 a, .int .i64 b, .int .i64 c]) (hl : ls.length ≤ 2000) (w : World) (hBm : Bm < w.heap.size) (hm : w.cell? ⟨Bm, 0, none⟩ = some (.map (some bm))) (hM : MapK w (.int .i64) bm ls) :
    Calls Tryz.prog 106 #[.func (.func 141) #[] #[.pointer (some ⟨Bm, 0, none⟩)], .func (.func 108) #[] #[]] w (Leases w) := by
  have h := collect_f Bm bm ls hvals hl w hBm hm hM
  have HH : Aside _ := h
  clear h hvals hm hM
  go_enter Tryz.func106, Tryz.ntmps106
  go_wp2_with fail
  go_at_call 139
  refine Calls.mono HH.out ?_
  rintro e w1 ⟨v, xs, rfl, h1, h2, h3⟩
  go_wp2_with fail
  go_at_call 140
  refine (sortL_f h2 (by omega) h3.size).mono ?_
  rintro e w2 ⟨rfl, ⟨ys, hy, hr⟩, hk⟩
  go_wp2
  go_ret
  exact ⟨v, ys, rfl, by omega, hr, h3.trans hk⟩
set_option maxRecDepth 100000 in
theorem all_f {w : World} {bb bm : Nat} {ls : List MapEntry} (h : Book w bb bm ls) : Calls Tryz.prog 66 #[Ptr bb] w (Leases w) := by
  have hc := h.1.cell
  go_enter Tryz.func66, Tryz.ntmps66
  go_wp2_with fail
  go_at_call 107
  refine (values_f bm w).mono ?_
  rintro e w1 ⟨rfl, rfl⟩
  go_wp2_with fail
  go_at_call 106
  refine (sorted_f w.heap.size bm ls h.2.2.1 h.2.2.2 _ (by simp) (by rw [alloc_new]; rfl) (h.2.1.alloc _)).mono ?_
  rintro e w2 ⟨v, xs, rfl, h1, h2, h3⟩
  go_wp2
  go_ret
  exact ⟨v, xs, rfl, h1, h2, ((Below.refl _ w).alloc (Nat.le_refl _) _).trans (h3.mono (by simp))⟩

theorem intt_info : (Tryz.prog.info? 3).map (fun i => (i.zero, i.size, i.bytes)) = some (some (.int .i64 0), 1, 8) := by kernel_rfl
/-- A row of n numbers, from block base on. -/
def Ints (w : World) (base : Nat) (v : Value) (n : Nat) : Prop := ∃ xs : List Int, w.ownsRow base 3 1 v n (xs.map (Value.int .i64)) ∧ xs.length = n
theorem Ints.shape {w : World} {base : Nat} {v : Value} {n : Nat} (h : Ints w base v n) : ∃ a c, v = .slice a n c := own_shape h.choose_spec.1

set_option maxHeartbeats 4000000 in
set_option maxRecDepth 100000 in
theorem over_f {w : World} {bb bm : Nat} {ls : List MapEntry} (h : Book w bb bm ls) (now : Int) : Calls Tryz.prog 78 #[Ptr bb, .int .i64 now] w fun e w' => (∃ v n, e = .returned v ∧ n ≤ 2000 ∧ Ints w' w.heap.size v n) ∧ Below w.heap.size w w' := by
  obtain ⟨i0, hi0, hz0, hz1, hz2⟩ := info_parts intt_info
  go_enter Tryz.func78, Tryz.ntmps78
  go_wp2_with fail
  go_at_call 66
  refine (all_f h).mono ?_
  rintro e w1 ⟨v, xs, rfl, hxl, ⟨a, c, rfl, hrd⟩, hb1⟩
  have HR : Aside _ := hrd
  clear hrd
  go_wp2
  go_loopg [5, 7, 11] xs.length (fun kx s5 _ s11 wr => ∃ j m : Nat, j ≤ xs.length ∧ s11 = .int .i64 j ∧ kx = xs.length - j ∧ m ≤ j ∧ Ints wr w1.heap.size s5 m ∧ Below w1.heap.size w1 wr)
  case atStart => exact ⟨0, 0, Nat.zero_le _, rfl, rfl, Nat.le_refl _, ⟨[], World.ownsRow_nil _ _ _ _, rfl⟩, Below.refl _ _⟩
  case round =>
    obtain ⟨j, m, hj, rfl, hkx, hmj, hI, hbr⟩ := hrel
    have hbw := bthen hb1 hbr
    obtain ⟨a5, c5, rfl⟩ := hI.shape
    obtain ⟨is, hown, hil⟩ := hI
    by_cases hjl : j < xs.length
    · obtain hnil | ⟨b, o, ha, hbl, hc⟩ := HR.out
      · rw [hnil] at hjl; exact absurd hjl (Nat.not_lt_zero _)
      subst ha
      obtain ⟨x, hx⟩ : ∃ x, xs[j]? = some x := ⟨_, List.getElem?_eq_getElem hjl⟩
      have hci := fun q u hq => (World.cell?_of_block (w := w1) (hbr.block b hbl)).trans (hc j x hx q u hq)
      obtain ⟨id, ttl, end_⟩ := x
      have f0 : wr.cell? ⟨b, o + j * 3, none⟩ = _ := hci 0 _ rfl
      have f1 := hci 1 _ rfl
      have f2 := hci 2 _ rfl
      clear hci hx hc
      obtain ⟨wq, hwq⟩ : ∃ wq, wq = wr.alloc (.cells #[.int .i64 id, .int .i64 ttl, .int .i64 end_] LseT) := ⟨_, rfl⟩
      have hbq : Below w1.heap.size w1 wq := by rw [hwq]; exact bmore hbr _
      have hbqw := bthen hb1 hbq
      have hqs : wq.heap.size = wr.heap.size + 1 := by rw [hwq]; simp
      have hoq : wq.ownsRow w1.heap.size 3 1 (.slice a5 m c5) m (is.map (Value.int .i64)) := own_below hown (by rw [hwq]; exact (Below.refl _ _).alloc (Nat.le_refl _) _)
      have hnext : ∀ (v' : Value) (m' : Nat) (w5 : World), Ints w5 w1.heap.size v' m' → m' ≤ m + 1 → Below w1.heap.size w1 w5 → ∃ j2 m2 : Nat, j2 ≤ xs.length ∧ Value.int .i64 ((j : Int) + 1) = .int .i64 j2 ∧ xs.length - (j + 1) = xs.length - j2 ∧ m2 ≤ j2 ∧ Ints w5 w1.heap.size v' m2 ∧ Below w1.heap.size w1 w5 := fun v' m' w5 h1 h2 h3 => ⟨j + 1, m', by omega, by simp, rfl, by omega, h1, h3⟩
      cases hle : decide (end_ ≤ now) with
      | false =>
        go_wp2
        go_roundg (xs.length - (j + 1))
        case measure => omega
        case rel => rw [← hwq]; exact hnext _ m _ ⟨is, hoq, hil⟩ (Nat.le_succ _) hbq
      | true =>
        have hrc : ∀ o : Obj, (wq.alloc o).ownsRow w1.heap.size 3 1 (.slice a5 m c5) m (is.map (Value.int .i64)) := fun o => own_below hoq ((Below.refl _ _).alloc (Nat.le_refl _) _)
        have hH : ∀ o : Obj, (wq.alloc o).heap.size = wq.heap.size + 1 := fun o => by simp
        have hmx : m + 1 ≤ maxLen := by unfold maxLen; omega
        have hkk : (m + 1) * 8 ≤ 140737488355328 := by omega
        have hnw : ∀ (cs : Array Value) (j : Nat), ((wq.alloc (.cells cs 3)).cell? ⟨wr.heap.size + 1, j, none⟩) = cs[j]? := fun cs j => by
          have := alloc_new wq cs 3 j
          rwa [hqs] at this
        have hfin : ∀ (g' cap' : Nat) (w5 : World) (o : Obj), w5.ownsRow w1.heap.size 3 1 (.slice (some ⟨g', 0, none⟩) (m + 1) cap') (m + 1) (is.map (Value.int .i64) ++ [.int .i64 id]) → (wq.alloc o).grownBy w5 (Value.ownBlock (.slice a5 m c5)) → Ints w5 w1.heap.size (.slice (some ⟨g', 0, none⟩) (m + 1) cap') (m + 1) ∧ Below w1.heap.size w1 w5 := fun g' cap' w5 o h1 h2 => by
          have hO : Only (fun y => Value.ownBlock (.slice a5 m c5) = some y) wq w5 := only_grown ((Only.refl _ wq).alloc o) h2 (fun y hy _ => hy)
          exact ⟨⟨is ++ [id], by simpa using h1, by simp [hil]⟩, hbq.trans (hO.below _ hbq.size (fun k hk e => by have := (own_lt hoq k (by simpa [blk] using e)).1; omega))⟩
        have hsz0 := hbq.size
        clear hown hbr hbw hbq hbqw hoq hil
        subst hwq
        go_wp2_with (at_builtin; refine wpList_append_lies _ rfl _ _ 23 rfl w1.heap.size 3 i0 (.int .i64 0) 1 8 Tryz.underlying23 hi0 hz0 hz1 hz2 rfl (by decide) (.slice a5 m c5) m (is.map (Value.int .i64)) rfl (hrc _) ⟨wr.heap.size + 1, 0, none⟩ 1 1 [.int .i64 id] rfl rfl (fun j u hj => by rw [Addr.add_lit, Nat.zero_add]; exact (hnw _ j).trans (by simpa using hj)) (by intro u hu; simp at hu; rcases hu with rfl; rfl) (by decide) hmx hkk (by rw [hH]; omega) (wr.heap.size + 1 + 1) (by simp) (fun g' cap' w4 hown' hgb hat hgl => ?_))
        go_roundg (xs.length - (j + 1))
        case measure => omega
        case rel =>
          obtain ⟨q1, q2⟩ := hfin _ _ _ _ hown' hgb
          exact hnext _ _ _ q1 (Nat.le_refl _) q2
    · go_wp2
      go_ret
      exact ⟨⟨_, m, rfl, by omega, is, own_base hown hb1.size, hil⟩, hbw⟩
end Go.Proofs.YtbheebpfbabffaaGreat.Wat

