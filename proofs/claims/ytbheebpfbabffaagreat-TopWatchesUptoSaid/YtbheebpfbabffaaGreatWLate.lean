/- watch: late: a poll of one that is behind. -/
import Derived.Test.YtbheebpfbabffaaGreatVQ
set_option linter.unusedSimpArgs false
set_option linter.unusedVariables false
namespace Go.Proofs.YtbheebpfbabffaaGreat.Wat
open Go.RowKit Go Go.Lib Mach Go.MapKept

theorem EvR.only {G : Nat → Prop} {w w' : World} {v : Value} {l : List Ver} (h : EvR w v l) (k : Only G w w') (hG : ∀ y ∈ blk v, ¬ G y) : EvR w' v l := by
  obtain ⟨a, c, hv, h⟩ := h
  refine ⟨a, c, hv, h.imp id ?_⟩
  rintro ⟨g, o, ha, hg, hc⟩
  have hgG : ¬ G g := hG g (by rw [hv, ha]; simp [blk, Value.ownBlock])
  exact ⟨g, o, ha, Nat.lt_of_lt_of_le hg k.size, fun j u hj => (World.cell?_of_block (w := w) (k.block g hg hgG)).trans (hc j u hj)⟩
theorem comp_c (sb : Nat) (v : Value) (w : World) (h : w.cell? ⟨sb, 1, none⟩ = some v) : Calls Tryz.prog 83 #[Ptr sb] w fun e w' => e = .returned v ∧ w = w' := by
  go_enter Tryz.func83, Tryz.ntmps83
  go_wp2
  go_ret
  exact ⟨rfl, rfl⟩
theorem St.comp_cell {w : World} {sb : Nat} {op : Value} {rev C : Nat} {chs : List Ver} {Ks : List Value} {S : List Nat} (h : St w sb op rev C chs Ks S) : w.cell? ⟨sb, 1, none⟩ = some (.int .i64 0) := by
  obtain ⟨_, _, _, _, _, _, hs, _⟩ := h
  exact (hs.cell 1).trans rfl
/-- What late tells, and makes of a watcher. -/
def LateR (chs : List Ver) (rev pl : Nat) (out : List Ver) (pl' : Nat) (mo' : Mo) : Prop :=
  ∃ k, At chs pl k ∧ ((∃ n x, 0 < n ∧ n < (chs.drop k).length ∧ Bd (chs.drop k) n ∧ (chs.drop k)[n - 1]? = some x ∧ out = (chs.drop k).take n ∧ (pl' : Int) = x.1 + 1 ∧ mo' = .behind) ∨ (out = chs.drop k ∧ pl' = max pl (rev + 1) ∧ mo' = .hears []))
def LatePost (chs : List Ver) (rev : Nat) (hb hm wb sb : Nat) (id : Int) (pl : Nat) (B : List Nat) (w : World) (e : Ending) (w' : World) : Prop :=
  ∃ v' out pl' mo' B', e = .returned (.tuple #[v', .int .i64 0]) ∧ LateR chs rev pl out pl' mo' ∧ (EvR w' v' out ∧ ∀ y ∈ blk v', w.heap.size ≤ y) ∧ Hb w' hb hm wb sb id pl' mo' B' ∧ Grow w B B' ∧ Only (fun y => y = wb) w w'

attribute [local irreducible] wpStill in
set_option maxHeartbeats 8000000 in
set_option maxRecDepth 100000 in
theorem late_f {w : World} {rev C : Nat} {op : Value} {chs : List Ver} {Ks : List Value} {S : List Nat} {hb hm wb sb : Nat} {id : Int} {pl : Nat} {B : List Nat} (h : Hb w hb hm wb sb id pl .behind B)
    (hs : St w sb op rev C chs Ks S) (hC : C ≤ 1000000) (hso : chs.Pairwise (fun a b => a.1 ≤ b.1)) (hrv : ∀ p ∈ chs, p.1 ≤ rev) (hrev : rev ≤ 1000000) (hpl : 1 ≤ pl) (hpl2 : pl ≤ 3000000) (hwS : ∀ y ∈ S, y ≠ wb) (most : Int) :
    Calls Tryz.prog 41 #[Ptr hb, .int .i64 id, Ptr wb, .int .i64 most] w (LatePost chs rev hb hm wb sb id pl B w) := by
  obtain ⟨md, bl, hW, ⟨rfl, rfl⟩, hBl⟩ := h.wat
  obtain ⟨c0, hM⟩ := h.map
  have hHl := h.lt
  have hnd := h.nd
  have hwbl := hW.lt
  have hnod : B.Nodup := List.nodup_iff_count.2 hnd
  rw [hBl] at hnod
  simp at hnod
  have hdr : Below w.heap.size w w.drew := (Below.refl _ _).drew
  have q1 : ∀ o, w.drew.cell? ⟨hb, o, none⟩ = _ := h.hub.cell
  have q2 : ∀ o, w.drew.cell? ⟨wb, o, none⟩ = _ := hW.cell
  have hcc : w.drew.cell? ⟨sb, 1, none⟩ = _ := hs.comp_cell
  have hchg := changes_f (hs.keep hdr) hC hso hrv (hW.keep hdr) hpl
  have hcl : chs.length ≤ C := by
    obtain ⟨_, _, _, _, _, _, -, -, -, -, -, -, hcl, -⟩ := hs
    exact hcl
  go_enter Tryz.func41, Tryz.ntmps41
  go_wp2_with fail
  go_still_tail 9, (by kernel_rfl)
  repeat still_step
  still_call (still_of (comp_c _ _ _ hcc))
  repeat still_step
  refine wpStill_nil ?_
  change wpList _ _ _ _ _ w.drew
  have hpl0 : ¬ (pl : Int) ≤ 0 := by omega
  go_wp2_with fail
  go_at_call 39
  refine hchg.mono ?_
  rintro e w4 ⟨v4, k, rfl, hAt, hE4, hb4⟩
  have hnl : (chs.drop k).length ≤ 1000000 := by simp; omega
  have hmem : ∀ p ∈ chs.drop k, p.1 ≤ rev ∧ (pl : Int) ≤ p.1 := fun p hp => ⟨hrv p (List.mem_of_mem_drop hp), hAt.2.2 p hp⟩
  have HM : Aside _ := hmem
  clear hmem
  have hb4w : Below w.heap.size w w4 := hdr.trans (hb4.mono hdr.size)
  have hsm := some_f hE4 hnl most
  have hE4lt := hE4.lt
  clear hchg q1 q2 hcc
  go_wp2_with fail
  go_at_call 84
  refine hsm.mono ?_
  rintro e w5 ⟨⟨a, n, c, rfl, hn, hBd, hnp, hR, hbk⟩, hb5⟩
  have hb5w : Below w.heap.size w w5 := hb4w.trans (hb5.mono hb4w.size)
  have hR5 := hR.keep hb5
  have hW5 := hW.keep hb5w
  have cW := hW5.cell
  have fW := hW5.frz
  by_cases hmore : n < (chs.drop k).length
  · have hdt : decide ((n : Int) < ((chs.drop k).length : Int)) = true := by simp at hmore ⊢; omega
    rw [hdt]
    clear hdt
    have hne : chs.drop k ≠ [] := fun e => by rw [e] at hmore; exact absurd hmore (Nat.not_lt_zero _)
    have hn0 := hnp hne
    obtain ⟨m, rfl⟩ : ∃ m, n = m + 1 := ⟨n - 1, by omega⟩
    obtain ⟨x, hx⟩ : ∃ x, (chs.drop k)[m]? = some x := ⟨_, List.getElem?_eq_getElem (by omega)⟩
    have hxb := HM.out x (List.mem_of_getElem? hx)
    have hR6 := hR5
    obtain ⟨a', c', heq, hor⟩ := hR5
    injection heq with e1 e2 e3
    subst e1 e3
    obtain hnil | ⟨g, o, rfl, hg, hcell⟩ := hor
    · exact absurd hnil (fun e => by have h1 := congrArg List.length e; rw [List.length_take, List.length_nil] at h1; omega)
    have hxc : w5.cell? ⟨g, o + m * 8, none⟩ = some (.int .i64 x.1) := by
      have h0 : ((chs.drop k).take (m + 1))[m]? = some x := by rw [List.getElem?_take, if_pos (Nat.lt_succ_self _)]; exact hx
      have h1 := evs_get h0 0 (by omega)
      obtain ⟨dl, vv, a, b, c, d, hev⟩ := evc_form x
      rw [hev, Nat.mul_comm, Nat.add_zero] at h1
      exact hcell _ _ h1
    have hlate : ∀ pl' : Nat, (pl' : Int) = x.1 + 1 → LateR chs rev pl ((chs.drop k).take (m + 1)) pl' .behind := fun pl' hp => ⟨k, hAt, .inl ⟨m + 1, x, by omega, hmore, hBd, by simpa using hx, rfl, hp, rfl⟩⟩
    generalize x.1 = r at hxc hxb hlate
    clear hcell hR e2 hx
    have hr1 : 1 ≤ r := by omega
    have hr2 : r ≤ 1000000 := by omega
    have hi1 : (m : Int) < ((m + 1 : Nat) : Int) := by omega
    go_wp2
    have hO5 : Only (fun y => y = wb) w5 (w5.setCell ⟨wb, 2, none⟩ (.int .i64 (r + 1))) := (Only.refl (fun y => y = wb) w5).set ⟨wb, 2, none⟩ (fun _ => rfl) _
    have hW6 := hW5.setCell 2 (.int .i64 (r + 1))
    have hOw := (Only.of_below (F := fun y => y = wb) hb5w).trans hO5 (fun _ _ h => h)
    have hpe : ((r.toNat + 1 : Nat) : Int) = r + 1 := by omega
    refine bodyPost_ret (v := .tuple #[.slice (some ⟨g, o, none⟩) (m + 1) c, .int .i64 0]) (by simp [results, Tryz.results41, go_sem]) rfl ⟨_, _, r.toNat + 1, .behind, B, rfl, hlate _ hpe, ⟨hR6.only hO5 (fun y hy e => ?_), fun y hy => by rw [hbk] at hy; exact (hE4lt y hy).1⟩, ⟨h.hub.only hOw (by omega), ⟨c0, hM.only hOw (by omega)⟩, ⟨_, [], ?_, ⟨rfl, rfl⟩, hBl⟩, hnd⟩, ⟨fun _ _ => Nat.le_refl _, fun a _ => hnd a⟩, hOw⟩
    · rw [hbk] at hy
      have := (hE4lt y hy).1
      have hd : w.drew.heap.size = w.heap.size := rfl
      omega
    · unfold Wa
      rw [hpe]
      simpa using hW6
  · obtain rfl : n = (chs.drop k).length := by omega
    have hdt : decide (((chs.drop k).length : Int) < ((chs.drop k).length : Int)) = false := by simp
    rw [hdt]
    clear hdt
    rw [List.take_length] at hR5
    have hs5 := hs.keep (hb5w.drew)
    have r1 : ∀ o, w5.drew.cell? ⟨hb, o, none⟩ = _ := (h.hub.keep hb5w).cell
    have r2 : ∀ o, w5.drew.cell? ⟨wb, o, none⟩ = _ := hW5.cell
    have r3 : ∀ o, w5.drew.frozen? ⟨wb, o, none⟩ = false := hW5.frz
    have hr5 := hs5.rev_cell
    have hwr : IntKind.i64.wrap ((rev : Int) + 1) = (rev : Int) + 1 := by rw [IntKind.wrap_i64]; omega
    go_wp2_with fail
    go_still_tail 12, (by kernel_rfl)
    repeat still_step
    still_call (still_of (rev_c _ _ _ hr5))
    repeat still_step
    refine wpStill_nil ?_
    change wpList _ _ _ _ _ w5.drew
    go_wp2
    have hmxx : max (pl : Int) ((rev : Int) + 1) = ((max pl (rev + 1) : Nat) : Int) := by omega
    rw [hmxx]
    have hO5 : Only (fun y => y = wb) w5 ((w5.setCell ⟨wb, 2, none⟩ (.int .i64 ((max pl (rev + 1) : Nat) : Int))).setCell ⟨wb, 3, none⟩ (.iface 113 (.agg #[.slice none 0 0]))).drew := (((Only.refl (fun y => y = wb) w5).set ⟨wb, 2, none⟩ (fun _ => rfl) _).set ⟨wb, 3, none⟩ (fun _ => rfl) _).trans (Only.of_below (F := fun y => y = wb) (Below.refl _ _).drew) (fun _ _ h => h)
    have hW6 := ((hW5.setCell 2 (.int .i64 ((max pl (rev + 1) : Nat) : Int))).setCell 3 (.iface 113 (.agg #[.slice none 0 0]))).drew
    have hOw := (Only.of_below (F := fun y => y = wb) hb5w).trans hO5 (fun _ _ h => h)
    have hle : (chs.drop k).length = chs.length - k := by simp
    rw [← hle]
    refine bodyPost_ret (v := .tuple #[.slice a (chs.drop k).length c, .int .i64 0]) (by simp [results, Tryz.results41, go_sem]) rfl ⟨_, chs.drop k, max pl (rev + 1), .hears [], B, rfl, ⟨k, hAt, .inr ⟨rfl, rfl, rfl⟩⟩, ⟨hR5.only hO5 (fun y hy e => ?_), fun y hy => by rw [hbk] at hy; exact (hE4lt y hy).1⟩, ⟨h.hub.only hOw (by omega), ⟨c0, hM.only hOw (by omega)⟩, ⟨_, [], ?_, ⟨_, rfl, Evs.nil _ _, Nat.zero_le _, rfl⟩, hBl⟩, hnd⟩, ⟨fun _ _ => Nat.le_refl _, fun a _ => hnd a⟩, hOw⟩
    · rw [hbk] at hy
      have := (hE4lt y hy).1
      have hd : w.drew.heap.size = w.heap.size := rfl
      omega
    · unfold Wa
      simpa using hW6
end Go.Proofs.YtbheebpfbabffaaGreat.Wat

