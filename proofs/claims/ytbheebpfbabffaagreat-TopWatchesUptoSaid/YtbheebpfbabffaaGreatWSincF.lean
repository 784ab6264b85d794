/- The store's Since. -/
import Derived.Test.YtbheebpfbabffaaGreatVL
set_option linter.unusedSimpArgs false
set_option linter.unusedVariables false
namespace Go.Proofs.YtbheebpfbabffaaGreat.Wat
open Go.RowKit Go Go.Lib Mach Go.MapKept

/-- A row of events, from block base on. -/
def Evs (w : World) (base : Nat) (v : Value) (l : List Ver) : Prop := w.ownsRow base EvT 8 v l.length (evs l)
theorem Evs.shape {w : World} {base : Nat} {v : Value} {l : List Ver} (h : Evs w base v l) : ∃ a c, v = .slice a l.length c := by
  rcases h.2 with ⟨rfl, h0⟩ | ⟨g, cap, cur, rfl, -⟩
  · exact ⟨_, _, by rw [h0]⟩
  · exact ⟨_, _, rfl⟩
/-- Since's place: changes ahead of it are older. -/
def At (chs : List Ver) (r : Int) (k : Nat) : Prop := k ≤ chs.length ∧ (∀ p ∈ chs.take k, p.1 < r) ∧ ∀ p ∈ chs.drop k, r ≤ p.1

theorem own_base {w : World} {base b2 : Nat} {e : TypeId} {size n : Nat} {v : Value} {xs : List Value} (h : w.ownsRow base e size v n xs) (hb : b2 ≤ base) : w.ownsRow b2 e size v n xs := by
  refine ⟨h.1, ?_⟩
  rcases h.2 with h | ⟨g', cap, cur, hv, hb', hh, hn, hc, hs, ht⟩
  · exact .inl h
  · exact .inr ⟨g', cap, cur, hv, Nat.le_trans hb hb', hh, hn, hc, hs, ht⟩

set_option maxHeartbeats 8000000 in
set_option maxRecDepth 100000 in
theorem since_f {w : World} {sb rev C : Nat} {op : Value} {chs : List Ver} {Ks : List Value} {S : List Nat} (h : St w sb op rev C chs Ks S) (hC : C ≤ 1000000) (hso : chs.Pairwise (fun a b => a.1 ≤ b.1)) (r : Int) (hr : 1 ≤ r) :
    Calls Tryz.prog 15 #[Ptr sb, .int .i64 r] w fun e w' => (∃ v k, e = .returned (.tuple #[v, .int .i64 0]) ∧ At chs r k ∧ Evs w' w.heap.size v (chs.drop k)) ∧ Below w.heap.size w w' := by
  obtain ⟨live, xi, vb, cv, SX, es, hs, -, -, -, hch, -, hcl, -⟩ := h
  have eg := eg_since
  have hmono : ∀ i j, i ≤ j → j < chs.length → decide (r ≤ (chs.getD i (0, .del ⟨#[]⟩)).1) = true → decide (r ≤ (chs.getD j (0, .del ⟨#[]⟩)).1) = true := fun i j hij hj h => by
    have hi : i < chs.length := by omega
    simp only [List.getD_eq_getElem?_getD, List.getElem?_eq_getElem hj, List.getElem?_eq_getElem hi, Option.getD_some, decide_eq_true_eq] at h ⊢
    rcases Nat.eq_or_lt_of_le hij with rfl | hlt
    · exact h
    · exact Int.le_trans h (List.pairwise_iff_getElem.1 hso i j hi hj hlt)
  obtain ⟨wa, hwa⟩ : ∃ wa, wa = (w.alloc (.cells #[Ptr sb] 29)).alloc (.cells #[.int .i64 r] 3) := ⟨_, rfl⟩
  have hb0 : Below w.heap.size w wa := by rw [hwa]; exact bmore (bmore (Below.refl _ _) _) _
  have hA : Blk wa w.heap.size #[Ptr sb] := by rw [hwa]; exact (Blk.new w _ _).alloc _
  have hB : Blk wa (w.heap.size + 1) #[.int .i64 r] := by rw [hwa]; exact Blk.newAt (by simp)
  have hs1 := hs.keep hb0
  have hc1 := own_below hch hb0
  have hsz : wa.heap.size = w.heap.size + 2 := by rw [hwa]; simp
  go_enter Tryz.func15, Tryz.ntmps15
  go_wp2_with fail
  rw [← hwa]
  clear hwa hs hch
  have q1 : ∀ o, wa.drew.cell? ⟨w.heap.size, o, none⟩ = _ := hA.cell
  have q2 : ∀ o, wa.drew.cell? ⟨w.heap.size + 1, o, none⟩ = _ := hB.cell
  have q3 : ∀ o, wa.drew.cell? ⟨sb, o, none⟩ = _ := hs1.cell
  have q4 := hA.cell
  have q5 := hB.cell
  have q6 := hs1.cell
  go_region
  have hr0 : ¬ r ≤ 0 := by omega
  rcases own_open hc1 with ⟨rfl, hn0, hx0⟩ | ⟨g, cap, rfl, -, hgl, hcap, hcell⟩
  · go_wp2_with fail
    go_at_call 36
    refine (search_safe 37 _ 0 (fun w1 => Below wa.heap.size wa w1) wa.drew eg (by omega) (Below.refl _ _).drew (fun _ i _ h => absurd h (Nat.not_lt_zero i))).mono ?_
    rintro e w1 ⟨k, hk, rfl, hI⟩
    obtain rfl : k = 0 := by omega
    have z1 := (hA.keep hI).cell
    have z3 := (hs1.keep hI).cell
    clear q1 q2 q3 q4 q5 q6
    go_wp2
    refine wp_loop_rounds 1 ?_
    rw [rounds_succ]
    go_wp2
    have hnil : chs = [] := List.length_eq_zero_iff.1 hn0
    subst hnil
    exact bodyPost_ret (v := .tuple #[.slice none 0 0, .int .i64 0]) (by simp [results, Tryz.results15, go_sem]) rfl ⟨⟨_, 0, rfl, ⟨Nat.le_refl _, fun p h => absurd h List.not_mem_nil, fun p h => absurd h List.not_mem_nil⟩, World.ownsRow_nil _ _ _ _⟩, bthen hb0 hI⟩
  · go_wp2_with fail
    go_at_call 36
    have at_it : ∀ w1 j, Below wa.heap.size wa w1 → j < chs.length → ∃ p : Ver, chs[j]? = some p ∧ w1.cell? ⟨g, j * 2, none⟩ = some (.int .i64 p.1) ∧ w1.cell? ⟨g, j * 2 + 1, none⟩ = some p.2.val := fun w1 j h hj => by
      have hp : chs[j]? = some chs[j] := List.getElem?_eq_getElem hj
      obtain ⟨h1, h2⟩ := vers_get hp
      rw [Nat.mul_comm] at h1 h2
      exact ⟨_, hp, (keep0 h hgl _).trans (hcell _ _ h1), (keep0 h hgl _).trans (hcell _ _ h2)⟩
    refine (search_exact 37 _ chs.length (fun i => decide (r ≤ (chs.getD i (0, .del ⟨#[]⟩)).1)) hmono (fun w1 => Below wa.heap.size wa w1) wa.drew eg (by omega) (Below.refl _ _).drew (fun w1 j h hj => ?_)).mono ?_
    · obtain ⟨p, hp, h1, -⟩ := at_it w1 j h hj
      have hg : (chs.getD j (0, .del ⟨#[]⟩)).1 = p.1 := by simp [List.getD_eq_getElem?_getD, hp]
      rw [hg]
      exact (since_closure w.heap.size (w.heap.size + 1) sb g j chs.length cap _ _ _ _ _ _ p.1 r w1 ((hA.keep h).cell 0) (hs1.keep h) ((hB.keep h).cell 0) hj h1).mono fun _ _ ⟨hx, hy⟩ => ⟨hx, bthen h hy⟩
    rintro e w1 ⟨k, hk, rfl, hI, hlo, hhi⟩
    have z1 := (hA.keep hI).cell
    have z3 := (hs1.keep hI).cell
    clear q1 q2 q3 q4 q5 q6
    have hAt : At chs r k := by
      refine ⟨hk, fun p hp => ?_, fun p hp => ?_⟩
      · obtain ⟨i, hi, rfl⟩ := List.getElem_of_mem hp
        have hi2 : i < k := by simp at hi; omega
        have := hlo i hi2
        simp [List.getD_eq_getElem?_getD, show i < chs.length by omega] at this
        simpa using this
      · obtain ⟨i, hi, rfl⟩ := List.getElem_of_mem hp
        have hi2 : k + i < chs.length := by simp at hi; omega
        have := hhi (k + i) (by omega) hi2
        simp [List.getD_eq_getElem?_getD, hi2] at this
        simpa using this
    clear hlo hhi hmono
    have hdl : (chs.drop k).length = chs.length - k := by simp
    go_wp2
    · have hz : chs.length - k = 0 := by omega
      refine wp_loop_rounds 1 ?_
      rw [rounds_succ]
      go_wp2
      have hd : chs.drop k = [] := List.length_eq_zero_iff.1 (by omega)
      refine bodyPost_ret (v := .tuple #[.slice none 0 0, .int .i64 0]) (by simp [results, Tryz.results15, go_sem]) rfl ⟨⟨_, k, rfl, hAt, ?_⟩, bthen hb0 hI⟩
      rw [hd]
      exact World.ownsRow_nil _ _ _ _
    · obtain ⟨m, hm⟩ : ∃ m, m = chs.length - k := ⟨_, rfl⟩
      rw [← hm] at hdl ⊢
      have hmk : m + k ≤ chs.length := by omega
      have HD : Aside _ := hdl
      clear hm hdl
      obtain ⟨i0, hi0, hz0, hz1, hz2⟩ := info_parts ev_info
      go_loopg [7, 9, 34] m (fun kx s7 _ s34 wq => ∃ j : Nat, s34 = .int .i64 j ∧ j ≤ m ∧ kx = m - j ∧ Below wa.heap.size wa wq ∧ wq.ownsRow wa.heap.size EvT 8 s7 j (evs ((chs.drop k).take j)))
      case atStart => exact ⟨0, rfl, Nat.zero_le _, rfl, hI, by simpa [evs] using World.ownsRow_nil _ _ _ _⟩
      case round =>
      obtain ⟨j, rfl, hj, hkx, hbr, ho⟩ := hrel
      by_cases hjm : j = m
      · subst hjm
        have ho2 := ho
        rw [show (chs.drop k).take j = chs.drop k by rw [← HD.out]; exact List.take_length] at ho2
        go_wp2
        refine bodyPost_ret (by simp [results, Tryz.results15, go_sem]; rfl) rfl ⟨⟨_, k, rfl, hAt, ?_⟩, bthen hb0 hbr⟩
        unfold Evs
        rw [HD.out]
        exact own_base ho2 (by omega)
      obtain ⟨p, hp, hc0, hc1⟩ := at_it wr (k + j) hbr (by omega)
      rw [Nat.add_mul] at hc0 hc1
      have hjl : j < m := by omega
      have htk : (chs.drop k).take (j + 1) = (chs.drop k).take j ++ [p] := by
        rw [List.take_add_one, List.getElem?_drop, hp]
        rfl
      clear at_it
      obtain ⟨pr, pc⟩ := p
      have hcall := event_f pr pc
      cases pc with
      | put x =>
        unfold Chg.val KVr.agg at hc1 hcall
        go_wp2_with fail
        go_at_call 38
        refine (hcall _).mono ?_
        rintro e w3 ⟨rfl, hb3⟩
        have hBr3 := bthen (bmore hbr _) hb3
        have ho3 := own_below (own_alloc ho _) hb3
        have hrc : ∀ o : Obj, (w3.alloc o).ownsRow wa.heap.size EvT 8 u7 j (evs ((chs.drop k).take j)) := fun o => own_alloc ho3 o
        have hH : ∀ o : Obj, (w3.alloc o).heap.size = w3.heap.size + 1 := fun o => by simp
        have hmx : j + 1 ≤ maxLen := by unfold maxLen; omega
        have hkk : (j + 1) * 80 ≤ 140737488355328 := by omega
        have hbase : wa.heap.size ≤ w3.heap.size := hBr3.size
        unfold evc
        go_wp2_with (at_builtin; refine wpList_append_lies _ rfl _ _ 34 rfl wa.heap.size EvT i0 (.agg #[.int .i64 0, .bool false, .string ⟨#[]⟩, .string ⟨#[]⟩, .int .i64 0, .int .i64 0, .int .i64 0, .int .i64 0]) 8 80 Tryz.underlying34 hi0 hz0 hz1 hz2 rfl (by decide) u7 j (evs ((chs.drop k).take j)) rfl (hrc _) ⟨w3.heap.size, 0, none⟩ 1 1 (evc (pr, .put x)) rfl rfl (fun j u hj => by rw [Addr.add_lit, Nat.zero_add]; exact (alloc_new w3 _ _ j).trans (by simpa [evc] using hj)) (by intro u hu; simp [evc] at hu; rcases hu with rfl | rfl | rfl | rfl | rfl | rfl | rfl | rfl <;> rfl) (by decide) hmx hkk (by rw [hH]; omega) (w3.heap.size + 1) (by simp) (fun g' cap' w4 hown' hgb hat hgl => ?_))
        go_roundg (m - (j + 1))
        case measure => omega
        case rel =>
          have hO : Only (fun y => u7.ownBlock = some y) w3 w4 := only_grown ((Only.refl _ w3).alloc _) hgb (fun y hy _ => hy)
          have hlw : ∀ y, u7.ownBlock = some y → wa.heap.size ≤ y := fun y hy => (own_lt ho y (by simpa [blk] using hy)).1
          refine ⟨j + 1, by simp, by omega, rfl, belowNN hBr3 (hO.below _ hBr3.size (fun q hq e => by have := hlw q e; omega)), ?_⟩
          rw [htk, evs_append]
          simpa [evs] using hown'
      | del k' =>
        unfold Chg.val at hc1 hcall
        go_wp2_with fail
        go_at_call 38
        refine (hcall _).mono ?_
        rintro e w3 ⟨rfl, hb3⟩
        have hBr3 := bthen (bmore hbr _) hb3
        have ho3 := own_below (own_alloc ho _) hb3
        have hrc : ∀ o : Obj, (w3.alloc o).ownsRow wa.heap.size EvT 8 u7 j (evs ((chs.drop k).take j)) := fun o => own_alloc ho3 o
        have hH : ∀ o : Obj, (w3.alloc o).heap.size = w3.heap.size + 1 := fun o => by simp
        have hmx : j + 1 ≤ maxLen := by unfold maxLen; omega
        have hkk : (j + 1) * 80 ≤ 140737488355328 := by omega
        have hbase : wa.heap.size ≤ w3.heap.size := hBr3.size
        unfold evc
        go_wp2_with (at_builtin; refine wpList_append_lies _ rfl _ _ 34 rfl wa.heap.size EvT i0 (.agg #[.int .i64 0, .bool false, .string ⟨#[]⟩, .string ⟨#[]⟩, .int .i64 0, .int .i64 0, .int .i64 0, .int .i64 0]) 8 80 Tryz.underlying34 hi0 hz0 hz1 hz2 rfl (by decide) u7 j (evs ((chs.drop k).take j)) rfl (hrc _) ⟨w3.heap.size, 0, none⟩ 1 1 (evc (pr, .del k')) rfl rfl (fun j u hj => by rw [Addr.add_lit, Nat.zero_add]; exact (alloc_new w3 _ _ j).trans (by simpa [evc] using hj)) (by intro u hu; simp [evc] at hu; rcases hu with rfl | rfl | rfl | rfl | rfl | rfl | rfl | rfl <;> rfl) (by decide) hmx hkk (by rw [hH]; omega) (w3.heap.size + 1) (by simp) (fun g' cap' w4 hown' hgb hat hgl => ?_))
        go_roundg (m - (j + 1))
        case measure => omega
        case rel =>
          have hO : Only (fun y => u7.ownBlock = some y) w3 w4 := only_grown ((Only.refl _ w3).alloc _) hgb (fun y hy _ => hy)
          have hlw : ∀ y, u7.ownBlock = some y → wa.heap.size ≤ y := fun y hy => (own_lt ho y (by simpa [blk] using hy)).1
          refine ⟨j + 1, by simp, by omega, rfl, belowNN hBr3 (hO.below _ hBr3.size (fun q hq e => by have := hlw q e; omega)), ?_⟩
          rw [htk, evs_append]
          simpa [evs] using hown'
end Go.Proofs.YtbheebpfbabffaaGreat.Wat

