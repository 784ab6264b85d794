/- Joined: a part of the proof of TopWatches. -/
import Derived.Lib.AppendZerosOnto
import Derived.Test.YtbheebpfbabffaaGreatWDo
import Derived.Test.YtbheebpfbabffaaGreatVM
set_option linter.unusedSimpArgs false
set_option linter.unusedVariables false
namespace Go.Proofs.YtbheebpfbabffaaGreat.Wat
open Go.RowKit Go Go.Lib Mach Go.MapKept

theorem Upd.same {l l' : List MapEntry} {key v : Value} (h : Upd l key v l') (hk : ∃ e ∈ l, e.key = key) : l'.length = l.length := by
  rcases h with ⟨hno, -⟩ | ⟨l1, x, l2, rfl, -, rfl⟩
  · obtain ⟨e, he, hk⟩ := hk
    exact absurd hk (hno e he)
  · simp
theorem book_look2 {w : World} {bb bm : Nat} {ls : List MapEntry} (h : Book w bb bm ls) (id : Int) : ∃ (a b c : Int) (is : Bool), (∀ w, MapK w (.int .i64) bm ls → (Instr.lookup 159 (.map (some bm)) (.int .i64 id) true).run Tryz.prog w = .ok (.tuple #[.agg #[.int .i64 a, .int .i64 b, .int .i64 c], .bool is]) w) ∧
    (is = true → ∃ e ∈ ls, e.key = .int .i64 id) := by
  rcases look_map Tryz.underlying159 Tryz.underlying3 zero_lease (key := .int .i64 id) (l := ls) (b := bm) rfl h.2.1.key with ⟨hno, hl⟩ | ⟨e, he, hk, hl⟩
  · exact ⟨0, 0, 0, false, fun w h => hl w true h, fun h => by cases h⟩
  · obtain ⟨a, b, c, hv⟩ := h.2.2.1 e he
    exact ⟨a, b, c, true, fun w h => by rw [← hv]; exact hl w true h, fun _ => ⟨e, he, hk⟩⟩
/-- What becomes of a book. -/
def BookPost (w : World) (bb bm : Nat) (w' : World) : Prop := Only (fun y => y = bm) w w' ∧ ∃ ls', Book w' bb bm ls'
theorem Book.ne {w : World} {bb bm : Nat} {ls : List MapEntry} (h : Book w bb bm ls) : bb ≠ bm := fun e => by
  obtain ⟨t, h1⟩ := h.1
  obtain ⟨c, h2, -⟩ := h.2.1
  rw [e, h2] at h1
  cases h1
theorem BookPost.still {w w' : World} {bb bm : Nat} {ls : List MapEntry} (h : Book w bb bm ls) (k : Below w.heap.size w w') : BookPost w bb bm w' := ⟨Only.of_below k, ls, h.keep k⟩
theorem book_upd {w w1 : World} {bb bm : Nat} {ls l' : List MapEntry} {key : Value} {a b c : Int} {q : Nat} (h : Book w bb bm ls) (k : Below w.heap.size w w1) (hM : MapK (setMap w1 bm l'.toArray q) (.int .i64) bm l') (hU : Upd ls key (.agg #[.int .i64 a, .int .i64 b, .int .i64 c]) l') (hl : l'.length ≤ 2000) : BookPost w bb bm (setMap w1 bm l'.toArray q) := by
  have hO : Only (fun y => y = bm) w (setMap w1 bm l'.toArray q) := Only.map (F := fun y => y = bm) (Only.of_below k) bm (fun _ => rfl) _ _
  refine ⟨hO, l', h.1.only hO h.ne, hM, fun e he => ?_, hl⟩
  rcases hU.val e he with h' | ⟨-, h'⟩
  · exact h.2.2.1 e h'
  · exact ⟨a, b, c, h'⟩
set_option maxRecDepth 100000 in
theorem number_f (n : Int) (w : World) : Calls Tryz.prog 120 #[.int .i64 n] w fun e w' => AnyBool e ∧ w = w' := by
  by_cases h : 1 ≤ n
  · go_enter Tryz.func120, Tryz.ntmps120
    go_wp2
    go_ret
    exact ⟨⟨_, rfl⟩, rfl⟩
  · go_enter Tryz.func120, Tryz.ntmps120
    go_wp2
    go_ret
    exact ⟨⟨_, rfl⟩, rfl⟩

set_option maxHeartbeats 4000000 in
set_option maxRecDepth 100000 in
theorem grant_f {w : World} {bb bm : Nat} {ls : List MapEntry} (h : Book w bb bm ls) (id ttl now : Int) : Calls Tryz.prog 74 #[Ptr bb, .int .i64 id, .int .i64 ttl, .int .i64 now] w fun e w' => (∃ x : Int, e = .returned (.int .i64 x)) ∧ BookPost w bb bm w' := by
  obtain ⟨a, b, c, is, hl, -⟩ := book_look2 h id
  have hc := h.1.cell
  have hb1 := fun o => bmore (Below.refl w.heap.size w) o
  have hst := fun o => BookPost.still h (hb1 o)
  have hc1 := fun o => (h.1.alloc o).cell
  have hm1 := fun o => h.2.1.alloc o
  go_enter Tryz.func74, Tryz.ntmps74
  go_wp2_with (at_lookup; refine wpList_look_run rfl _ _ _ _ rfl (hl _ h.2.1) ?_)
  go_at_call 120
  refine (number_f id _).mono ?_
  rintro e w1 ⟨⟨n1, rfl⟩, rfl⟩
  cases n1 with
  | false =>
    go_wp2
    go_ret
    exact ⟨⟨_, rfl⟩, hst _⟩
  | true =>
    go_wp2_with fail
    go_at_call 120
    refine (number_f ttl _).mono ?_
    rintro e w1 ⟨⟨n2, rfl⟩, rfl⟩
    cases n2 with
    | false =>
      go_wp2
      go_ret
      exact ⟨⟨_, rfl⟩, hst _⟩
    | true =>
      cases is with
      | true =>
        go_wp2
        go_ret
        exact ⟨⟨_, rfl⟩, hst _⟩
      | false =>
        by_cases hn : 1024 ≤ ls.length
        · go_wp2_with (at_len; refine wpList_len_map rfl _ _ rfl _ _ Tryz.underlying159 bm ls rfl (hm1 _) ?_)
          go_ret
          exact ⟨⟨_, rfl⟩, hst _⟩
        · obtain ⟨f, q, hu, hM, hU⟩ : ∃ (f : Obj → Value → List MapEntry) (q : Obj → Value → Nat), (∀ o v, (Instr.mapUpdate 159 (.map (some bm)) (.int .i64 id) v).run Tryz.prog (w.alloc o) = .ok () (setMap (w.alloc o) bm (f o v).toArray (q o v))) ∧ (∀ o v, MapK (setMap (w.alloc o) bm (f o v).toArray (q o v)) (.int .i64) bm (f o v)) ∧ ∀ o v, Upd ls (.int .i64 id) v (f o v) := by
            have h1 := fun o => upd_maps Tryz.underlying159 Tryz.underlying3 (key := .int .i64 id) rfl (hm1 o)
            exact ⟨fun o => (h1 o).choose, fun o => (h1 o).choose_spec.choose, fun o => (h1 o).choose_spec.choose_spec.1, fun o => (h1 o).choose_spec.choose_spec.2.1, fun o => (h1 o).choose_spec.choose_spec.2.2⟩
          go_wp2_with (first | (at_len; refine wpList_len_map rfl _ _ rfl _ _ Tryz.underlying159 bm ls rfl (hm1 _) ?_) | (at_mapUpdate; refine wpList_upd_run rfl _ _ _ _ rfl (hu _ _) ?_))
          go_ret
          exact ⟨⟨_, rfl⟩, book_upd h (hb1 _) (hM _ _) (hU _ _) (Nat.le_trans (hU _ _).len (by omega))⟩

set_option maxHeartbeats 4000000 in
set_option maxRecDepth 100000 in
theorem revoke_f {w : World} {bb bm : Nat} {ls : List MapEntry} (h : Book w bb bm ls) (id : Int) : Calls Tryz.prog 121 #[Ptr bb, .int .i64 id] w fun e w' => (∃ x : Int, e = .returned (.int .i64 x)) ∧ BookPost w bb bm w' := by
  go_enter Tryz.func121, Tryz.ntmps121
  go_wp2_with fail
  go_at_call 76
  refine (has_f h id).mono ?_
  rintro e w1 ⟨⟨is, rfl⟩, hb⟩
  cases is with
  | false =>
    go_wp2
    go_ret
    exact ⟨⟨_, rfl⟩, BookPost.still h hb⟩
  | true =>
    have h1 := h.keep hb
    have hc := h1.1.cell
    obtain ⟨l', q, hu, hM, hsub, -⟩ := del_map Tryz.underlying159 Tryz.underlying3 (key := .int .i64 id) rfl h1.2.1 0
    go_wp2_with (at_delete; refine wpList_del_run rfl _ _ _ _ rfl hu ?_)
    go_ret
    have hO : Only (fun y => y = bm) w (setMap w1 bm l'.toArray q) := Only.map (F := fun y => y = bm) (Only.of_below hb) bm (fun _ => rfl) _ _
    exact ⟨⟨_, rfl⟩, hO, l', h.1.only hO h.ne, hM, fun e he => h.2.2.1 e (hsub.subset he), Nat.le_trans hsub.length_le h.2.2.2⟩

set_option maxHeartbeats 4000000 in
set_option maxRecDepth 100000 in
theorem renew_f {w : World} {bb bm : Nat} {ls : List MapEntry} (h : Book w bb bm ls) (id now : Int) : Calls Tryz.prog 75 #[Ptr bb, .int .i64 id, .int .i64 now] w fun e w' => (∃ x : Int, e = .returned (.int .i64 x)) ∧ BookPost w bb bm w' := by
  obtain ⟨a, b, c, is, hl, hin⟩ := book_look2 h id
  have hc := h.1.cell
  have hb1 := fun o => bmore (Below.refl w.heap.size w) o
  have hst := fun o => BookPost.still h (hb1 o)
  have hc1 := fun o => (h.1.alloc o).cell
  cases is with
  | false =>
    go_enter Tryz.func75, Tryz.ntmps75
    go_wp2_with (at_lookup; refine wpList_look_run rfl _ _ _ _ rfl (hl _ h.2.1) ?_)
    go_ret
    exact ⟨⟨_, rfl⟩, hst _⟩
  | true =>
    have hin2 := hin rfl
    have HI : Aside _ := hin2
    clear hin hin2
    go_enter Tryz.func75, Tryz.ntmps75
    go_wp2_with (at_lookup; refine wpList_look_run rfl _ _ _ _ rfl (hl _ h.2.1) ?_)
    obtain ⟨wB, hwB⟩ : ∃ wB, wB = w.alloc (.cells #[.int .i64 a, .int .i64 b, .int .i64 (wrap64 (now + b))] 148) := ⟨_, rfl⟩
    have hbB : Below w.heap.size w wB.drew := by rw [hwB]; exact (bmore (Below.refl _ _) _).drew
    have hL : Blk wB w.heap.size #[.int .i64 a, .int .i64 b, .int .i64 (wrap64 (now + b))] := by rw [hwB]; exact Blk.new _ _ _
    have h1 := h.keep hbB
    have q1 : ∀ o, wB.drew.cell? ⟨w.heap.size, o, none⟩ = _ := hL.cell
    have q2 : ∀ o, wB.drew.cell? ⟨bb, o, none⟩ = _ := h1.1.cell
    have q3 := hL.cell
    have q4 : ∀ o, wB.cell? ⟨bb, o, none⟩ = _ := h1.1.cell
    obtain ⟨f, q, hu, hM, hU⟩ := upd_maps Tryz.underlying159 Tryz.underlying3 (key := .int .i64 id) rfl h1.2.1
    rw [← hwB]
    clear hwB hc hc1
    go_region
    go_wp2
    go_ret
    have hO : Only (fun y => y = bm) w wB.drew := Only.of_below hbB
    exact ⟨⟨_, rfl⟩, book_upd h hbB (hM _) (hU _) (by rw [(hU _).same HI.out]; exact h.2.2.2)⟩
end Go.Proofs.YtbheebpfbabffaaGreat.Wat

namespace Go.Proofs.YtbheebpfbabffaaGreat.Wat
open Go.RowKit Go Go.Lib Mach Go.MapKept

theorem run_app0_ev (w : World) (a : Addr) (c : Nat) (ty : TypeId) : (Builtin.append_ #[34, 34] ty #[.slice (some ⟨w.heap.size, 0, none⟩) 0 0, .slice (some a) 0 c]).run Tryz.prog (w.alloc (.cells #[] 53)) = .ok (.slice (some ⟨w.heap.size, 0, none⟩) 0 0) (w.alloc (.cells #[] 53)) := by
  obtain ⟨i0, hi0, hz0, hz1, hz2⟩ := info_parts ev_info
  simp [Builtin.append_, run_underlying Tryz.underlying34, sizeOf, typeInfo, hi0, Builtin.lenOf, Builtin.firstCells, Result.andThen, storeCells, loadCells, loadCellsFrom]
theorem heq_ev (w : World) (n c n' c' : Nat) (a : Addr) : (binOp .eql 34 (.slice (some a) n c) (.slice none n' c')).run Tryz.prog w = .ok (.bool false) w := by
  have := Lib.run_eql_slice_nil (P := Tryz.prog) w 34 _ (some a) n c n' c' Tryz.underlying34
  simpa using this
set_option maxHeartbeats 4000000 in
set_option maxRecDepth 100000 in
theorem clo_ev (b off n c : Nat) (xs : List Value) (w : World) (hn0 : 0 < n) (hn : n ≤ 3000000) (hl : xs.length = n * 8) (hb : b < w.heap.size) (h1 : ∀ u ∈ xs, u.oneCell' = true) (hc : ∀ j u, xs[j]? = some u → w.cell? ⟨b, off + j, none⟩ = some u) :
    Calls Tryz.prog 40 #[.slice (some ⟨b, off, none⟩) n c] w fun e w' => (∃ v', e = .returned v' ∧ w'.ownsRow w.heap.size 53 8 v' n xs) ∧ Below w.heap.size w w' := by
  have heq := heq_ev
  obtain ⟨i0, hi0, hz0, hz1, hz2⟩ := info_parts ev_info
  have hown : (w.alloc (.cells #[] 53)).ownsRow w.heap.size 53 8 (.slice (some ⟨w.heap.size, 0, none⟩) 0 0) 0 [] := ⟨rfl, .inr ⟨w.heap.size, 0, #[], rfl, Nat.le_refl _, heap_alloc_new w _, Nat.le_refl _, Nat.zero_le _, rfl, rfl⟩⟩
  have hmx : 0 + n ≤ maxLen := by unfold maxLen; omega
  have hkk : (0 + n) * 80 ≤ 140737488355328 := by omega
  have HC : Aside _ := hc
  clear hc
  go_enter Tryz.func40, Tryz.ntmps40
  go_wp2_with (at_builtin; refine wpList_append_lies _ rfl _ _ 34 rfl w.heap.size 53 i0 (.agg #[.int .i64 0, .bool false, .string ⟨#[]⟩, .string ⟨#[]⟩, .int .i64 0, .int .i64 0, .int .i64 0, .int .i64 0]) 8 80 Tryz.underlying34 hi0 hz0 hz1 hz2 rfl (by decide) (.slice (some ⟨w.heap.size, 0, none⟩) 0 0) 0 [] rfl hown ⟨b, off, none⟩ n c xs rfl hl (fun j u hj => by rw [Addr.add_lit]; exact (alloc_old w _ hb _).trans (HC.out j u hj)) h1 hn0 hmx hkk (by simp) (w.heap.size + 1) (by simp) (fun g cap w' hown' hgb hat hgl => ?_))
  go_ret
  rw [Nat.zero_add, List.nil_append] at hown'
  refine ⟨⟨_, rfl, hown'⟩, ?_⟩
  exact (only_grown (G := fun y => w.heap.size ≤ y) ((Only.refl _ w).alloc _) hgb (fun y hy _ => by simp [Value.ownBlock] at hy; omega)).below _ (Nat.le_refl _) (fun k hk h => by omega)
set_option maxHeartbeats 4000000 in
set_option maxRecDepth 100000 in
theorem clo_ev_0 (a : Option Addr) (c : Nat) (w : World) :
    Calls Tryz.prog 40 #[.slice a 0 c] w fun e w' => (∃ v', e = .returned v' ∧ w'.ownsRow w.heap.size 53 8 v' 0 []) ∧ Below w.heap.size w w' := by
  cases a with
  | none =>
    go_enter Tryz.func40, Tryz.ntmps40
    have heq : ∀ (w : World) (n c n' c' : Nat), (binOp .eql 34 (.slice none n c) (.slice none n' c')).run Tryz.prog w = .ok (.bool true) w := fun w n c n' c' => by
      have := Lib.run_eql_slice_nil (P := Tryz.prog) w 34 _ none n c n' c' Tryz.underlying34
      simpa using this
    go_wp2
    go_ret
    exact ⟨⟨_, rfl, World.ownsRow_nil _ _ _ _⟩, Below.refl _ _⟩
  | some a =>
    have heq := heq_ev
    obtain ⟨i0, hi0, hz0, hz1, hz2⟩ := info_parts ev_info
    have hrun := fun ty => run_app0_ev w a c ty
    go_enter Tryz.func40, Tryz.ntmps40
    go_wp2_with (at_builtin; refine Lib.wpList_append_run _ rfl _ _ _ _ rfl _ _ rfl rfl _ _ (hrun _) ?_)
    go_ret
    exact ⟨⟨_, rfl, ⟨rfl, .inr ⟨w.heap.size, 0, #[], rfl, Nat.le_refl _, heap_alloc_new w _, Nat.le_refl _, Nat.zero_le _, rfl, rfl⟩⟩⟩, bmore (Below.refl _ _) _⟩
end Go.Proofs.YtbheebpfbabffaaGreat.Wat

namespace Go.Proofs.YtbheebpfbabffaaGreat.Wat
open Go.RowKit Go Go.Lib Mach Go.MapKept

theorem evs_len (l : List Ver) : (evs l).length = l.length * 8 := by
  induction l with
  | nil => rfl
  | cons p l ih =>
    have : evs (p :: l) = evc p ++ evs l := rfl
    rw [this, List.length_append, ih, evc_len, List.length_cons]
    omega
theorem evs_one (l : List Ver) : ∀ u ∈ evs l, u.oneCell' = true := by
  intro u hu
  obtain ⟨p, -, hp⟩ := List.mem_flatMap.1 hu
  obtain ⟨dl, v, a, b, c, d, he⟩ := evc_form p
  rw [he] at hp
  simp at hp
  rcases hp with rfl | rfl | rfl | rfl | rfl | rfl | rfl | rfl <;> rfl
theorem Evs.keep {w w' : World} {base : Nat} {v : Value} {l : List Ver} (h : Evs w base v l) (k : Below w.heap.size w w') : Evs w' base v l := own_below h k
theorem Evs.only {G : Nat → Prop} {w w' : World} {base : Nat} {v : Value} {l : List Ver} (h : Evs w base v l) (k : Only G w w') (hG : ∀ y ∈ blk v, ¬ G y) : Evs w' base v l := own_keep h k hG
theorem Evs.lt {w : World} {base : Nat} {v : Value} {l : List Ver} (h : Evs w base v l) : ∀ y ∈ blk v, base ≤ y ∧ y < w.heap.size := own_lt h
theorem Evs.base {w : World} {base b2 : Nat} {v : Value} {l : List Ver} (h : Evs w base v l) (hb : b2 ≤ base) : Evs w b2 v l := own_base h hb
theorem Evs.nil (w : World) (base : Nat) : Evs w base (.slice none 0 0) [] := World.ownsRow_nil _ _ _ _
/-- A row that is read: a part of one. -/
def EvR (w : World) (v : Value) (l : List Ver) : Prop := ∃ a c, v = .slice a l.length c ∧ (l = [] ∨ ∃ g o, a = some ⟨g, o, none⟩ ∧ g < w.heap.size ∧ ∀ j u, (evs l)[j]? = some u → w.cell? ⟨g, o + j, none⟩ = some u)
theorem EvR.keep {w w' : World} {v : Value} {l : List Ver} (h : EvR w v l) (k : Below w.heap.size w w') : EvR w' v l := by
  obtain ⟨a, c, hv, h⟩ := h
  refine ⟨a, c, hv, h.imp id ?_⟩
  rintro ⟨g, o, ha, hg, hc⟩
  exact ⟨g, o, ha, Nat.lt_of_lt_of_le hg k.size, fun j u hj => (World.cell?_of_block (w := w) (k.block g hg)).trans (hc j u hj)⟩
theorem Evs.read {w : World} {base : Nat} {v : Value} {l : List Ver} (h : Evs w base v l) : EvR w v l := by
  rcases own_open h with ⟨rfl, hn0, hx0⟩ | ⟨gb, cap, rfl, -, hgl, hcap, hcell⟩
  · exact ⟨none, 0, by rw [hn0], .inl (List.length_eq_zero_iff.1 hn0)⟩
  · exact ⟨_, cap, rfl, .inr ⟨gb, 0, rfl, hgl, fun j u hj => by rw [Nat.zero_add]; exact hcell j u hj⟩⟩
theorem clone_evs {w : World} {v : Value} {l : List Ver} (h : EvR w v l) (hl : l.length ≤ 1000000) : Calls Tryz.prog 40 #[v] w fun e w' => (∃ v', e = .returned v' ∧ Evs w' w.heap.size v' l) ∧ Below w.heap.size w w' := by
  obtain ⟨a, c, rfl, h⟩ := h
  by_cases h0 : l.length = 0
  · obtain rfl := List.length_eq_zero_iff.1 h0
    exact clo_ev_0 a c w
  · rcases h with rfl | ⟨g, o, rfl, hg, hc⟩
    · exact absurd rfl h0
    · exact clo_ev g o l.length c (evs l) w (by omega) (by omega) (evs_len l) hg (evs_one l) hc

theorem run_app0_evs (w : World) (a b : Option Addr) (n c c2 : Nat) (hn : n ≤ c) (ty : TypeId) : (Builtin.append_ #[34, 34] ty #[.slice a n c, .slice b 0 c2]).run Tryz.prog w = .ok (.slice a n c) w := by
  obtain ⟨i0, hi0, hz0, hz1, hz2⟩ := info_parts ev_info
  cases a <;> cases b <;> simp [Builtin.append_, run_underlying Tryz.underlying34, sizeOf, typeInfo, hi0, Builtin.lenOf, Builtin.firstCells, Result.andThen, storeCells, loadCells, loadCellsFrom, hn]
/-- One row of events behind another one. -/
theorem wpList_app_evs {ops : Array Oper} {rest : List Oper} {o : Oper} {a : Act} {Q : Exit → Act → World → Prop} {w : World} (hgd : o.guard = none) (s x : Operand) (ho : o.op = .call { callee := .builtin .append, args := #[s, x], argTypes := #[34, 34] })
    {base : Nat} (v u : Value) (l1 l2 : List Ver) (hs : a.eval s = v) (hx : a.eval x = u) (h1 : Evs w base v l1) (h2 : EvR w u l2) (hl : l1.length + l2.length ≤ 1000000) (hbase : base ≤ w.heap.size)
    (h : ∀ (a' : Option Addr) (c' : Nat) (w' : World), Evs w' base (.slice a' (l1.length + l2.length) c') (l1 ++ l2) → Only (fun y => y ∈ blk v) w w' → (∀ y ∈ blk (.slice a' (l1.length + l2.length) c'), y ∈ blk v ∨ w.heap.size ≤ y) → wpList Tryz.prog ops Q rest (a.put o.dst (.slice a' (l1.length + l2.length) c')) w') :
    wpList Tryz.prog ops Q (o :: rest) a w := by
  obtain ⟨a2, c2, rfl, h2⟩ := h2
  by_cases h0 : l2.length = 0
  · obtain rfl := List.length_eq_zero_iff.1 h0
    obtain ⟨a1, c1, rfl⟩ := h1.shape
    have hle : l1.length ≤ c1 := by
      rcases h1.2 with ⟨e, hn⟩ | ⟨g, cap, cur, e, hb, hh, hn, -⟩
      · injection e with _ e1 e2; omega
      · injection e with _ e1 e2; omega
    refine Lib.wpList_append_run _ hgd s x _ _ ho _ _ hs hx _ _ (run_app0_evs w a1 a2 l1.length c1 c2 hle _) ?_
    have := h a1 c1 w (by simpa using h1) (Only.refl _ _) (fun y hy => .inl (by simpa [blk, Value.ownBlock] using hy))
    simpa using this
  · rcases h2 with rfl | ⟨g, o2, rfl, hg, hc⟩
    · exact absurd rfl h0
    · obtain ⟨i0, hi0, hz0, hz1, hz2⟩ := info_parts ev_info
      refine wpList_append_lies w hgd s x _ ho base EvT i0 (.agg #[.int .i64 0, .bool false, .string ⟨#[]⟩, .string ⟨#[]⟩, .int .i64 0, .int .i64 0, .int .i64 0, .int .i64 0]) 8 80 Tryz.underlying34 hi0 hz0 hz1 hz2 rfl (by decide) v l1.length (evs l1) hs h1 ⟨g, o2, none⟩ l2.length c2 (evs l2) hx (evs_len l2) (fun j u hj => by rw [Addr.add_lit]; exact hc j u hj) (evs_one l2) (by omega) (by unfold maxLen; omega) (by omega) hbase w.heap.size rfl (fun g' cap' w' hown hgb hat hgl => ?_)
      refine h _ _ w' ?_ (only_grown (Only.refl _ w) hgb (fun y hy _ => by simp [blk, hy])) (fun y hy => ?_)
      · unfold Evs
        rw [evs_append, List.length_append]
        exact hown
      · obtain rfl : y = g' := by simpa [blk, Value.ownBlock] using hy
        rcases hat with hat | rfl
        · exact .inl (by simp [blk, hat])
        · exact .inr (Nat.le_refl _)
end Go.Proofs.YtbheebpfbabffaaGreat.Wat

