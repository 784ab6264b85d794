/- Joined: a part of the proof of TopWatches. -/
import Derived.Test.YtbheebpfbabffaaGreatVN
set_option linter.unusedSimpArgs false
set_option linter.unusedVariables false
namespace Go.Proofs.YtbheebpfbabffaaGreat.Wat
open Go.RowKit Go Go.Lib Mach Go.MapKept

/-- What told leaves. -/
def ToldPost (w : World) (sb wk rev C P : Nat) (chs : List Ver) (Ks : List Value) (S W : List Nat) (e : Ending) (w' : World) : Prop :=
  ∃ (x sz er : Int) (v : Value) (n : Nat) (L' : List Chg) (W' : List Nat), e = .returned (.tuple #[.agg #[.int .i64 x, v], .int .i64 sz, .int .i64 er]) ∧ Kvs w' w.heap.size v n ∧ n ≤ 3000000 ∧
    Only (fun y => y ∈ W) w w' ∧ Tx w' sb wk rev C P chs Ks L' S W' ∧ Grow w W W' ∧ ∀ y ∈ blk v, y ∉ W'
theorem Kvs.nil (w : World) (base : Nat) : Kvs w base (.slice none 0 0) 0 := ⟨[], rfl, World.ownsRow_nil _ _ _ _⟩

set_option maxHeartbeats 16000000 in
set_option maxRecDepth 100000 in
theorem told_f {w : World} {sb wk rev C P : Nat} {chs : List Ver} {Ks : List Value} {L : List Chg} {S W : List Nat} (h : Tx w sb wk rev C P chs Ks L S W) (hC : C ≤ 1000000) (hrev : rev ≤ 1000000) (hL : P + Ks.length ≤ 1000000) (x : Opr) :
    Calls Tryz.prog 118 #[Ptr wk, .agg x.cells.toArray] w (ToldPost w sb wk rev C (P + 1) chs Ks S W) := by
  obtain ⟨kd, k, en, vl, le, li⟩ := x
  unfold Opr.cells
  obtain ⟨wA, hwA⟩ : ∃ wA, wA = (w.alloc (.cells #[.int .i64 kd, .string k, .string en, .string vl, .int .i64 le, .int .i64 li] 72)).alloc (.cells #[.int .i64 0, .slice none 0 0] 135) := ⟨_, rfl⟩
  have hbA : Below w.heap.size w wA := by rw [hwA]; exact bmore (bmore (Below.refl _ _) _) _
  have hA : Blk wA w.heap.size #[.int .i64 kd, .string k, .string en, .string vl, .int .i64 le, .int .i64 li] := by rw [hwA]; exact (Blk.new _ _ _).alloc _
  have hB : Blk wA (w.heap.size + 1) #[.int .i64 0, .slice none 0 0] := by rw [hwA]; exact Blk.newAt (by simp)
  have hTA := h.keep hbA
  have hWlt : ∀ y ∈ W, y < w.heap.size := by
    obtain ⟨-, ⟨_, _, _, _, hw⟩, -⟩ := h
    exact hw.lt
  have hNW : Nd W := nd_right h.2.2
  by_cases hk0 : kd = 0
  · subst hk0
    go_enter Tryz.func118, Tryz.ntmps118
    go_wp2_with fail
    go_at_call 122
    rw [← hwA]
    clear hwA
    refine (wrange_t hTA hC hL k _ _).mono ?_
    rintro e w2 ⟨⟨v, n, x, rfl, hn, hK⟩, hb2⟩
    have gA := hA.keep hb2
    have gB := hB.keep hb2
    have q1 := gA.cell
    go_wp2_with fail
    go_at_call 152
    refine (put_t (hTA.keep hb2) hC hrev hL k vl le).mono ?_
    rintro e w3 ⟨⟨er, rfl⟩, hO3, L', W', hT3, hG3⟩
    have hnB : ¬ (w.heap.size + 1 ∈ W) := fun hm => by have := hWlt _ hm; omega
    have gB3 := gB.only hO3 hnB
    have p1 := gB3.cell
    have p2 := gB3.frz
    have hO : Only (fun y => y ∈ W) w w3 := (Only.of_below (bthen hbA hb2)).trans hO3 (fun _ _ h => h)
    have hG : Grow w W W' := ⟨fun a ha => hG3.1 a (Nat.lt_of_lt_of_le ha (bthen hbA hb2).size), fun a _ => nd_right hT3.2.2 a⟩
    have hB1 : w.heap.size + 1 ∉ W' := fun hm => by
      have := hG3.mem gB.lt hm
      exact hnB this
    clear q1
    go_wp2
    have hOf : Only (fun y => y = w.heap.size + 1) w3 ((w3.setCell ⟨w.heap.size + 1, 0, none⟩ (.int .i64 x)).setCell ⟨w.heap.size + 1, 1, none⟩ (.slice none 0 0)) := ((Only.refl (fun y => y = w.heap.size + 1) w3).set ⟨w.heap.size + 1, 0, none⟩ (fun _ => rfl) _).set ⟨w.heap.size + 1, 1, none⟩ (fun _ => rfl) _
    have hSlt := h.1.lt
    refine bodyPost_ret (v := .tuple #[.agg #[.int .i64 x, .slice none 0 0], .int .i64 0, .int .i64 er]) (by simp [results, Tryz.results118, go_sem, p1, cell_same, isSome_setCell]) rfl ⟨x, 0, er, .slice none 0 0, 0, L', W', rfl, Kvs.nil _ _, by omega, ?_, hT3.only hOf (fun y hy e => by have := hSlt y hy; omega) (fun y hy e => hB1 (e ▸ hy)), hG, fun y hy => by simp [blk, Value.ownBlock] at hy⟩
    exact hO.trans hOf (fun y hy e => by omega)
  by_cases hk1 : kd = 1
  · subst hk1
    go_enter Tryz.func118, Tryz.ntmps118
    go_wp2_with fail
    go_at_call 125
    rw [← hwA]
    clear hwA
    refine (del_t hTA hC hL k en).mono ?_
    rintro e w3 ⟨⟨x, rfl⟩, hO3, L', W', hT3, hG3⟩
    have hnB : ¬ (w.heap.size + 1 ∈ W) := fun hm => by have := hWlt _ hm; omega
    have gB3 := hB.only hO3 hnB
    have p1 := gB3.cell
    have p2 := gB3.frz
    have hO : Only (fun y => y ∈ W) w w3 := (Only.of_below hbA).trans hO3 (fun _ _ h => h)
    have hG : Grow w W W' := ⟨fun a ha => hG3.1 a (Nat.lt_of_lt_of_le ha hbA.size), fun a _ => nd_right hT3.2.2 a⟩
    have hB1 : w.heap.size + 1 ∉ W' := fun hm => by
      have := hG3.mem hB.lt hm
      exact hnB this
    go_wp2
    have hOf : Only (fun y => y = w.heap.size + 1) w3 ((w3.setCell ⟨w.heap.size + 1, 0, none⟩ (.int .i64 x)).setCell ⟨w.heap.size + 1, 1, none⟩ (.slice none 0 0)) := ((Only.refl (fun y => y = w.heap.size + 1) w3).set ⟨w.heap.size + 1, 0, none⟩ (fun _ => rfl) _).set ⟨w.heap.size + 1, 1, none⟩ (fun _ => rfl) _
    have hSlt := h.1.lt
    obtain ⟨hT3a, ⟨l3, v3, b3, s3, hT3w⟩, hT3c⟩ := hT3
    have hT3' : Tx w3 sb wk rev C (P + 1) chs Ks L' S W' := ⟨hT3a, ⟨l3, v3, b3, s3, hT3w.more (Nat.le_succ P)⟩, hT3c⟩
    refine bodyPost_ret (v := .tuple #[.agg #[.int .i64 x, .slice none 0 0], .int .i64 0, .int .i64 0]) (by simp [results, Tryz.results118, go_sem, p1, cell_same, isSome_setCell]) rfl ⟨x, 0, 0, .slice none 0 0, 0, L', W', rfl, Kvs.nil _ _, by omega, ?_, hT3'.only hOf (fun y hy e => by have := hSlt y hy; omega) (fun y hy e => hB1 (e ▸ hy)), hG, fun y hy => by simp [blk, Value.ownBlock] at hy⟩
    exact hO.trans hOf (fun y hy e => by omega)
  · go_enter Tryz.func118, Tryz.ntmps118
    go_wp2_with fail
    go_at_call 122
    rw [← hwA]
    clear hwA
    refine (wrange_t hTA hC hL k en li).mono ?_
    rintro e w2 ⟨⟨v, n, x, rfl, hn, hK⟩, hb2⟩
    have gA := hA.keep hb2
    have gB := hB.keep hb2
    obtain ⟨a, c, rfl⟩ := hK.shape
    go_wp2
    go_loopg [11, 13, 57] n (fun kx s11 _ s57 wq => ∃ (j : Nat) (sz : Int), j ≤ n ∧ s57 = .int .i64 j ∧ s11 = .int .i64 sz ∧ kx = n - j ∧ Below w2.heap.size w2 wq)
    case atStart => exact ⟨0, 0, Nat.zero_le _, rfl, rfl, rfl, Below.refl _ _⟩
    case round =>
      obtain ⟨j, sz, hj, rfl, rfl, hkx, hbr⟩ := hrel
      by_cases hjn : j < n
      · obtain ⟨g, cap, y, e, hcy⟩ := (hK.keep hbr).at j hjn
        cases e
        obtain ⟨yk, yv, ya, yb, yc, yd⟩ := y
        have y0 : wr.cell? ⟨g, j * 6, none⟩ = _ := hcy 0 _ rfl
        have y1 := hcy 1 _ rfl
        have y2 := hcy 2 _ rfl
        have y3 := hcy 3 _ rfl
        have y4 := hcy 4 _ rfl
        have y5 := hcy 5 _ rfl
        clear hcy
        go_wp2
        go_roundg (n - (j + 1))
        case measure => omega
        case rel => exact ⟨j + 1, _, by omega, by simp, rfl, rfl, bmore hbr _⟩
      · have gB3 := gB.keep hbr
        have p1 := gB3.cell
        have p2 := gB3.frz
        have hbw : Below w.heap.size w wr := bthen (bthen hbA hb2) hbr
        go_wp2
        have hOf : Only (fun y => y = w.heap.size + 1) wr ((wr.setCell ⟨w.heap.size + 1, 0, none⟩ (.int .i64 x)).setCell ⟨w.heap.size + 1, 1, none⟩ (.slice a n c)) := ((Only.refl (fun y => y = w.heap.size + 1) wr).set ⟨w.heap.size + 1, 0, none⟩ (fun _ => rfl) _).set ⟨w.heap.size + 1, 1, none⟩ (fun _ => rfl) _
        have hSlt := h.1.lt
        obtain ⟨hT3a, ⟨l3, v3, b3, s3, hT3w⟩, hT3c⟩ := h.keep hbw
        have hT3' : Tx wr sb wk rev C (P + 1) chs Ks L S W := ⟨hT3a, ⟨l3, v3, b3, s3, hT3w.more (Nat.le_succ P)⟩, hT3c⟩
        have hvb : ∀ y ∈ blk (.slice a n c), wA.heap.size ≤ y := fun y hy => by
          obtain ⟨l, -, ho⟩ := hK
          exact (own_lt ho y hy).1
        have hAs : w.heap.size + 1 < wA.heap.size := hB.lt
        refine bodyPost_ret (v := .tuple #[.agg #[.int .i64 x, .slice a n c], .int .i64 sz, .int .i64 0]) (by simp [results, Tryz.results118, go_sem, p1, cell_same, isSome_setCell]) rfl ⟨x, sz, 0, .slice a n c, n, L, W, rfl, ?_, hn, ?_, hT3'.only hOf (fun y hy e => by have := hSlt y hy; omega) (fun y hy e => by have := hWlt y hy; omega), ⟨fun _ _ => Nat.le_refl _, fun a _ => hNW a⟩, fun y hy hm => by have := hvb y hy; have := hWlt y hm; omega⟩
        · obtain ⟨l, hl, ho⟩ := hK.keep hbr
          exact ⟨l, hl, own_base (own_keep ho hOf (fun y hy e => by have := hvb y hy; omega)) (by omega)⟩
        · exact (Only.of_below hbw).trans hOf (fun y hy e => by omega)
end Go.Proofs.YtbheebpfbabffaaGreat.Wat

namespace Go.Proofs.YtbheebpfbabffaaGreat.Wat
open Go.RowKit Go Go.Lib Mach Go.MapKept

abbrev ResT : TypeId := 135
theorem res_info : (Tryz.prog.info? 135).map (fun i => (i.zero, i.size, i.bytes)) = some (some (.agg #[.int .i64 0, .slice none 0 0]), 2, 32) := by kernel_rfl
abbrev Rs := List (Int × Value)
def ress (rs : Rs) : List Value := rs.flatMap fun p => [.int .i64 p.1, p.2]
theorem ress_append (a b : Rs) : ress (a ++ b) = ress a ++ ress b := List.flatMap_append ..
theorem ress_get {l : Rs} {j : Nat} {p : Int × Value} (h : l[j]? = some p) : (ress l)[2 * j]? = some (.int .i64 p.1) ∧ (ress l)[2 * j + 1]? = some p.2 :=
  ⟨flat_get (fun p : Int × Value => [.int .i64 p.1, p.2]) 2 (fun _ => rfl) l j 0 p h (by decide), flat_get (fun p : Int × Value => [.int .i64 p.1, p.2]) 2 (fun _ => rfl) l j 1 p h (by decide)⟩
/-- Results that are read. -/
def Ress (w : World) (base : Nat) (v : Value) (rs : Rs) : Prop := w.ownsRow base ResT 2 v rs.length (ress rs) ∧ ∀ p ∈ rs, ∃ n, n ≤ 3000000 ∧ Kvs w base p.2 n
/-- The blocks of results. -/
def rb (v : Value) (rs : Rs) : List Nat := blk v ++ (rs.map (fun p => blk p.2)).flatten
theorem rb_in {v : Value} {rs : Rs} {p : Int × Value} (hp : p ∈ rs) {y : Nat} (hy : y ∈ blk p.2) : y ∈ rb v rs := List.mem_append.2 (.inr (List.mem_flatten.2 ⟨_, List.mem_map.2 ⟨p, hp, rfl⟩, hy⟩))
theorem rb_snoc (v : Value) (rs : Rs) (p : Int × Value) (y : Nat) : y ∈ rb v (rs ++ [p]) ↔ y ∈ rb v rs ∨ y ∈ blk p.2 := by
  unfold rb
  rw [List.map_append, List.flatten_append]
  simp [or_assoc]
theorem rb_head {v v' : Value} {rs : Rs} {y : Nat} (h : y ∈ rb v' rs) : y ∈ blk v' ∨ y ∈ rb v rs := by
  rcases List.mem_append.1 h with h | h
  · exact .inl h
  · exact .inr (List.mem_append.2 (.inr h))
theorem Ress.only {G : Nat → Prop} {w w' : World} {base : Nat} {v : Value} {rs : Rs} (h : Ress w base v rs) (k : Only G w w') (hG : ∀ y ∈ rb v rs, ¬ G y) : Ress w' base v rs := by
  refine ⟨own_keep h.1 k (fun y hy => hG y (List.mem_append.2 (.inl hy))), fun p hp => ?_⟩
  obtain ⟨n, hn, l, hl, ho⟩ := h.2 p hp
  exact ⟨n, hn, l, hl, own_keep ho k (fun y hy => hG y (rb_in hp hy))⟩
theorem Ress.keep {w w' : World} {base : Nat} {v : Value} {rs : Rs} (h : Ress w base v rs) (k : Below w.heap.size w w') : Ress w' base v rs := h.only (Only.of_below (F := fun _ => False) k) (fun _ _ h => h)
theorem Ress.lt {w : World} {base : Nat} {v : Value} {rs : Rs} (h : Ress w base v rs) : ∀ y ∈ rb v rs, base ≤ y ∧ y < w.heap.size := by
  intro y hy
  rcases List.mem_append.1 hy with hy | hy
  · exact own_lt h.1 y hy
  · obtain ⟨f, hf, hy⟩ := List.mem_flatten.1 hy
    obtain ⟨p, hp, rfl⟩ := List.mem_map.1 hf
    obtain ⟨n, -, l, -, ho⟩ := h.2 p hp
    exact own_lt ho y hy
theorem Ress.nil (w : World) (base : Nat) : Ress w base (.slice none 0 0) [] := ⟨World.ownsRow_nil _ _ _ _, fun _ h => absurd h List.not_mem_nil⟩
theorem Ress.base {w : World} {base b2 : Nat} {v : Value} {rs : Rs} (h : Ress w base v rs) (hb : b2 ≤ base) : Ress w b2 v rs := ⟨own_base h.1 hb, fun p hp => by
  obtain ⟨n, hn, l, hl, ho⟩ := h.2 p hp
  exact ⟨n, hn, l, hl, own_base ho hb⟩⟩
theorem Ress.shape {w : World} {base : Nat} {v : Value} {rs : Rs} (h : Ress w base v rs) : ∃ a c, v = .slice a rs.length c := by
  rcases h.1.2 with ⟨rfl, h0⟩ | ⟨g, cap, cur, rfl, -⟩
  · exact ⟨_, _, by rw [h0]⟩
  · exact ⟨_, _, rfl⟩

/-- A book of leases: bm its map. -/
def Book (w : World) (bb bm : Nat) (ls : List MapEntry) : Prop := Blk w bb #[.map (some bm)] ∧ MapK w (.int .i64) bm ls ∧ (∀ e ∈ ls, ∃ a b c : Int, e.val = .agg #[.int .i64 a, .int .i64 b, .int .i64 c]) ∧ ls.length ≤ 2000
theorem Book.only {G : Nat → Prop} {w w' : World} {bb bm : Nat} {ls : List MapEntry} (h : Book w bb bm ls) (k : Only G w w') (h1 : ¬ G bb) (h2 : ¬ G bm) : Book w' bb bm ls := ⟨h.1.only k h1, h.2.1.only k h2, h.2.2⟩
theorem Book.keep {w w' : World} {bb bm : Nat} {ls : List MapEntry} (h : Book w bb bm ls) (k : Below w.heap.size w w') : Book w' bb bm ls := h.only (Only.of_below (F := fun _ => False) k) (fun h => h) (fun h => h)
theorem zero_lease (w : World) : (zeroValue 148).run Tryz.prog w = .ok (.agg #[.int .i64 0, .int .i64 0, .int .i64 0]) w := by kernel_rfl
/-- What is found in a book at an id. -/
theorem book_look {w : World} {bb bm : Nat} {ls : List MapEntry} (h : Book w bb bm ls) (id : Int) : ∃ (a b c : Int) (is : Bool), (∀ w, MapK w (.int .i64) bm ls → (Instr.lookup 159 (.map (some bm)) (.int .i64 id) true).run Tryz.prog w = .ok (.tuple #[.agg #[.int .i64 a, .int .i64 b, .int .i64 c], .bool is]) w) ∧
    (is = false → ∀ e ∈ ls, e.key ≠ .int .i64 id) := by
  rcases look_map Tryz.underlying159 Tryz.underlying3 zero_lease (key := .int .i64 id) (l := ls) (b := bm) rfl h.2.1.key with ⟨hno, hl⟩ | ⟨e, he, hk, hl⟩
  · exact ⟨0, 0, 0, false, fun w h => hl w true h, fun _ => hno⟩
  · obtain ⟨a, b, c, hv⟩ := h.2.2.1 e he
    exact ⟨a, b, c, true, fun w h => by rw [← hv]; exact hl w true h, fun h => by cases h⟩
set_option maxRecDepth 100000 in
theorem has_f {w : World} {bb bm : Nat} {ls : List MapEntry} (h : Book w bb bm ls) (id : Int) : Calls Tryz.prog 76 #[Ptr bb, .int .i64 id] w fun e w' => AnyBool e ∧ Below w.heap.size w w' := by
  obtain ⟨a, b, c, is, hl, -⟩ := book_look h id
  have hc := h.1.cell
  go_enter Tryz.func76, Tryz.ntmps76
  go_wp2_with (at_lookup; refine wpList_look_run rfl _ _ _ _ rfl (hl _ (by first | exact h.2.1 | exact h.2.1.alloc _ | exact (h.2.1.alloc _).alloc _)) ?_)
  go_ret
  exact ⟨⟨_, rfl⟩, by first | exact Below.refl _ _ | exact bmore (Below.refl _ _) _ | exact bmore (bmore (Below.refl _ _) _) _⟩
theorem meth_has (bb : Nat) (w : World) : (method 475 78 (Ptr bb) "Has").run Tryz.prog w = .ok (76, Ptr bb) w := by kernel_rfl
end Go.Proofs.YtbheebpfbabffaaGreat.Wat

