/- Joined: a part of the proof of TopWatches. -/
import Derived.RegionTactic
import Derived.Deep.RegionWith
import Derived.Test.YtbheebpfbabffaaGreatVA
import Derived.Test.YtbheebpfbabffaaGreatVG
import Derived.Test.YtbheebpfbabffaaGreatWPut
set_option linter.unusedSimpArgs false
set_option linter.unusedVariables false
namespace Go.Proofs.YtbheebpfbabffaaGreat.Wat
open Go.RowKit Go Go.Lib Mach Go.MapKept

abbrev KvT : TypeId := 51
abbrev VerT : TypeId := 109
theorem kv_info : (Tryz.prog.info? 51).map (fun i => (i.zero, i.size, i.bytes)) = some (some (.agg #[.string ⟨#[]⟩, .string ⟨#[]⟩, .int .i64 0, .int .i64 0, .int .i64 0, .int .i64 0]), 6, 64) := by kernel_rfl
theorem ver_info : (Tryz.prog.info? 109).map (fun i => (i.zero, i.size, i.bytes)) = some (some (.agg #[.int .i64 0, .nilIface]), 2, 24) := by kernel_rfl
theorem chg_info : (Tryz.prog.info? 107).map (fun i => (i.zero, i.size, i.bytes)) = some (some .nilIface, 1, 16) := by kernel_rfl

/-- A key with its value, as it lies. -/
structure KVr where
  k : ByteArray
  v : ByteArray
  a : Int
  b : Int
  c : Int
  d : Int
def KVr.cells (x : KVr) : List Value := [.string x.k, .string x.v, .int .i64 x.a, .int .i64 x.b, .int .i64 x.c, .int .i64 x.d]
def KVr.agg (x : KVr) : Value := .agg #[.string x.k, .string x.v, .int .i64 x.a, .int .i64 x.b, .int .i64 x.c, .int .i64 x.d]
def kvs (l : List KVr) : List Value := l.flatMap KVr.cells
theorem flat_get {α : Type} (f : α → List Value) (n : Nat) (hf : ∀ x, (f x).length = n) : ∀ (l : List α) (j i : Nat) (x : α), l[j]? = some x → i < n → (l.flatMap f)[n * j + i]? = (f x)[i]?
  | [], j, i, x, h, _ => by simp at h
  | y :: l, 0, i, x, h, hi => by
    simp at h
    subst h
    rw [List.flatMap_cons, Nat.mul_zero, Nat.zero_add, List.getElem?_append_left (by rw [hf]; exact hi)]
  | y :: l, j + 1, i, x, h, hi => by
    rw [List.flatMap_cons, List.getElem?_append_right (by rw [hf]; rw [Nat.mul_succ]; omega), hf, show n * (j + 1) + i - n = n * j + i by rw [Nat.mul_succ]; omega]
    exact flat_get f n hf l j i x (by simpa using h) hi
theorem kvs_get {l : List KVr} {j : Nat} {x : KVr} (h : l[j]? = some x) (i : Nat) (hi : i < 6) : (kvs l)[6 * j + i]? = x.cells[i]? := flat_get KVr.cells 6 (fun _ => rfl) l j i x h hi
theorem kvs_append (l m : List KVr) : kvs (l ++ m) = kvs l ++ kvs m := List.flatMap_append ..

/-- What became of a key. -/
inductive Chg where
  | put (x : KVr)
  | del (k : ByteArray)
def Chg.val : Chg → Value
  | .put x => .iface 191 x.agg
  | .del k => .iface 259 (.agg #[.string k])
def Chg.key : Chg → ByteArray
  | .put x => x.k
  | .del k => k
def Chg.ok (c : Chg) : Prop := 1 ≤ c.key.size ∧ c.key.size ≤ 100
abbrev Ver := Int × Chg
def vers (l : List Ver) : List Value := l.flatMap fun p => [.int .i64 p.1, p.2.val]
theorem vers_get {l : List Ver} {j : Nat} {p : Ver} (h : l[j]? = some p) : (vers l)[2 * j]? = some (.int .i64 p.1) ∧ (vers l)[2 * j + 1]? = some p.2.val :=
  ⟨flat_get (fun p : Ver => [.int .i64 p.1, p.2.val]) 2 (fun _ => rfl) l j 0 p h (by decide), flat_get (fun p : Ver => [.int .i64 p.1, p.2.val]) 2 (fun _ => rfl) l j 1 p h (by decide)⟩
theorem vers_append (l m : List Ver) : vers (l ++ m) = vers l ++ vers m := List.flatMap_append ..

/-- A row of the call's own, opened. -/
theorem own_open {w : World} {base : Nat} {e : TypeId} {size n : Nat} {v : Value} {xs : List Value} (h : w.ownsRow base e size v n xs) : (v = .slice none 0 0 ∧ n = 0 ∧ xs = []) ∨
    ∃ g cap, v = .slice (some ⟨g, 0, none⟩) n cap ∧ base ≤ g ∧ g < w.heap.size ∧ n ≤ cap ∧ ∀ j u, xs[j]? = some u → w.cell? ⟨g, j, none⟩ = some u := by
  rcases h.2 with ⟨h1, h2⟩ | ⟨g, cap, cur, hv, hb, hh, hn, hc, hs, ht⟩
  · exact .inl ⟨h1, h2, List.length_eq_zero_iff.1 (by rw [h.1, h2]; simp)⟩
  · refine .inr ⟨g, cap, hv, hb, (Array.getElem?_eq_some_iff.1 hh).1, hn, fun j u hj => ?_⟩
    rw [← ht, List.getElem?_take] at hj
    split at hj
    · simp [World.cell?, hh]
      simpa using hj
    · cases hj
theorem own_some {w : World} {base : Nat} {e : TypeId} {size n : Nat} {v : Value} {xs : List Value} (h : w.ownsRow base e size v n xs) (hn : 0 < n) :
    ∃ g cap, v = .slice (some ⟨g, 0, none⟩) n cap ∧ base ≤ g ∧ g < w.heap.size ∧ n ≤ cap ∧ ∀ j u, xs[j]? = some u → w.cell? ⟨g, j, none⟩ = some u := by
  rcases own_open h with ⟨-, h, -⟩ | h
  · omega
  · exact h
/-- The block of a slice. -/
def blk (v : Value) : List Nat := v.ownBlock.toList
theorem own_keep {G : Nat → Prop} {w w' : World} {base : Nat} {e : TypeId} {size n : Nat} {v : Value} {xs : List Value} (h : w.ownsRow base e size v n xs) (k : Only G w w') (hG : ∀ y ∈ blk v, ¬ G y) : w'.ownsRow base e size v n xs := by
  refine ⟨h.1, ?_⟩
  rcases h.2 with h | ⟨g', cap, cur, hv, hb, hh, hn, hc, hs, ht⟩
  · exact .inl h
  · refine .inr ⟨g', cap, cur, hv, hb, (k.block g' (Array.getElem?_eq_some_iff.1 hh).1 (hG g' ?_)).trans hh, hn, hc, hs, ht⟩
    rw [hv]
    simp [blk, Value.ownBlock]
theorem own_lt {w : World} {base : Nat} {e : TypeId} {size n : Nat} {v : Value} {xs : List Value} (h : w.ownsRow base e size v n xs) : ∀ y ∈ blk v, base ≤ y ∧ y < w.heap.size := by
  intro y hy
  exact h.lt y (by simpa [blk] using hy)

/-- The store: its revision, its keys Ks, at most C changes; S: all its blocks; op: the write that is open. -/
def St (w : World) (sb : Nat) (op : Value) (rev C : Nat) (chs : List Ver) (Ks : List Value) (S : List Nat) : Prop :=
  ∃ (live : Int) (xi vb : Nat) (cv : Value) (SX : List Nat) (es : List MapEntry), Blk w sb #[.int .i64 rev, .int .i64 0, .int .i64 live, Ptr xi, .map (some vb), cv, op] ∧ Ix w xi C SX ∧ MapK w .string vb es ∧
    (∀ e ∈ es, ∃ vs : List Ver, w.ownsRow 0 VerT 2 e.val vs.length (vers vs) ∧ (∀ p ∈ vs, p.2.ok) ∧ vs.length ≤ C) ∧
    w.ownsRow 0 VerT 2 cv chs.length (vers chs) ∧ (∀ p ∈ chs, p.2.ok) ∧ chs.length ≤ C ∧ (Ks = es.map (·.key) ∧ ∀ s, .string s ∈ Ks → 1 ≤ s.size ∧ s.size ≤ 100) ∧
    S = sb :: vb :: (SX ++ (blk cv ++ (es.map (fun e => blk e.val)).flatten)) ∧ Nd S
theorem St.only {G : Nat → Prop} {w w' : World} {sb : Nat} {op : Value} {rev C : Nat} {chs : List Ver} {Ks : List Value} {S : List Nat} (h : St w sb op rev C chs Ks S) (k : Only G w w') (hG : ∀ y ∈ S, ¬ G y) : St w' sb op rev C chs Ks S := by
  obtain ⟨live, xi, vb, cv, SX, es, hs, hx, hm, hes, hc, ho, hn, hK, hS, hN⟩ := h
  subst hS
  refine ⟨live, xi, vb, cv, SX, es, hs.only k (hG _ (by simp)), hx.only k (fun y hy => hG y (by simp [hy])), hm.only k (hG _ (by simp)), fun e he => ?_, own_keep hc k (fun y hy => hG y (by simp [hy])), ho, hn, hK, rfl, hN⟩
  obtain ⟨vs, h1, h2⟩ := hes e he
  refine ⟨vs, own_keep h1 k (fun y hy => hG y ?_), h2⟩
  have : y ∈ (es.map (fun e => blk e.val)).flatten := List.mem_flatten.2 ⟨_, List.mem_map.2 ⟨e, he, rfl⟩, hy⟩
  simp only [List.mem_cons, List.mem_append]
  exact .inr (.inr (.inr (.inr this)))
theorem Ix.lt {w : World} {xi K : Nat} {S : List Nat} (h : Ix w xi K S) : ∀ y ∈ S, y < w.heap.size := by
  obtain ⟨r, n, F, ms, hx, hR, hI, hK, rfl, hN⟩ := h
  intro y hy
  simp only [List.mem_cons, List.mem_append, List.mem_map] at hy
  rcases hy with rfl | hy | ⟨p, hp, rfl⟩ | ⟨p, hp, rfl⟩
  · exact hx.lt
  · exact hR.lt y hy
  · exact (hI p hp).lt.1
  · exact (hI p hp).lt.2
theorem St.lt {w : World} {sb : Nat} {op : Value} {rev C : Nat} {chs : List Ver} {Ks : List Value} {S : List Nat} (h : St w sb op rev C chs Ks S) : ∀ y ∈ S, y < w.heap.size := by
  obtain ⟨live, xi, vb, cv, SX, es, hs, hx, hm, hes, hc, ho, hn, hK, rfl, hN⟩ := h
  intro y hy
  simp only [List.mem_cons, List.mem_append, List.mem_flatten, List.mem_map] at hy
  rcases hy with rfl | rfl | hy | hy | ⟨l, ⟨e, he, rfl⟩, hy⟩
  · exact hs.lt
  · exact hm.lt
  · exact hx.lt y hy
  · exact (own_lt hc y hy).2
  · obtain ⟨vs, h1, -⟩ := hes e he
    exact (own_lt h1 y hy).2
theorem St.keep {w w' : World} {sb : Nat} {op : Value} {rev C : Nat} {chs : List Ver} {Ks : List Value} {S : List Nat} (h : St w sb op rev C chs Ks S) (k : Below w.heap.size w w') : St w' sb op rev C chs Ks S := h.only (Only.of_below (F := fun _ => False) k) (fun _ _ h => h)
theorem St.nd {w : World} {sb : Nat} {op : Value} {rev C : Nat} {chs : List Ver} {Ks : List Value} {S : List Nat} (h : St w sb op rev C chs Ks S) : Nd S := by
  obtain ⟨live, xi, vb, cv, SX, es, hs, hx, hm, hes, hc, ho, hn, hK, hS, hN⟩ := h
  exact hN
theorem St.keys_ok {w : World} {sb : Nat} {op : Value} {rev C : Nat} {chs : List Ver} {Ks : List Value} {S : List Nat} (h : St w sb op rev C chs Ks S) : ∀ s, .string s ∈ Ks → 1 ≤ s.size ∧ s.size ≤ 100 := by
  obtain ⟨live, xi, vb, cv, SX, es, hs, hx, hm, hes, hc, ho, hn, hK, -⟩ := h
  exact hK.2
theorem St.keys_nd {w : World} {sb : Nat} {op : Value} {rev C : Nat} {chs : List Ver} {Ks : List Value} {S : List Nat} (h : St w sb op rev C chs Ks S) : Ks.Nodup := by
  obtain ⟨live, xi, vb, cv, SX, es, hs, hx, hm, hes, hc, ho, hn, ⟨rfl, -⟩, -⟩ := h
  exact hm.nodup
end Go.Proofs.YtbheebpfbabffaaGreat.Wat

namespace Go.Proofs.YtbheebpfbabffaaGreat.Wat
open Go.RowKit Go Go.Lib Mach Go.MapKept

/-- A row of n texts, from block base on. -/
def Txts (w : World) (base : Nat) (v : Value) (n : Nat) : Prop := ∃ xs, w.ownsRow base StrT 1 v n xs ∧ ∀ x ∈ xs, ∃ s, x = .string s
theorem Txts.keep {w w' : World} {base : Nat} {v : Value} {n : Nat} (h : Txts w base v n) (k : Below w.heap.size w w') : Txts w' base v n := by
  obtain ⟨xs, h, hx⟩ := h
  exact ⟨xs, own_below h k, hx⟩
theorem Txts.at {w : World} {base : Nat} {v : Value} {n : Nat} (h : Txts w base v n) (j : Nat) (hj : j < n) : ∃ g cap s, v = .slice (some ⟨g, 0, none⟩) n cap ∧ w.cell? ⟨g, j, none⟩ = some (.string s) := by
  obtain ⟨xs, h, hx⟩ := h
  obtain ⟨g, cap, rfl, -, -, -, hc⟩ := own_some h (by omega)
  have hl := h.1
  have hj' : xs[j]? = some xs[j] := List.getElem?_eq_getElem (by omega)
  obtain ⟨s, hs⟩ := hx xs[j] (List.getElem_mem _)
  exact ⟨g, cap, s, rfl, hs ▸ hc j _ hj'⟩
theorem Txts.shape {w : World} {base : Nat} {v : Value} {n : Nat} (h : Txts w base v n) : ∃ a c, v = .slice a n c := by
  obtain ⟨xs, h, -⟩ := h
  rcases h.2 with ⟨rfl, rfl⟩ | ⟨g, cap, cur, rfl, -⟩
  · exact ⟨_, _, rfl⟩
  · exact ⟨_, _, rfl⟩
theorem Txts.weak {w : World} {base b2 : Nat} {v : Value} {n : Nat} (h : Txts w base v n) (hb : b2 ≤ base) : Txts w b2 v n := by
  obtain ⟨xs, h, hx⟩ := h
  refine ⟨xs, ⟨h.1, ?_⟩, hx⟩
  rcases h.2 with h | ⟨g', cap, cur, hv, hb', hh, hn, hc, hs, ht⟩
  · exact .inl h
  · exact .inr ⟨g', cap, cur, hv, Nat.le_trans hb hb', hh, hn, hc, hs, ht⟩

set_option maxRecDepth 100000 in
theorem walk_nil (lo hi : ByteArray) (f : Value) (w : World) : Calls Tryz.prog 137 #[.pointer none, .string lo, .string hi, f] w fun e w' => e = .returned (.tuple #[]) ∧ w = w' := by
  go_enter Tryz.func137, Tryz.ntmps137
  go_wp2
  exact bodyPost_ret (v := .tuple #[]) (by simp [results, Tryz.results137, go_sem]) rfl ⟨rfl, rfl⟩

set_option maxHeartbeats 4000000 in
set_option maxRecDepth 100000 in
theorem keys_f (xi K : Nat) (S : List Nat) (lo hi : ByteArray) (w : World) (h : Ix w xi K S) (hK : K ≤ 1000000) :
    Calls Tryz.prog 104 #[Ptr xi, .string lo, .string hi] w fun e w' => (∃ v n, e = .returned v ∧ n ≤ K ∧ Txts w' w.heap.size v n) ∧ Below w.heap.size w w' := by
  obtain ⟨r, n, F, ms, hx, hR, hI, hmK, hS, hN⟩ := h
  have HS : Aside _ := hS
  clear hS
  go_enter Tryz.func104, Tryz.ntmps104
  have hx0 := (hx.alloc (.cells #[.slice none 0 0] 154))
  have hc := hx0.cell
  obtain ⟨wa, hwa⟩ : ∃ wa, wa = w.alloc (.cells #[.slice none 0 0] 154) := ⟨_, rfl⟩
  have hb0 : Below w.heap.size w wa := by rw [hwa]; exact (Below.refl _ _).alloc (Nat.le_refl _) _
  have hBx : Box wa w.heap.size 0 := by rw [hwa]; exact ⟨_, [], Blk.new _ _ _, World.ownsRow_nil _ _ _ _, fun _ h => absurd h List.not_mem_nil⟩
  have hO := Only.of_below (F := fun _ => False) hb0
  rcases hR with ⟨rfl, hl, hF⟩ | ⟨h, b, rfl, hR⟩
  · go_wp2_with fail
    go_at_call 137
    refine (walk_nil lo hi _ _).mono ?_
    rintro e w1 ⟨rfl, rfl⟩
    rw [← hwa]
    obtain ⟨v, xs, hb, ho, hxs⟩ := hBx
    have hc2 := hb.cell
    clear hc hx0 hwa
    go_wp2
    go_ret
    exact ⟨⟨v, 0, rfl, Nat.zero_le _, Txts.weak ⟨xs, ho, hxs⟩ (by omega)⟩, hb0⟩
  · go_wp2_with fail
    go_at_call 137
    rw [← hwa]
    have hil : ∀ x ∈ ms.map (·.1), x < w.heap.size := fun x hx => by
      obtain ⟨p, hp, rfl⟩ := List.mem_map.1 hx
      exact (hI p hp).lt.1
    refine (walk_all h w.heap.size b 0 _ F lo hi wa (Rep.only hO h b _ F hR (fun _ _ h => h)) ((Ix.its hI).only hO (fun _ _ h => h)) (Rep.lt h b _ F hR) hil hBx (by simp; omega)).mono ?_
    rintro e w1 ⟨rfl, q, hq, ⟨v, xs, hb, ho, hxs⟩, hb1⟩
    have hc2 := hb.cell
    clear hc hx0 hwa
    go_wp2
    go_ret
    refine ⟨⟨v, q, rfl, ?_, Txts.weak ⟨xs, ho, hxs⟩ (by omega)⟩, belowNN hb0 hb1⟩
    simp at hq
    omega

set_option maxHeartbeats 4000000 in
set_option maxRecDepth 100000 in
/-- The store's keys. -/
theorem skeys_f (sb xi K : Nat) (S : List Nat) (r0 r1 r2 r4 r5 r6 : Value) (lo hi : ByteArray) (w : World) (hs : Blk w sb #[r0, r1, r2, Ptr xi, r4, r5, r6]) (h : Ix w xi K S) (hK : K ≤ 1000000) :
    Calls Tryz.prog 69 #[Ptr sb, .string lo, .string hi] w fun e w' => (∃ v n, e = .returned v ∧ n ≤ K + 1 ∧ Txts w' w.heap.size v n) ∧ Below w.heap.size w w' := by
  have hc := hs.cell
  go_enter Tryz.func69, Tryz.ntmps69
  cases hhe : (hi.toList == ([] : List UInt8)) with
  | true =>
    go_wp2
    go_ret
    refine ⟨⟨_, 1, rfl, by omega, [.string lo], ⟨rfl, .inr ⟨w.heap.size, 1, #[.string lo], rfl, Nat.le_refl _, ?_, Nat.le_refl _, by decide, rfl, rfl⟩⟩, fun x hx => ⟨lo, List.mem_singleton.1 hx⟩⟩, (Below.refl _ _).alloc (Nat.le_refl _) _⟩
    exact heap_alloc_new w _
  | false =>
    go_wp2_with fail
    go_at_call 104
    refine (keys_f xi K S lo hi w h hK).mono ?_
    rintro e w1 ⟨⟨v, n, rfl, hn, hT⟩, hb⟩
    go_wp2
    go_ret
    exact ⟨⟨v, n, rfl, by omega, hT⟩, hb⟩
end Go.Proofs.YtbheebpfbabffaaGreat.Wat

namespace Go.Proofs.YtbheebpfbabffaaGreat.Wat
open Go.RowKit Go Go.Lib Mach Go.MapKept

set_option maxHeartbeats 4000000 in
set_option maxRecDepth 100000 in
theorem at_closure (pl pr g j n c : Nat) (r rev : Int) (w : World) (h1 : w.cell? ⟨pl, 0, none⟩ = some (.slice (some ⟨g, 0, none⟩) n c)) (h2 : w.cell? ⟨pr, 0, none⟩ = some (.int .i64 rev)) (hj : j < n) (h3 : w.cell? ⟨g, j * 2, none⟩ = some (.int .i64 r)) :
    Calls Tryz.prog 113 (#[.int .i64 j] ++ #[Ptr pl, Ptr pr]) w fun e w' => (∃ x, e = .returned (.bool x)) ∧ Below w.heap.size w w' := by
  have d1 : w.drew.cell? ⟨pl, 0, none⟩ = _ := h1
  have d2 : w.drew.cell? ⟨pr, 0, none⟩ = _ := h2
  have d3 : w.drew.cell? ⟨g, j * 2, none⟩ = _ := h3
  have hbd := (Below.refl w.heap.size w).drew
  clear h1 h2 h3
  go_enter Tryz.func113, Tryz.ntmps113
  go_wp2_with fail
  go_region
  go_wp2
  go_ret
  exact ⟨⟨_, rfl⟩, hbd⟩
theorem eg_at : ∀ args w, (callFunc 113 args).run Tryz.prog w = .ok (.enter 113 args) w := enters_of Tryz.func113 (by kernel_rfl) rfl

theorem below_set {N : Nat} {w w' : World} (h : Below N w w') (a : Addr) (ha : N ≤ a.block) (v : Value) : Below N w (w'.setCell a v) :=
  ⟨h.os, h.tape, h.output, by simpa [World.setCell] using h.size, fun k hk => (Below.heap_setCell w' a v k (by omega)).trans (h.block k hk)⟩
theorem below_set6 {N b : Nat} {w w1 : World} (h : Below N w w1) (hb : N ≤ b) {a0 a1 a2 a3 a4 a5 : Value} :
    Below N w ((((((w1.setCell ⟨b, 0, none⟩ a0).setCell ⟨b, 1, none⟩ a1).setCell ⟨b, 2, none⟩ a2).setCell ⟨b, 3, none⟩ a3).setCell ⟨b, 4, none⟩ a4).setCell ⟨b, 5, none⟩ a5) :=
  below_set (below_set (below_set (below_set (below_set (below_set h _ hb _) _ hb _) _ hb _) _ hb _) _ hb _) _ hb _
/-- What at, now answer. -/
def AtPost (q : ByteArray → Prop) (key : ByteArray) (e : Ending) : Prop := ∃ (x : KVr) (is : Bool), e = .returned (.tuple #[x.agg, .bool is]) ∧ (is = true → q key ∧ 1 ≤ x.k.size ∧ x.k.size ≤ 100)
theorem run_ta_put (x : KVr) (w : World) : Sem.run Tryz.prog (Instr.typeAssert (Chg.put x).val 107 191 true) w = .ok (.tuple #[x.agg, .bool true]) w := by
  unfold Chg.val KVr.agg
  kernel_rfl
theorem run_ta_del (k : ByteArray) (w : World) : Sem.run Tryz.prog (Instr.typeAssert (Chg.del k).val 107 191 true) w = .ok (.tuple #[.agg #[.string ⟨#[]⟩, .string ⟨#[]⟩, .int .i64 0, .int .i64 0, .int .i64 0, .int .i64 0], .bool false]) w := by
  unfold Chg.val
  kernel_rfl

set_option maxHeartbeats 4000000 in
set_option maxRecDepth 100000 in
/-- at, once the row is found. -/
theorem at_row (sb vb : Nat) (r0 r1 r2 r3 cv op : Value) (es : List MapEntry) (key : ByteArray) (rev : Int) (v : Value) (vs : List Ver) (q : ByteArray → Prop) (w : World) (hs : Blk w sb #[r0, r1, r2, r3, .map (some vb), cv, op]) (hm : MapK w .string vb es)
    (hlook : ∀ w, MapK w .string vb es → (Instr.lookup 94 (.map (some vb)) (.string key) false).run Tryz.prog w = .ok v w) (hrow : w.ownsRow 0 VerT 2 v vs.length (vers vs)) (hok : ∀ p ∈ vs, p.2.ok) (hq : vs ≠ [] → q key) (hlen : vs.length ≤ 1000000) :
    Calls Tryz.prog 70 #[Ptr sb, .string key, .int .i64 rev] w fun e w' => AtPost q key e ∧ Below w.heap.size w w' := by
  have eg := eg_at
  have hs1 := hs.alloc (.cells #[.int .i64 rev] 3)
  have hs2 := hs1.alloc (.cells #[.string ⟨#[]⟩, .string ⟨#[]⟩, .int .i64 0, .int .i64 0, .int .i64 0, .int .i64 0] 51)
  have hc := hs2.cell
  go_enter Tryz.func70, Tryz.ntmps70
  obtain ⟨wa, hwa⟩ : ∃ wa, wa = ((w.alloc (.cells #[.int .i64 rev] 3)).alloc (.cells #[.string ⟨#[]⟩, .string ⟨#[]⟩, .int .i64 0, .int .i64 0, .int .i64 0, .int .i64 0] 51)).alloc (.cells #[v] 95) := ⟨_, rfl⟩
  have hb0 : Below w.heap.size w wa := by rw [hwa]; exact bmore (bmore (bmore (Below.refl _ _) _) _) _
  have hA : Blk wa w.heap.size #[.int .i64 rev] := by rw [hwa]; exact ((Blk.new w _ _).alloc _).alloc _
  have hB : Blk wa (w.heap.size + 1) #[.string ⟨#[]⟩, .string ⟨#[]⟩, .int .i64 0, .int .i64 0, .int .i64 0, .int .i64 0] := by rw [hwa]; exact (Blk.newAt (by simp)).alloc _
  have hC : Blk wa (w.heap.size + 2) #[v] := by rw [hwa]; exact Blk.newAt (by simp)
  have hsz : wa.heap.size = w.heap.size + 3 := by rw [hwa]; simp
  rcases own_open hrow with ⟨rfl, hn0, hx0⟩ | ⟨g, cap, rfl, -, hgl, hcap, hcell⟩
  · go_wp2_with (at_lookup; refine wpList_look_run rfl _ _ _ _ rfl (hlook _ ((hm.alloc _).alloc _)) ?_)
    go_at_call 36
    rw [← hwa]
    clear hwa hc
    refine (search_safe 113 _ 0 (fun w1 => Below wa.heap.size wa w1) wa eg (by omega) (Below.refl _ _) (fun _ i _ h => absurd h (Nat.not_lt_zero i))).mono ?_
    rintro e w1 ⟨r, hr, rfl, hI⟩
    obtain rfl : r = 0 := by omega
    have hb2 := bthen hb0 hI
    have hc1 := (hB.keep hI).cell
    have hf1 := (hB.keep hI).frz
    have hl1 := (hB.keep hI).lt
    go_wp2
    refine bodyPost_ret (v := .tuple #[KVr.agg ⟨⟨#[]⟩, ⟨#[]⟩, 0, 0, 0, 0⟩, .bool false]) (by simp [results, Tryz.results70, go_sem, KVr.agg, hc1, cell_same, isSome_setCell, hl1]) rfl ⟨⟨_, _, rfl, fun h => by cases h⟩, ?_⟩
    exact below_set6 hb2 (by omega)
  · go_wp2_with (at_lookup; refine wpList_look_run rfl _ _ _ _ rfl (hlook _ ((hm.alloc _).alloc _)) ?_)
    go_at_call 36
    rw [← hwa]
    clear hwa hc
    have at_it : ∀ w1 j, Below wa.heap.size wa w1 → j < vs.length → ∃ p : Ver, vs[j]? = some p ∧ w1.cell? ⟨g, j * 2, none⟩ = some (.int .i64 p.1) ∧ w1.cell? ⟨g, j * 2 + 1, none⟩ = some p.2.val := fun w1 j h hj => by
      have hp : vs[j]? = some vs[j] := List.getElem?_eq_getElem hj
      obtain ⟨h1, h2⟩ := vers_get hp
      rw [Nat.mul_comm] at h1 h2
      have k := fun o => (keep0 h (show g < wa.heap.size by omega) o).trans (keep0 hb0 hgl o)
      exact ⟨_, hp, (k _).trans (hcell _ _ h1), (k _).trans (hcell _ _ h2)⟩
    refine (search_safe 113 _ vs.length (fun w1 => Below wa.heap.size wa w1) wa eg (by omega) (Below.refl _ _) (fun w1 j h hj => ?_)).mono ?_
    · obtain ⟨p, -, h1, -⟩ := at_it w1 j h hj
      exact (at_closure (w.heap.size + 2) w.heap.size g j vs.length cap p.1 rev w1 ((hC.keep h).cell 0) ((hA.keep h).cell 0) hj h1).mono fun _ _ ⟨hx, hy⟩ => ⟨hx, bthen h hy⟩
    rintro e w1 ⟨r, hr, rfl, hI⟩
    have hb2 := bthen hb0 hI
    have hc1 := (hB.keep hI).cell
    have hf1 := (hB.keep hI).frz
    have hl1 := (hB.keep hI).lt
    have hc2 := (hC.keep hI).cell
    cases r with
    | zero =>
      go_wp2
      refine bodyPost_ret (v := .tuple #[KVr.agg ⟨⟨#[]⟩, ⟨#[]⟩, 0, 0, 0, 0⟩, .bool false]) (by simp [results, Tryz.results70, go_sem, KVr.agg, hc1, cell_same, isSome_setCell, hl1]) rfl ⟨⟨_, _, rfl, fun h => by cases h⟩, ?_⟩
      exact below_set6 hb2 (by omega)
    | succ r =>
      obtain ⟨p, hp, h1, h2⟩ := at_it w1 r hI (by omega)
      have hpo := hok p (List.mem_of_getElem? hp)
      obtain ⟨pr, pc⟩ := p
      have hi1 : ((r + 1 : Nat) : Int) - 1 = (r : Int) := by omega
      have hr2 : r < vs.length := by omega
      cases pc with
      | put x =>
        have hta := run_ta_put x
        obtain ⟨xk, xv, xa, xb, xc, xd⟩ := x
        unfold Chg.val KVr.agg at hta h2
        go_wp2
        refine bodyPost_ret (v := .tuple #[KVr.agg ⟨xk, xv, xa, xb, xc, xd⟩, .bool true]) (by simp [results, Tryz.results70, go_sem, KVr.agg, hc1, cell_same, isSome_setCell, hl1]) rfl ⟨⟨_, _, rfl, fun h => ⟨hq (by rintro rfl; simp at hr2), hpo.1, hpo.2⟩⟩, ?_⟩
        exact bmore (below_set6 hb2 (by omega)) _
      | del k =>
        have hta := run_ta_del k
        unfold Chg.val at hta h2
        go_wp2
        refine bodyPost_ret (v := .tuple #[KVr.agg ⟨⟨#[]⟩, ⟨#[]⟩, 0, 0, 0, 0⟩, .bool false]) (by simp [results, Tryz.results70, go_sem, KVr.agg, hc1, cell_same, isSome_setCell, hl1]) rfl ⟨⟨_, _, rfl, fun h => by cases h⟩, ?_⟩
        exact bmore (below_set6 hb2 (by omega)) _

theorem St.at_f {w : World} {sb : Nat} {op : Value} {rev C : Nat} {chs : List Ver} {Ks : List Value} {S : List Nat} (h : St w sb op rev C chs Ks S) (hC : C ≤ 1000000) (key : ByteArray) (r : Int) :
    Calls Tryz.prog 70 #[Ptr sb, .string key, .int .i64 r] w fun e w' => AtPost (fun k => .string k ∈ Ks) key e ∧ Below w.heap.size w w' := by
  obtain ⟨live, xi, vb, cv, SX, es, hs, -, hm, hes, -, -, -, ⟨rfl, -⟩, -⟩ := h
  rcases look_map Tryz.underlying94 Tryz.underlying9 (zero_vs) (key := .string key) (l := es) (b := vb) trivial hm.key with ⟨-, hl⟩ | ⟨e, he, hk, hl⟩
  · exact at_row sb vb _ _ _ _ _ _ es key r _ [] _ w hs hm (fun w h => hl w false h) (World.ownsRow_nil _ _ _ _) (fun _ h => absurd h List.not_mem_nil) (fun h => absurd rfl h) (by simp)
  · obtain ⟨vs, hr, hok, hn⟩ := hes e he
    exact at_row sb vb _ _ _ _ _ _ es key r _ vs _ w hs hm (fun w h => hl w false h) hr hok (fun _ => List.mem_map.2 ⟨e, he, hk⟩) (by omega)
end Go.Proofs.YtbheebpfbabffaaGreat.Wat

namespace Go.Proofs.YtbheebpfbabffaaGreat.Wat
open Go.RowKit Go Go.Lib Mach Go.MapKept

abbrev ChgT : TypeId := 107
def dels (L : List Chg) : List Value := L.filterMap fun c => match c with
  | .del k => some (.string k)
  | .put _ => none
theorem dels_put (L : List Chg) (x : KVr) : dels (L ++ [.put x]) = dels L := by simp [dels]
theorem dels_del (L : List Chg) (k : ByteArray) : dels (L ++ [.del k]) = dels L ++ [.string k] := by simp [dels]
theorem nodup_len : ∀ (l m : List Value), l.Nodup → (∀ x ∈ l, x ∈ m) → l.length ≤ m.length
  | [], _, _, _ => Nat.zero_le _
  | x :: l, m, hn, hs => by
    obtain ⟨m1, m2, rfl⟩ := List.append_of_mem (hs x (by simp))
    have hn' := List.nodup_cons.1 hn
    have := nodup_len l (m1 ++ m2) hn'.2 (fun y hy => by
      have h := hs y (by simp [hy])
      simp only [List.mem_append, List.mem_cons] at h ⊢
      rcases h with h | rfl | h
      · exact .inl h
      · exact absurd hy hn'.1
      · exact .inr h)
    simp only [List.length_append, List.length_cons] at this ⊢
    omega

/-- The write's own part: bs what it holds by keys, L in order. -/
structure Wr (w : World) (sb wr : Nat) (P : Nat) (Ks : List Value) (L : List Chg) (W : List Nat) (live : Int) (lv : Value) (bm : Nat) (bs : List MapEntry) : Prop where
  blk : Blk w wr #[Ptr sb, lv, .map (some bm), .int .i64 live]
  row : w.ownsRow 0 ChgT 1 lv L.length (L.map Chg.val)
  map : MapK w .string bm bs
  val : ∀ e ∈ bs, ∃ c : Chg, e.val = c.val ∧ c.ok
  ok : ∀ c ∈ L, c.ok
  len : bs.length ≤ L.length
  nd : (dels L).Nodup
  sub : ∀ k ∈ dels L, k ∈ bs.map (·.key) ∧ k ∈ Ks
  puts : L.length ≤ P + (dels L).length
  foot : W = wr :: bm :: Wat.blk lv
theorem Wr.size {w : World} {sb wr P : Nat} {Ks : List Value} {L : List Chg} {W : List Nat} {live : Int} {lv : Value} {bm : Nat} {bs : List MapEntry} (h : Wr w sb wr P Ks L W live lv bm bs) : L.length ≤ P + Ks.length := by
  have := nodup_len (dels L) Ks h.nd (fun x hx => (h.sub x hx).2)
  have := h.puts
  omega
theorem Wr.only {G : Nat → Prop} {w w' : World} {sb wr P : Nat} {Ks : List Value} {L : List Chg} {W : List Nat} {live : Int} {lv : Value} {bm : Nat} {bs : List MapEntry} (h : Wr w sb wr P Ks L W live lv bm bs) (k : Only G w w') (hG : ∀ y ∈ W, ¬ G y) : Wr w' sb wr P Ks L W live lv bm bs := by
  have hf := h.foot
  exact ⟨h.blk.only k (hG _ (by rw [hf]; simp)), own_keep h.row k (fun y hy => hG y (by rw [hf]; simp [hy])), h.map.only k (hG _ (by rw [hf]; simp)), h.val, h.ok, h.len, h.nd, h.sub, h.puts, hf⟩
theorem Wr.lt {w : World} {sb wr P : Nat} {Ks : List Value} {L : List Chg} {W : List Nat} {live : Int} {lv : Value} {bm : Nat} {bs : List MapEntry} (h : Wr w sb wr P Ks L W live lv bm bs) : ∀ y ∈ W, y < w.heap.size := by
  intro y hy
  rw [h.foot] at hy
  simp only [List.mem_cons] at hy
  rcases hy with rfl | rfl | hy
  · exact h.blk.lt
  · exact h.map.lt
  · exact (own_lt h.row y hy).2
/-- A write that is open, over its store. -/
def Tx (w : World) (sb wr rev C P : Nat) (chs : List Ver) (Ks : List Value) (L : List Chg) (S W : List Nat) : Prop :=
  St w sb (Ptr wr) rev C chs Ks S ∧ (∃ live lv bm bs, Wr w sb wr P Ks L W live lv bm bs) ∧ Nd (S ++ W)
theorem Tx.only {G : Nat → Prop} {w w' : World} {sb wr rev C P : Nat} {chs : List Ver} {Ks : List Value} {L : List Chg} {S W : List Nat} (h : Tx w sb wr rev C P chs Ks L S W) (k : Only G w w') (hS : ∀ y ∈ S, ¬ G y) (hW : ∀ y ∈ W, ¬ G y) : Tx w' sb wr rev C P chs Ks L S W := by
  obtain ⟨h1, ⟨live, lv, bm, bs, h2⟩, h3⟩ := h
  exact ⟨h1.only k hS, ⟨live, lv, bm, bs, h2.only k hW⟩, h3⟩
theorem Tx.keep {w w' : World} {sb wr rev C P : Nat} {chs : List Ver} {Ks : List Value} {L : List Chg} {S W : List Nat} (h : Tx w sb wr rev C P chs Ks L S W) (k : Below w.heap.size w w') : Tx w' sb wr rev C P chs Ks L S W := h.only (Only.of_below (F := fun _ => False) k) (fun _ _ h => h) (fun _ _ h => h)

set_option maxRecDepth 100000 in
theorem closed_f (sb wr : Nat) (r0 r1 r2 r3 r4 r5 q1 q2 q3 : Value) (w : World) (hs : Blk w sb #[r0, r1, r2, r3, r4, r5, Ptr wr]) (hw : Blk w wr #[Ptr sb, q1, q2, q3]) :
    Calls Tryz.prog 153 #[Ptr wr] w fun e w' => e = .returned (.bool false) ∧ w = w' := by
  have hc := hs.cell
  have hc2 := hw.cell
  have hn := fun (a : Addr) (w : World) => run_neq_ptr (P := Tryz.prog) (t := 96) Tryz.underlying96 (k := 4) a w (by kernel_rfl)
  go_enter Tryz.func153, Tryz.ntmps153
  go_wp2
  go_ret
  exact ⟨rfl, rfl⟩
end Go.Proofs.YtbheebpfbabffaaGreat.Wat

namespace Go.Proofs.YtbheebpfbabffaaGreat.Wat
open Go.RowKit Go Go.Lib Mach Go.MapKept

set_option maxHeartbeats 8000000 in
set_option maxRecDepth 100000 in
theorem now_f {w : World} {sb wr rev C : Nat} {chs : List Ver} {Ks : List Value} {S : List Nat} {lv lw : Value} {bm : Nat} {bs : List MapEntry} (hst : St w sb (Ptr wr) rev C chs Ks S) (hC : C ≤ 1000000)
    (hwr : Blk w wr #[Ptr sb, lv, .map (some bm), lw]) (hm : MapK w .string bm bs) (hbs : ∀ e ∈ bs, ∃ c : Chg, e.val = c.val ∧ c.ok) (key : ByteArray) :
    Calls Tryz.prog 155 #[Ptr wr, .string key] w fun e w' => AtPost (fun k => .string k ∈ Ks ∨ ∃ e ∈ bs, e.key = .string k) key e ∧ Below w.heap.size w w' := by
  obtain ⟨wa, hwa⟩ : ∃ wa, wa = w.alloc (.cells #[.string ⟨#[]⟩, .string ⟨#[]⟩, .int .i64 0, .int .i64 0, .int .i64 0, .int .i64 0] 51) := ⟨_, rfl⟩
  have hb0 : Below w.heap.size w wa := by rw [hwa]; exact bmore (Below.refl _ _) _
  have hN : Blk wa w.heap.size #[.string ⟨#[]⟩, .string ⟨#[]⟩, .int .i64 0, .int .i64 0, .int .i64 0, .int .i64 0] := by rw [hwa]; exact Blk.new w _ _
  have hst2 := hst.keep hb0
  have hwr2 := hwr.keep hb0
  have hm2 := hm.keep hb0
  have hc := (hwr.alloc (.cells #[.string ⟨#[]⟩, .string ⟨#[]⟩, .int .i64 0, .int .i64 0, .int .i64 0, .int .i64 0] 51)).cell
  go_enter Tryz.func155, Tryz.ntmps155
  rcases look_map Tryz.underlying278 Tryz.underlying9 (zero_ch) (key := .string key) (l := bs) (b := bm) trivial hm.key with ⟨-, hl⟩ | ⟨e, he, hk, hl⟩
  · go_wp2_with (at_lookup; refine wpList_look_run rfl _ _ _ _ rfl (hl _ true (hm.alloc _)) ?_)
    rw [← hwa]
    clear hwa
    obtain ⟨live, xi, vb, cv, SX, es, hs, -⟩ := id hst2
    have hs2 := hs.cell
    have hc2 := hwr2.cell
    have hs3 : ∀ o, wa.drew.cell? ⟨sb, o, none⟩ = _ := hs2
    have hc3 : ∀ o, wa.drew.cell? ⟨wr, o, none⟩ = _ := hc2
    clear hc hs
    have hst3 := hst2.only (G := fun _ => False) (Only.refl _ wa).drew (fun _ _ h => h)
    have hat := hst3.at_f hC key rev
    go_region_with (go_at_call 70; refine hat.mono ?_; rintro e w5 ⟨⟨⟨xk, xv, xa, xb, xc, xd⟩, is, rfl, hx⟩, hb5⟩; unfold KVr.agg; have hN5 := (hN.drew.keep hb5).cell; have hF5 := (hN.drew.keep hb5).frz)
    all_goals (
      go_wp2
      refine bodyPost_ret (v := .tuple #[KVr.agg ⟨xk, xv, xa, xb, xc, xd⟩, .bool is]) (by simp [results, Tryz.results155, go_sem, KVr.agg, hN5, cell_same, isSome_setCell]) rfl ⟨⟨_, _, rfl, fun h => ⟨.inl (hx h).1, (hx h).2⟩⟩, ?_⟩
      exact below_set6 (bthen hb0.drew hb5) (Nat.le_refl _))
  · obtain ⟨c, hcv, hco⟩ := hbs e he
    rw [hcv] at hl
    cases c with
    | put x =>
      have hta := run_ta_put x
      obtain ⟨xk, xv, xa, xb, xc, xd⟩ := x
      unfold Chg.val KVr.agg at hta hl
      go_wp2_with (at_lookup; refine wpList_look_run rfl _ _ _ _ rfl (hl _ true (hm.alloc _)) ?_)
      refine bodyPost_ret (v := .tuple #[KVr.agg ⟨xk, xv, xa, xb, xc, xd⟩, .bool true]) (by simp [results, Tryz.results155, go_sem, KVr.agg]) rfl ⟨⟨_, _, rfl, fun h => ⟨.inr ⟨e, he, hk⟩, hco⟩⟩, ?_⟩
      exact bmore (bmore (Below.refl _ _) _) _
    | del k =>
      have hta := run_ta_del k
      unfold Chg.val at hta hl
      go_wp2_with (at_lookup; refine wpList_look_run rfl _ _ _ _ rfl (hl _ true (hm.alloc _)) ?_)
      refine bodyPost_ret (v := .tuple #[KVr.agg ⟨⟨#[]⟩, ⟨#[]⟩, 0, 0, 0, 0⟩, .bool false]) (by simp [results, Tryz.results155, go_sem, KVr.agg]) rfl ⟨⟨_, _, rfl, fun h => by cases h⟩, ?_⟩
      exact bmore (bmore (Below.refl _ _) _) _
end Go.Proofs.YtbheebpfbabffaaGreat.Wat

