/- Joined: a part of the proof of TopWatches. -/
import Derived.Shelf.Spec.SlicesInsertGrow
import Derived.Maps.RangeWalk
import Derived.LoopTactic
import Derived.Deep.DeepCutAuto
import Derived.WalkKit
import Derived.BigQuiet
import Derived.RegionTactic
import Derived.Test.YtbheebpfbabffaaGreatMach4
set_option linter.unusedSimpArgs false
set_option linter.unusedVariables false
namespace Go.Proofs.YtbheebpfbabffaaGreat.Mach
open Go.RowKit Go Go.Lib

theorem Only.setCells {F : Nat → Prop} (b : Nat) (hb : F b) : ∀ (vs : List Value) (o : Nat) (a w : World), Only F a w → Only F a (w.setCells b o vs)
  | [], _, _, _, h => h
  | v :: r, o, a, w, h => by
    rw [World.setCells]
    exact Only.setCells b hb r (o + 1) a _ (h.set ⟨b, o, none⟩ (fun _ => hb) v)

theorem Blk.setCells (b : Nat) : ∀ (vs pre old post : List Value) (w : World), Blk w b (pre ++ (old ++ post)).toArray → old.length = vs.length → Blk (w.setCells b pre.length vs) b (pre ++ (vs ++ post)).toArray
  | [], pre, old, post, w, h, ho => by
    obtain rfl : old = [] := List.length_eq_zero_iff.1 ho
    exact h
  | v :: r, pre, old, post, w, h, ho => by
    obtain _ | ⟨u, old'⟩ := old
    · simp at ho
    · rw [World.setCells]
      have h2 := h.setCell pre.length v
      have e : ((pre ++ (u :: old' ++ post)).toArray).setIfInBounds pre.length v = ((pre ++ [v]) ++ (old' ++ post)).toArray := by
        apply Array.toList_inj.1
        simp
      rw [e] at h2
      have h3 := Blk.setCells b r (pre ++ [v]) old' post _ h2 (by simpa using ho)
      simpa using h3
theorem Blk.eq {w : World} {b : Nat} {A C : Array Value} (h : Blk w b A) (e : A = C) : Blk w b C := e ▸ h

end Go.Proofs.YtbheebpfbabffaaGreat.Mach
namespace Go.Proofs.YtbheebpfbabffaaGreat.Wat
open Go.RowKit Go Go.Lib Mach

abbrev Ptr (b : Nat) : Value := .pointer (some ⟨b, 0, none⟩)
/-- A slice of pointers to ps: nil, or at the head of its block; B: that block. -/
def Arr (w : World) (v : Value) (ps B : List Nat) : Prop :=
  (v = .slice none 0 0 ∧ ps = [] ∧ B = []) ∨
  ∃ (b : Nat) (rest : List Value), v = .slice (some ⟨b, 0, none⟩) ps.length (ps.length + rest.length) ∧ Blk w b (ps.map Ptr ++ rest).toArray ∧ ps.length + rest.length ≤ 9223372036854775807 ∧ 0 < ps.length + rest.length ∧ B = [b]

/-- The row that a growing insertion ahead of the end makes, before it is filled. -/
def growRow (cs : List Value) (i n G : Nat) : Array Value := (cs.take i).toArray ++ Builtin.zeroCells (Value.pointer none).cells (n + 1 - i) ++ Builtin.zeroCells (Value.pointer none).cells (G - (n + 1))
theorem growRow_size (cs : List Value) (i n G : Nat) (hi : i ≤ n) (hl : cs.length = n) (hG : n + 1 ≤ G) : (growRow cs i n G).size = G := by
  unfold growRow
  simp [Builtin.zeroCells, Value.cells]
  omega

theorem ptrs_one (ps : List Nat) : ∀ v ∈ ps.map Ptr, v.oneCell' = true := by
  intro v hv
  obtain ⟨p, -, rfl⟩ := List.mem_map.1 hv
  rfl
theorem Arr.lt {w : World} {v : Value} {ps B : List Nat} (h : Arr w v ps B) : ∀ k ∈ B, k < w.heap.size := by
  intro k hk
  obtain ⟨-, -, rfl⟩ | ⟨b, rest, -, hb, -, -, rfl⟩ := h
  · cases hk
  · rw [List.mem_singleton.1 hk]; exact hb.lt
theorem Arr.only {F : Nat → Prop} {w w' : World} {v : Value} {ps B : List Nat} (h : Arr w v ps B) (k : Only F w w') (hF : ∀ x ∈ B, ¬ F x) : Arr w' v ps B := by
  obtain h | ⟨b, rest, hv, hb, hm, hp, rfl⟩ := h
  · exact .inl h
  · exact .inr ⟨b, rest, hv, hb.only k (hF b (by simp)), hm, hp, rfl⟩
theorem zeros_list (z : Value) (h : z.cells = #[z]) (k : Nat) : (Builtin.zeroCells z.cells k).toList = List.replicate k z := by
  rw [h]
  induction k with
  | zero => simp [Builtin.zeroCells]
  | succ k ih =>
    simp only [Builtin.zeroCells] at ih ⊢
    simp at ih ⊢
    rw [List.range_succ, List.map_append, ih]
    simp [List.replicate_succ', Nat.mod_one]
end Go.Proofs.YtbheebpfbabffaaGreat.Wat

namespace Go.Proofs.YtbheebpfbabffaaGreat.Wat
open Go.RowKit Go Go.Lib Mach Go.MapKept
open Go.ChangeMaps (setBlock)

/-- Block b is a map with these entries, its keys of a kind. -/
def MapK (w : World) (d : TypeDesc) (b : Nat) (l : List MapEntry) : Prop := ∃ c, w.heap[b]? = some (.map l.toArray c) ∧ Stamped l.toArray c ∧ ∀ x ∈ l, IsKey d x.key
theorem MapK.lt {w : World} {d : TypeDesc} {b : Nat} {l : List MapEntry} (h : MapK w d b l) : b < w.heap.size := by
  obtain ⟨c, hb, -⟩ := h
  exact (Array.getElem?_eq_some_iff.1 hb).1
theorem MapK.only {F : Nat → Prop} {w w' : World} {d : TypeDesc} {b : Nat} {l : List MapEntry} (h : MapK w d b l) (k : Only F w w') (hF : ¬ F b) : MapK w' d b l := by
  have hl := h.lt
  obtain ⟨c, hb, hs⟩ := h
  exact ⟨c, (k.block b hl hF).trans hb, hs⟩
theorem MapK.keep {w w' : World} {d : TypeDesc} {b : Nat} {l : List MapEntry} (h : MapK w d b l) (hb : Below w.heap.size w w') : MapK w' d b l := h.only (F := fun _ => False) (Only.of_below hb) (fun h => h)
theorem MapK.alloc {w : World} {d : TypeDesc} {b : Nat} {l : List MapEntry} (h : MapK w d b l) (o : Obj) : MapK (w.alloc o) d b l := h.only (F := fun _ => False) ((Only.refl _ _).alloc _) (fun h => h)
theorem MapK.drew {w : World} {d : TypeDesc} {b : Nat} {l : List MapEntry} (h : MapK w d b l) : MapK w.drew d b l := h
theorem MapK.new (w : World) (d : TypeDesc) : MapK (w.alloc (.map #[] 0)) d w.heap.size [] := ⟨0, by show (w.heap.push _)[w.heap.size]? = _; simp, stamped_empty 0, fun _ h => absurd h List.not_mem_nil⟩
theorem MapK.of_empty {w : World} {d : TypeDesc} {b : Nat} (h : Mp w b #[]) : MapK w d b [] := by
  obtain ⟨c, h⟩ := h
  exact ⟨c, h, stamped_empty c, fun _ h => absurd h List.not_mem_nil⟩
theorem MapK.nodup {w : World} {d : TypeDesc} {b : Nat} {l : List MapEntry} (h : MapK w d b l) : (l.map (·.key)).Nodup := by
  obtain ⟨c, -, hs, -⟩ := h
  simpa using hs.2.2
theorem MapK.key {w : World} {d : TypeDesc} {b : Nat} {l : List MapEntry} (h : MapK w d b l) : ∀ x ∈ l, IsKey d x.key := by
  obtain ⟨c, -, -, hk⟩ := h
  exact hk

theorem isKey_str {d : TypeDesc} (hd : d = .string) {v : Value} (h : IsKey d v) : ∃ s, v = .string s := by
  subst hd
  cases v <;> simp [IsKey] at h
  exact ⟨_, rfl⟩
theorem isKey_int {v : Value} (h : IsKey (.int .i64) v) : ∃ n, v = .int .i64 n := by
  cases v <;> simp [IsKey] at h
  rename_i k n
  obtain rfl := h
  exact ⟨_, rfl⟩

section
variable {P : Program} {d : TypeDesc} {t k e : TypeId} (ht : P.underlying t = some (.map k e)) (hk : P.underlying k = some d) {b : Nat} {l : List MapEntry}
include ht hk

/-- What is found at a key. -/
theorem look_map {z : Value} (hz : ∀ w, (zeroValue e).run P w = .ok z w) {key : Value} (hkey : IsKey d key) (hks : ∀ x ∈ l, IsKey d x.key) :
    ((∀ x ∈ l, x.key ≠ key) ∧ ∀ w c, MapK w d b l → (Instr.lookup t (.map (some b)) key c).run P w = .ok (if c then .tuple #[z, .bool false] else z) w) ∨
    ∃ x ∈ l, x.key = key ∧ ∀ w c, MapK w d b l → (Instr.lookup t (.map (some b)) key c).run P w = .ok (if c then .tuple #[x.val, .bool true] else x.val) w := by
  rcases findNow_spec hkey l 0 hks with ⟨h1, h2⟩ | ⟨j, x, h1, h2, h3⟩
  · refine .inl ⟨h2, fun w c ⟨q, hb, _⟩ => ?_⟩
    have hc : ∀ i, (Instr.checkKey i 10000 k key).run P w = .ok () w := fun i => run_checkKey hk hkey i 9999
    simp [Instr.lookup, run_underlying ht, MapKept.run_getObj_map hb, hc, run_findKey hk h1, hz, Result.andThen]
  · refine .inr ⟨x, List.mem_of_getElem? h2, h3, fun w c ⟨q, hb, _⟩ => ?_⟩
    have hc : ∀ i, (Instr.checkKey i 10000 k key).run P w = .ok () w := fun i => run_checkKey hk hkey i 9999
    simp [Instr.lookup, run_underlying ht, MapKept.run_getObj_map hb, hc, run_findKey hk h1, Result.andThen]

/-- The entries behind a store. -/
def Upd (l : List MapEntry) (key v : Value) (l' : List MapEntry) : Prop :=
  ((∀ x ∈ l, x.key ≠ key) ∧ ∃ c, l' = l ++ [{ key := key, val := v, born := c }]) ∨ ∃ l1 x l2, l = l1 ++ x :: l2 ∧ x.key = key ∧ l' = l1 ++ { x with key := key, val := v } :: l2

theorem upd_map {key : Value} (hkey : IsKey d key) (v : Value) {w : World} (h : MapK w d b l) :
    ∃ l' c, (Instr.mapUpdate t (.map (some b)) key v).run P w = .ok () (setMap w b l'.toArray c) ∧ MapK (setMap w b l'.toArray c) d b l' ∧ Upd l key v l' := by
  obtain ⟨c, hb, hs, hks⟩ := h
  have hc : ∀ i, (Instr.checkKey i 10000 k key).run P w = .ok () w := fun i => run_checkKey hk hkey i 9999
  rcases findNow_spec hkey l 0 hks with ⟨h1, h2⟩ | ⟨j, x, h1, h2, h3⟩
  · refine ⟨l ++ [{ key := key, val := v, born := c }], c + 1, ?_, ⟨c + 1, ?_, ?_, ?_⟩, .inl ⟨h2, c, rfl⟩⟩
    · simp [Instr.mapUpdate, run_underlying ht, MapKept.run_getObj_map hb, hc, run_findKey hk h1, MapKept.run_setObj_map _ hb, Result.andThen, setMap]
    · have := (heap_set (o' := Obj.map (l ++ [({ key := key, val := v, born := c } : MapEntry)]).toArray (c + 1)) hb).1
      simpa [setMap] using this
    · have := stamped_push hs (key := key) (val := v) (by simpa using h2)
      simpa using this
    · intro x hx
      rcases List.mem_append.1 hx with hx | hx
      · exact hks x hx
      · rw [List.mem_singleton.1 hx]; exact hkey
  · obtain ⟨hj, rfl⟩ := List.getElem?_eq_some_iff.1 h2
    have hl : l = l.take j ++ l[j] :: l.drop (j + 1) := by rw [← List.drop_eq_getElem_cons hj, List.take_append_drop]
    have he : (l.toArray.modify j fun e => { e with key := key, val := v }) = (l.take j ++ ({ l[j] with key := key, val := v } : MapEntry) :: l.drop (j + 1)).toArray := by
      apply Array.toList_inj.1
      simp only [Array.toList_modify]
      apply List.ext_getElem?
      intro i
      rw [List.getElem?_modify]
      by_cases hi : j = i
      · subst hi
        rw [List.getElem?_append_right (by simp; omega)]
        simp [show min j l.length = j by omega, hj]
      · rw [show (fun a : MapEntry => if j = i then ({ key := key, val := v, born := a.born } : MapEntry) else a) = id by funext a; simp [hi], id_map]
        by_cases hlt : i < j
        · rw [List.getElem?_append_left (by simp; omega)]
          simp [hlt]
        · rw [List.getElem?_append_right (by simp; omega)]
          simp only [List.length_take, show min j l.length = j by omega]
          rw [show i - j = (i - j - 1) + 1 by omega, List.getElem?_cons_succ, List.getElem?_drop, show j + 1 + (i - j - 1) = i by omega]
    have hj2 : l.toArray[j]? = some l[j] := by simp [hj]
    refine ⟨l.take j ++ ({ l[j] with key := key, val := v } : MapEntry) :: l.drop (j + 1), c, ?_, ⟨c, ?_, ?_, ?_⟩, .inr ⟨_, _, _, hl, h3, rfl⟩⟩
    · rw [← he]
      simp [Instr.mapUpdate, run_underlying ht, MapKept.run_getObj_map hb, hc, run_findKey hk h1, hj, h3, run_keyThatStays hkey, MapKept.run_setObj_map _ hb, Result.andThen, setMap]
    · exact (heap_set hb).1
    · rw [← he]
      have hkk : ∀ e', l.toArray[j]? = some e' → ({ e' with key := key, val := v } : MapEntry).key = e'.key := fun e' he' => by rw [hj2] at he'; cases he'; exact h3.symm
      exact stamped_modify hs _ _ (fun _ _ => rfl) (fun e' _ he' => hkk e' he')
    · intro x hx
      rcases List.mem_append.1 hx with hx | hx
      · exact hks x (List.mem_of_mem_take hx)
      · rcases List.mem_cons.1 hx with rfl | hx
        · exact hkey
        · exact hks x (List.mem_of_mem_drop hx)

theorem del_map {key : Value} (hkey : IsKey d key) {w : World} (h : MapK w d b l) (ty : TypeId) :
    ∃ l' c, (Builtin.delete_ #[t, k] ty #[.map (some b), key]).run P w = .ok (.tuple #[]) (setMap w b l'.toArray c) ∧ MapK (setMap w b l'.toArray c) d b l' ∧ l'.Sublist l ∧ ∀ x ∈ l', x.key ≠ key := by
  have hnd := h.nodup
  obtain ⟨c, hb, hs, hks⟩ := h
  have hc : ∀ i, (Instr.checkKey i 10000 k key).run P w = .ok () w := fun i => run_checkKey hk hkey i 9999
  rcases findNow_spec hkey l 0 hks with ⟨h1, h2⟩ | ⟨j, x, h1, h2, h3⟩
  · refine ⟨l, c, ?_, ⟨c, (heap_set hb).1, hs, hks⟩, List.Sublist.refl _, h2⟩
    simp [Builtin.delete_, run_underlying ht, MapKept.run_getObj_map hb, hc, run_findKey hk h1, MapKept.run_setObj_map _ hb, Result.andThen, setMap]
  · obtain ⟨hj, rfl⟩ := List.getElem?_eq_some_iff.1 h2
    have he : l.toArray.eraseIdxIfInBounds j = (l.eraseIdx j).toArray := by
      apply Array.toList_inj.1
      unfold Array.eraseIdxIfInBounds
      rw [dif_pos (by simpa using hj)]
      simp
    refine ⟨l.eraseIdx j, c, ?_, ⟨c, ?_, ?_, ?_⟩, List.eraseIdx_sublist _ _, ?_⟩
    · rw [← he]
      simp [Builtin.delete_, run_underlying ht, MapKept.run_getObj_map hb, hc, run_findKey hk h1, MapKept.run_setObj_map _ hb, Result.andThen, setMap]
    · exact (heap_set hb).1
    · rw [← he]; exact stamped_erase hs j
    · exact fun x hx => hks x ((List.eraseIdx_sublist _ _).subset hx)
    · intro x hx e2
      have hl : l = l.take j ++ l[j] :: l.drop (j + 1) := by rw [← List.drop_eq_getElem_cons hj, List.take_append_drop]
      rw [hl] at hnd
      rw [List.eraseIdx_eq_take_drop_succ] at hx
      simp only [List.map_append, List.map_cons, List.nodup_append, List.nodup_cons] at hnd
      obtain ⟨-, ⟨hn, -⟩, hd⟩ := hnd
      rw [h3] at hn hd
      rcases List.mem_append.1 hx with hx | hx
      · exact hd x.key (List.mem_map.2 ⟨x, hx, rfl⟩) key (List.mem_cons_self ..) e2
      · exact hn (e2 ▸ List.mem_map.2 ⟨x, hx, rfl⟩)
end

section
variable {P : Program} {w : World} {ops : Array Oper} {rest : List Oper} {o : Oper} {a : Act} {Q : Exit → Act → World → Prop}

theorem wpList_upd_run (hg : o.guard = none) (t : TypeId) (m x v : Operand) (hop : o.op = Op.mapUpdate t m x v) {w' : World} (hrun : (Instr.mapUpdate t (a.eval m) (a.eval x) (a.eval v)).run P w = .ok () w')
    (hK : wpList P ops Q rest (a.put o.dst undef) w') : wpList P ops Q (o :: rest) a w := by
  refine wpList_plain hg fun K' hK' => ?_
  unfold Oper.wp
  simp [execOp, hop, hrun, Result.andThen]
  exact hK' _ _ hK
theorem wpList_del_run (hg : o.guard = none) (m x : Operand) (t k : TypeId) (hop : o.op = Op.call { callee := Callee.builtin Builtin.delete, args := #[m, x], argTypes := #[t, k] }) {w' : World}
    (hrun : (Builtin.delete_ #[t, k] o.type #[a.eval m, a.eval x]).run P w = .ok (.tuple #[]) w') (hK : wpList P ops Q rest (a.put o.dst (.tuple #[])) w') : wpList P ops Q (o :: rest) a w := by
  refine wpList_plain hg fun K' hK' => ?_
  unfold Oper.wp
  simp [execOp, hop, resolve, invoke, builtin, hrun, Result.andThen]
  exact hK' _ _ hK
theorem wpList_len_map (hg : o.guard = none) (m : Operand) (t : TypeId) (hop : o.op = Op.call { callee := Callee.builtin Builtin.len, args := #[m], argTypes := #[t] })
    (k e : TypeId) (ht : P.underlying t = some (.map k e)) {d : TypeDesc} (b : Nat) (l : List MapEntry) (hm : a.eval m = .map (some b)) (h : MapK w d b l)
    (hK : wpList P ops Q rest (a.put o.dst (.int .i64 l.length)) w) : wpList P ops Q (o :: rest) a w := by
  obtain ⟨c, hb, -⟩ := h
  have hrun : (Builtin.len_ #[t] o.type #[.map (some b)]).run P w = .ok (.int .i64 l.length) w := by
    simp [Builtin.len_, Builtin.lenOf, run_underlying ht, MapKept.run_getObj_map hb, goInt, Result.andThen]
  refine wpList_plain hg fun K' hK' => ?_
  unfold Oper.wp
  simp [execOp, hop, resolve, invoke, builtin, hm, hrun, Result.andThen]
  exact hK' _ _ hK

/-- Block r goes over map b: what is left of it. -/
def Iter (w : World) (d : TypeDesc) (b r : Nat) (l left : List MapEntry) : Prop := ∃ c since seen c0, w.heap[b]? = some (.map l.toArray c) ∧ Stamped l.toArray c ∧ (∀ x ∈ l, IsKey d x.key) ∧
  w.heap[r]? = some (.mapIter (some b) since seen c0) ∧ (∀ x ∈ l, x.born < since) ∧ since ≤ c0 ∧ c0 ≤ c ∧ left = (leftOf l.toArray seen).toList
theorem Iter.map {d : TypeDesc} {b r : Nat} {l left : List MapEntry} (h : Iter w d b r l left) : MapK w d b l := by
  obtain ⟨c, s, n, c0, hb, hs, hk, -⟩ := h
  exact ⟨c, hb, hs, hk⟩
theorem Iter.only {F : Nat → Prop} {w' : World} {d : TypeDesc} {b r : Nat} {l left : List MapEntry} (h : Iter w d b r l left) (k : Only F w w') (hb : ¬ F b) (hr : ¬ F r) : Iter w' d b r l left := by
  obtain ⟨c, s, n, c0, hb', hs, hk, hr', h⟩ := h
  exact ⟨c, s, n, c0, (k.block b (Array.getElem?_eq_some_iff.1 hb').1 hb).trans hb', hs, hk, (k.block r (Array.getElem?_eq_some_iff.1 hr').1 hr).trans hr', h⟩
theorem Iter.sub {d : TypeDesc} {b r : Nat} {l left : List MapEntry} (h : Iter w d b r l left) : ∀ x ∈ left, x ∈ l := by
  obtain ⟨c, s, n, c0, hb', hs, hk, hr', -, -, -, rfl⟩ := h
  intro x hx
  have := (mem_left hx).1
  simpa using this
theorem Iter.ne {d : TypeDesc} {b r : Nat} {l left : List MapEntry} (h : Iter w d b r l left) : b ≠ r := by
  obtain ⟨c, s, n, c0, hb', hs, hk, hr', -, -, -, rfl⟩ := h
  rintro rfl
  rw [hb'] at hr'
  cases hr'
theorem Iter.ltr {d : TypeDesc} {b r : Nat} {l left : List MapEntry} (h : Iter w d b r l left) : r < w.heap.size := by
  obtain ⟨c, s, n, c0, hb', hs, hk, hr', -⟩ := h
  exact (Array.getElem?_eq_some_iff.1 hr').1

theorem wpList_range_map (hg : o.guard = none) (m : Operand) (t : TypeId) (hop : o.op = Op.range t m) (k e : TypeId) (ht : P.underlying t = some (.map k e)) {d : TypeDesc} (b : Nat) (l : List MapEntry) (hm : a.eval m = .map (some b)) (h : MapK w d b l)
    (hK : ∀ w', Iter w' d b w.heap.size l l → Below w.heap.size w w' → w'.heap.size = w.heap.size + 1 → wpList P ops Q rest (a.put o.dst (.pointer (some ⟨w.heap.size, 0, none⟩))) w') :
    wpList P ops Q (o :: rest) a w := by
  have hlt := h.lt
  obtain ⟨c, hb, hs, hks⟩ := h
  have hrun := run_range_map w t k e b l.toArray c ht hb
  refine wpList_plain hg fun K' hK' => ?_
  unfold Oper.wp
  simp [execOp, hop, hm, hrun, Result.andThen]
  refine hK' _ _ (hK _ ⟨c, c, #[], c, (heap_alloc_old w _ hlt).trans hb, hs, hks, heap_alloc_new w _, fun x hx => hs.1 x (by simpa using hx), Nat.le_refl _, Nat.le_refl _, ?_⟩ ((Below.refl _ _).alloc (Nat.le_refl _) _) (by simp))
  simp [leftOf]
  exact (List.filter_eq_self.2 (fun _ _ => rfl)).symm

theorem only_setBlock {F : Nat → Prop} {w w' : World} (h : Only F w w') (r : Nat) (hr : r < w.heap.size → F r) (ob : Obj) : Only F w (setBlock w' r ob) :=
  ⟨h.os, h.tape, h.output, by simpa [setBlock] using h.size, fun k hk hn => by
    have hne : r ≠ k := fun e => hn (e ▸ hr (e ▸ hk))
    rw [← h.block k hk hn]
    simp [setBlock, Array.getElem?_setIfInBounds, hne]⟩

theorem wpList_next_map (hg : o.guard = none) (it : Operand) (hop : o.op = Op.next it false) {d : TypeDesc} (b r : Nat) (l left : List MapEntry) (hit : a.eval it = .pointer (some ⟨r, 0, none⟩)) (h : Iter w d b r l left)
    (hDone : left = [] → wpList P ops Q rest (a.put o.dst (.tuple #[.bool false])) w)
    (hMore : ∀ (x : MapEntry) (left' : List MapEntry) (w' : World), x ∈ l → x ∈ left → left'.length < left.length → (∀ y ∈ left', y ∈ left) → Iter w' d b r l left' → Only (fun y => y = r) w w' → w'.heap.size = w.heap.size →
      (Instr.entry (.pointer (some ⟨r, 0, none⟩))).run P w' = .ok (.tuple #[x.key, x.val]) w' → wpList P ops Q rest (a.put o.dst (.tuple #[.bool true, x.key, x.val])) w') :
    wpList P ops Q (o :: rest) a w := by
  have hne := h.ne
  obtain ⟨c, since, seen, c0, hb, hs, hks, hr, hold, hsc, hc0, rfl⟩ := h
  refine wpList_plain hg fun K' hK' => ?_
  unfold Oper.wp
  rcases run_next_at (P := P) w o.type r b since c0 seen l.toArray c hr hb (by simpa using hold) hsc with ⟨h0, hrun⟩ | ⟨x, hx, w1, hw1, hrun⟩
  · simp [execOp, hop, hit, hrun, Result.andThen]
    exact hK' _ _ (hDone (List.length_eq_zero_iff.1 (by simpa using h0)))
  · simp [execOp, hop, hit, hrun, Result.andThen]
    have hxl : x ∈ l := by simpa using (mem_left hx).1
    have h1 : w1.heap = w.heap := by rcases hw1 with rfl | rfl <;> rfl
    have hb' : (setBlock w1 r (.mapIter (some b) since (seen.push x.born) c)).heap[b]? = some (.map l.toArray c) := by
      simp [setBlock, h1, Array.getElem?_setIfInBounds, hne.symm, hb]
    have hr' : (setBlock w1 r (.mapIter (some b) since (seen.push x.born) c)).heap[r]? = some (.mapIter (some b) since (seen.push x.born) c) := by
      have := (Array.getElem?_eq_some_iff.1 hr).1
      simp [setBlock, h1, Array.getElem?_setIfInBounds, this]
    have hO : Only (fun y => y = r) w w1 := by rcases hw1 with rfl | rfl; exact Only.refl _ _; exact (Only.refl _ _).drew
    refine hK' _ _ (hMore x (leftOf l.toArray (seen.push x.born)).toList _ hxl hx ?_ ?_ ⟨c, since, seen.push x.born, c, hb', hs, hks, hr', hold, by omega, Nat.le_refl _, rfl⟩ (only_setBlock hO r (fun _ => rfl) _) (by simp [setBlock, h1])
      (run_entry_at _ r b since seen l.toArray c x hr' hb' (by simpa using hxl) (by simpa using hs.2.1)))
    · simpa using left_shrinks l.toArray seen x hx
    · intro y hy
      have h := mem_left hy
      simp only [leftOf, Array.toList_filter, List.mem_filter]
      refine ⟨h.1, ?_⟩
      have h2 := h.2
      rw [contains_push] at h2
      simp at h2 ⊢
      exact h2.1
end
end Go.Proofs.YtbheebpfbabffaaGreat.Wat

namespace Go.Proofs.YtbheebpfbabffaaGreat.Wat
open Go.RowKit Go Go.Lib Mach

set_option maxHeartbeats 4000000 in
set_option maxRecDepth 100000 in
theorem search_safe (g : Nat) (cb : Array Value) (n : Nat) (I : World → Prop) (w : World) (eg : ∀ args w, (callFunc g args).run Tryz.prog w = .ok (.enter g args) w) (hsz : n < 4611686018427387904) (hI : I w)
    (hf : ∀ (w : World) (i : Nat), I w → i < n → Calls Tryz.prog g (#[.int .i64 i] ++ cb) w fun e w' => (∃ b, e = .returned (.bool b)) ∧ I w') :
    Calls Tryz.prog 36 #[.int .i64 n, .func (.func g) #[] cb] w fun e w' => ∃ r : Nat, r ≤ n ∧ e = .returned (.int .i64 r) ∧ I w' := by
  have HF : Aside _ := hf
  clear hf
  go_enter Tryz.func36, Tryz.ntmps36
  go_wp2
  go_loopg [5, 6] n (fun kx s5 s6 wr => ∃ (lo hi : Nat), s5 = .int .i64 lo ∧ s6 = .int .i64 hi ∧ lo ≤ hi ∧ hi ≤ n ∧ hi - lo ≤ kx ∧ I wr)
  case atStart => exact ⟨0, n, rfl, rfl, Nat.zero_le _, Nat.le_refl _, by omega, hI⟩
  case round =>
    obtain ⟨lo, hi, rfl, rfl, hlh, hin, hg, hIr⟩ := hrel
    by_cases hlt : lo < hi
    · have hc := HF.out wr ((lo + hi) / 2) hIr (by omega)
      rw [show (((lo + hi) / 2 : Nat) : Int) = ((lo : Int) + (hi : Int)) / 2 by omega] at hc
      go_wp2_with (go_at_fn g; refine hc.mono ?_; rintro e w' ⟨⟨bb, rfl⟩, hI2⟩; cases bb)
      · go_roundg (hi - ((lo + hi) / 2 + 1))
        case measure => omega
        case rel => exact ⟨(lo + hi) / 2 + 1, hi, by rw [show ((lo : Int) + (hi : Int)) / 2 + 1 = (((lo + hi) / 2 + 1 : Nat) : Int) by omega], rfl, by omega, hin, Nat.le_refl _, hI2⟩
      · go_roundg ((lo + hi) / 2 - lo)
        case measure => omega
        case rel => exact ⟨lo, (lo + hi) / 2, rfl, by rw [show ((lo : Int) + (hi : Int)) / 2 = (((lo + hi) / 2 : Nat) : Int) by omega], by omega, by omega, Nat.le_refl _, hI2⟩
    · obtain rfl : hi = lo := by omega
      go_wp2
      go_ret
      exact ⟨hi, hin, rfl, hIr⟩

theorem binOp_string_geq_w (t : TypeId) (a b : ByteArray) : binOp .geq t (.string a) (.string b) = pure (.bool !(Op.bytesLess a.toList b.toList)) := by simp [binOp, Op.stringOp]

set_option maxHeartbeats 4000000 in
set_option maxRecDepth 100000 in
theorem place_closure (pa pk b ib it j n c : Nat) (sk : Value) (key kk : ByteArray) (iv : Value) (w : World) (ha : w.cell? ⟨pa, 0, none⟩ = some (Ptr b)) (hk : w.cell? ⟨pk, 0, none⟩ = some (.string key))
    (hb : Blk w b #[.slice (some ⟨ib, 0, none⟩) n c, sk]) (hj : j < n) (hi : w.cell? ⟨ib, j, none⟩ = some (Ptr it)) (hit : Blk w it #[.string kk, iv]) :
    Calls Tryz.prog 179 (#[.int .i64 j] ++ #[.pointer (some ⟨pa, 0, none⟩), .pointer (some ⟨pk, 0, none⟩)]) w fun e w' => (∃ x, e = .returned (.bool x)) ∧ Below w.heap.size w w' := by
  have hgeq := binOp_string_geq_w
  have hbc := hb.cell
  have hic := hit.cell
  have d1 : w.drew.cell? ⟨pa, 0, none⟩ = some (Ptr b) := ha
  have d2 : w.drew.cell? ⟨pk, 0, none⟩ = some (.string key) := hk
  have d3 : ∀ o, w.drew.cell? ⟨b, o, none⟩ = _ := hbc
  have d4 : w.drew.cell? ⟨ib, j, none⟩ = some (Ptr it) := hi
  have d5 : ∀ o, w.drew.cell? ⟨it, o, none⟩ = _ := hic
  have hbd := (Below.refl w.heap.size w).drew
  clear ha hk hbc hic hi hb hit
  go_enter Tryz.func179, Tryz.ntmps179
  go_wp2_with fail
  go_region
  go_wp2
  go_ret
  exact ⟨⟨_, rfl⟩, hbd⟩

theorem eg_place : ∀ args w, (callFunc 179 args).run Tryz.prog w = .ok (.enter 179 args) w := enters_of Tryz.func179 (by kernel_rfl) rfl

set_option maxHeartbeats 4000000 in
set_option maxRecDepth 100000 in
/-- A node's place: from 0 to the number of its items. -/
theorem place_f (b : Nat) (s k : Value) (its B : List Nat) (key : ByteArray) (w : World) (hb : Blk w b #[s, k]) (hs : Arr w s its B) (hn : its.length ≤ 1000) (hits : ∀ i ∈ its, ∃ kk v, Blk w i #[.string kk, v]) :
    Calls Tryz.prog 163 #[Ptr b, .string key] w fun e w' => (∃ (i : Nat) (is : Bool), i ≤ its.length ∧ (is = true → i < its.length) ∧ e = .returned (.tuple #[.int .i64 i, .bool is])) ∧ Below w.heap.size w w' := by
  obtain ⟨rfl, rfl, rfl⟩ | ⟨ib, rest, rfl, hib, hm, hp, rfl⟩ := hs
  · have hB1 := (hb.alloc (.cells #[Ptr b] 228)).alloc (.cells #[.string key] 9)
    have hbel := bmore (bmore (Below.refl w.heap.size w) (.cells #[Ptr b] 228)) (.cells #[.string key] 9)
    have hpa : ((w.alloc (.cells #[Ptr b] 228)).alloc (.cells #[.string key] 9)).cell? ⟨w.heap.size, 0, none⟩ = some (Ptr b) := ((Blk.new w #[Ptr b] 228).alloc (.cells #[.string key] 9)).cell 0
    have hlt : w.heap.size < ((w.alloc (.cells #[Ptr b] 228)).alloc (.cells #[.string key] 9)).heap.size := by simp; omega
    have eg := eg_place
    go_enter Tryz.func163, Tryz.ntmps163
    have hc := hB1.cell
    go_wp2_with fail
    generalize (w.alloc (.cells #[Ptr b] 228)).alloc (.cells #[.string key] 9) = wa at *
    go_at_call 36
    refine (search_safe 179 _ 0 (fun w1 => Below wa.heap.size wa w1) wa eg (by omega) (Below.refl _ _) (fun _ i _ h => absurd h (Nat.not_lt_zero i))).mono ?_
    rintro e w1 ⟨r, hr, rfl, hI⟩
    obtain rfl : r = 0 := by omega
    have hb2 := bthen hbel hI
    have hpa2 := (keep0 hI hlt 0).trans hpa
    have hc2 := (hB1.keep hI).cell
    clear hc hpa hbel hI eg
    have d1 : w1.cell? ⟨w.heap.size, 0, none⟩ = some (Ptr b) := hpa2
    have d3 : ∀ o, w1.cell? ⟨b, o, none⟩ = _ := hc2
    go_wp2_with fail
    go_quiet (fail)
    go_wp2
    exact bodyPost_ret (v := .tuple #[.int .i64 0, .bool false]) (by simp [results, Tryz.results163, go_sem]) rfl ⟨⟨0, false, Nat.le_refl _, by simp, rfl⟩, hb2.os, hb2.tape, hb2.output, hb2.size, hb2.block⟩
  · obtain ⟨wa, hwa⟩ : ∃ wa, wa = (w.alloc (.cells #[Ptr b] 228)).alloc (.cells #[.string key] 9) := ⟨_, rfl⟩
    have hB1 := (hb.alloc (.cells #[Ptr b] 228)).alloc (.cells #[.string key] 9)
    have hI1 := (hib.alloc (.cells #[Ptr b] 228)).alloc (.cells #[.string key] 9)
    have hbel := bmore (bmore (Below.refl w.heap.size w) (.cells #[Ptr b] 228)) (.cells #[.string key] 9)
    have hpa := (Blk.new w #[Ptr b] 228).alloc (.cells #[.string key] 9)
    have hpk := Blk.new (w.alloc (.cells #[Ptr b] 228)) #[.string key] 9
    have hits1 : ∀ i ∈ its, ∃ kk v, Blk ((w.alloc (.cells #[Ptr b] 228)).alloc (.cells #[.string key] 9)) i #[.string kk, v] := fun i hi => by
      obtain ⟨kk, v, h⟩ := hits i hi
      exact ⟨kk, v, (h.alloc _).alloc _⟩
    rw [show (w.alloc (.cells #[Ptr b] 228)).heap.size = w.heap.size + 1 by simp] at hpk
    have eg := eg_place
    have hc := hB1.cell
    clear hb hib hits
    go_enter Tryz.func163, Tryz.ntmps163
    go_wp2_with fail
    rw [← hwa] at *
    clear hwa hc
    have at_it : ∀ w1 i, Below wa.heap.size wa w1 → i < its.length → ∃ it kk v, w1.cell? ⟨ib, i, none⟩ = some (Ptr it) ∧ Blk w1 it #[.string kk, v] := fun w1 i h hi => by
      obtain ⟨kk, v, hk⟩ := hits1 its[i] (List.getElem_mem _)
      refine ⟨its[i], kk, v, ?_, hk.keep h⟩
      rw [(hI1.keep h).cell, List.getElem?_toArray, List.getElem?_append_left (by simpa using hi)]
      simp [hi]
    go_at_call 36
    refine (search_safe 179 _ its.length (fun w1 => Below wa.heap.size wa w1) wa eg (by omega) (Below.refl _ _) (fun w1 i h hi => ?_)).mono ?_
    · obtain ⟨it, kk, v, h1, h2⟩ := at_it w1 i h hi
      exact (place_closure w.heap.size (w.heap.size + 1) b ib it i its.length _ k key kk v w1 ((hpa.keep h).cell 0) ((hpk.keep h).cell 0) (hB1.keep h) hi h1 h2).mono fun _ _ ⟨hx, hy⟩ => ⟨hx, bthen h hy⟩
    rintro e w1 ⟨r, hr, rfl, hI⟩
    have hb2 := bthen hbel hI
    have d1 : ∀ o, w1.cell? ⟨w.heap.size, o, none⟩ = _ := (hpa.keep hI).cell
    have d2 : ∀ o, w1.cell? ⟨w.heap.size + 1, o, none⟩ = _ := (hpk.keep hI).cell
    have d3 : ∀ o, w1.cell? ⟨b, o, none⟩ = _ := (hB1.keep hI).cell
    by_cases hlt : r < its.length
    · obtain ⟨it, kk, v, h1, h2⟩ := at_it w1 r hI hlt
      have d4 : w1.cell? ⟨ib, r, none⟩ = some (Ptr it) := h1
      have d5 : ∀ o, w1.cell? ⟨it, o, none⟩ = _ := h2.cell
      clear h1 h2 at_it hits1 hI1 hB1 hpa hpk hbel hI eg hp hm
      go_wp2_with fail
      go_quiet (fail)
      go_wp2
      exact bodyPost_ret (v := .tuple #[.int .i64 r, .bool (kk.toList == key.toList)]) (by simp [results, Tryz.results163, go_sem]) rfl ⟨⟨r, _, hr, fun _ => hlt, rfl⟩, hb2.os, hb2.tape, hb2.output, hb2.size, hb2.block⟩
    · clear at_it hits1 hI1 hB1 hpa hpk hbel hI eg hp hm
      go_wp2_with fail
      go_quiet (fail)
      go_wp2
      exact bodyPost_ret (v := .tuple #[.int .i64 r, .bool false]) (by simp [results, Tryz.results163, go_sem]) rfl ⟨⟨r, false, hr, by simp, rfl⟩, hb2.os, hb2.tape, hb2.output, hb2.size, hb2.block⟩

end Go.Proofs.YtbheebpfbabffaaGreat.Wat

