/- Maps with known entries, at the operation; the store's Write, its at, the write's now, closed, keys. -/
import Derived.WideMake
import Derived.MapKept
import Derived.Maps.OwnOps
import Derived.Maps.OwnSet
import Derived.Test.YtbheebpfbabffaaGreatMA
import Derived.Test.YtbheebpfbabffaaGreatShelf
set_option linter.unusedSimpArgs false
set_option linter.unusedVariables false
namespace Go.Proofs.YtbheebpfbabffaaGreat.Mach
open Go.RowKit Go

section
variable {P : Program} {w : World}
theorem run_look_none {t k e : TypeId} (ht : P.underlying t = some (.map k e)) (hk : P.underlying k = some .string) {z : Value} (hz : (zeroValue e).run P w = .ok z w) {b : Nat} (hb : Mp w b #[]) (s : ByteArray) (c : Bool) :
    (Instr.lookup t (.map (some b)) (.string s) c).run P w = .ok (if c then .tuple #[z, .bool false] else z) w := by
  obtain ⟨q, hb⟩ := hb
  have hf : Instr.findNow .string (.string s) ([] : List MapEntry) 0 = some none := rfl
  have hc : (Instr.checkKey true 10000 k (.string s)).run P w = .ok () w := MapKept.run_checkKey (k := .string s) hk (by simp [MapKept.IsKey]) true 9999
  simp [Instr.lookup, run_underlying ht, MapKept.run_getObj_map hb, hc, MapKept.run_findKey hk hf, hz, Result.andThen]
theorem run_look_none_int {t k e : TypeId} (ht : P.underlying t = some (.map k e)) {q : IntKind} (hk : P.underlying k = some (.int q)) {z : Value} (hz : (zeroValue e).run P w = .ok z w) {b : Nat} (hb : Mp w b #[]) (x : Int) (c : Bool) :
    (Instr.lookup t (.map (some b)) (.int q x) c).run P w = .ok (if c then .tuple #[z, .bool false] else z) w := by
  obtain ⟨q', hb⟩ := hb
  have hf : Instr.findNow (.int q) (.int q x) ([] : List MapEntry) 0 = some none := rfl
  have hc : (Instr.checkKey true 10000 k (.int q x)).run P w = .ok () w := MapKept.run_checkKey (k := .int q x) hk (by simp [MapKept.IsKey]) true 9999
  simp [Instr.lookup, run_underlying ht, MapKept.run_getObj_map hb, hc, MapKept.run_findKey hk hf, hz, Result.andThen]
theorem wpList_look_run {ops : Array Oper} {rest : List Oper} {o : Oper} {a : Act} {Q : Exit → Act → World → Prop} (hg : o.guard = none) (t : TypeId) (m x : Operand) (c : Bool) (hop : o.op = Op.lookup t m x c) {v : Value}
    (hrun : (Instr.lookup t (a.eval m) (a.eval x) c).run P w = .ok v w) (hK : wpList P ops Q rest (a.put o.dst v) w) : wpList P ops Q (o :: rest) a w := by
  refine wpList_plain hg fun K' hK' => ?_
  unfold Oper.wp
  simp [execOp, hop, hrun, Result.andThen]
  exact hK' _ _ hK
end

/-- The world with a map's entries laid anew. -/
def setMap (w : World) (r : Nat) (es : Array MapEntry) (c : Nat) : World := { w with heap := w.heap.setIfInBounds r (.map es c) }

/-- Whatever was there and is not of F is as it was. -/
structure Only (F : Nat → Prop) (w w' : World) : Prop where
  os : w'.os = w.os
  tape : w'.tape = w.tape
  output : w'.output = w.output
  size : w.heap.size ≤ w'.heap.size
  block : ∀ k, k < w.heap.size → ¬ F k → w'.heap[k]? = w.heap[k]?
theorem Only.refl (F : Nat → Prop) (w : World) : Only F w w := ⟨rfl, rfl, rfl, Nat.le_refl _, fun _ _ _ => rfl⟩
theorem Only.of_below {F : Nat → Prop} {w w' : World} (h : Below w.heap.size w w') : Only F w w' := ⟨h.os, h.tape, h.output, h.size, fun k hk _ => h.block k hk⟩
theorem Only.trans {F G : Nat → Prop} {a b c : World} (h : Only F a b) (k : Only G b c) (hF : ∀ x, x < a.heap.size → G x → F x) : Only F a c :=
  ⟨k.os.trans h.os, k.tape.trans h.tape, k.output.trans h.output, Nat.le_trans h.size k.size, fun i hi hn => (k.block i (Nat.lt_of_lt_of_le hi h.size) (fun g => hn (hF i hi g))).trans (h.block i hi hn)⟩
theorem Only.then {F : Nat → Prop} {a b c : World} (h : Only F a b) (k : Below b.heap.size b c) : Only F a c := h.trans (Only.of_below (F := F) k) (fun _ _ h => h)
theorem Only.alloc {F : Nat → Prop} {a b : World} (h : Only F a b) (o : Obj) : Only F a (b.alloc o) := h.then (bmore (Below.refl _ _) o)
theorem Only.drew {F : Nat → Prop} {a b : World} (h : Only F a b) : Only F a b.drew := ⟨h.os, h.tape, h.output, h.size, h.block⟩
theorem Only.set {F : Nat → Prop} {a b : World} (h : Only F a b) (p : Addr) (hp : p.block < a.heap.size → F p.block) (v : Value) : Only F a (b.setCell p v) :=
  ⟨h.os, h.tape, h.output, by simpa [World.setCell] using h.size, fun k hk hn => (Below.heap_setCell b p v k (fun e => hn (e ▸ hp (e ▸ hk)))).trans (h.block k hk hn)⟩
theorem Only.map {F : Nat → Prop} {a b : World} (h : Only F a b) (r : Nat) (hp : r < a.heap.size → F r) (es : Array MapEntry) (c : Nat) : Only F a (setMap b r es c) :=
  ⟨h.os, h.tape, h.output, by simpa [setMap] using h.size, fun k hk hn => by
    have hne : r ≠ k := fun e => hn (e ▸ hp (e ▸ hk))
    rw [← h.block k hk hn]
    simp [setMap, Array.getElem?_setIfInBounds, hne]⟩
theorem Only.below {F : Nat → Prop} {a b : World} (h : Only F a b) (N : Nat) (hN : N ≤ a.heap.size) (hF : ∀ k, k < N → ¬ F k) : Below N a b := ⟨h.os, h.tape, h.output, h.size, fun k hk => h.block k (by omega) (hF k hk)⟩
theorem Blk.only {F : Nat → Prop} {w w' : World} {b : Nat} {c : Array Value} (h : Blk w b c) (k : Only F w w') (hF : ¬ F b) : Blk w' b c := by
  have hl := h.lt
  obtain ⟨t, h⟩ := h
  exact ⟨t, (k.block b hl hF).trans h⟩
theorem Mp.only {F : Nat → Prop} {w w' : World} {b : Nat} {c : Array MapEntry} (h : Mp w b c) (k : Only F w w') (hF : ¬ F b) : Mp w' b c := by
  have hl := h.lt
  obtain ⟨t, h⟩ := h
  exact ⟨t, (k.block b hl hF).trans h⟩
theorem Blk.drew {w : World} {b : Nat} {c : Array Value} (h : Blk w b c) : Blk w.drew b c := h
theorem Mp.drew {w : World} {b : Nat} {c : Array MapEntry} (h : Mp w b c) : Mp w.drew b c := h
theorem Blk.setMap {w : World} {b r : Nat} {c : Array Value} (h : Blk w b c) (hne : b ≠ r) (es : Array MapEntry) (k : Nat) : Blk (setMap w r es k) b c := by
  obtain ⟨t, h⟩ := h
  refine ⟨t, ?_⟩
  simp only [Mach.setMap, Array.getElem?_setIfInBounds]
  rw [if_neg (fun e => hne e.symm)]; exact h
theorem Mp.setMap {w : World} {b r : Nat} {c : Array MapEntry} (h : Mp w b c) (hne : b ≠ r) (es : Array MapEntry) (k : Nat) : Mp (setMap w r es k) b c := by
  obtain ⟨t, h⟩ := h
  refine ⟨t, ?_⟩
  simp only [Mach.setMap, Array.getElem?_setIfInBounds]
  rw [if_neg (fun e => hne e.symm)]; exact h
theorem Mp.setSame {w : World} {b : Nat} {c : Array MapEntry} (h : Mp w b c) (es : Array MapEntry) (k : Nat) : Mp (Mach.setMap w b es k) b es := by
  have hl := h.lt
  refine ⟨k, ?_⟩
  simp only [Mach.setMap, Array.getElem?_setIfInBounds]
  simp [hl]

/-- Zero values. -/
theorem zero_vs (w : World) : (zeroValue 95).run Tryz.prog w = .ok (.slice none 0 0) w := by kernel_rfl
theorem zero_ch (w : World) : (zeroValue 107).run Tryz.prog w = .ok .nilIface w := by kernel_rfl
theorem zero_row (w : World) : (zeroValue 152).run Tryz.prog w = .ok (.agg #[.int .i64 0, .int .i64 0, .int .i64 0, .int .i64 0, .bool false, .slice none 0 0, .int .i64 0]) w := by kernel_rfl
def kv0 : Array Value := #[.string ⟨#[]⟩, .string ⟨#[]⟩, .int .i64 0, .int .i64 0, .int .i64 0, .int .i64 0]

theorem swrite (n : Nat) (w : World) (h : Fresh w n) : Calls Tryz.prog 117 #[.pointer (some ⟨n + 3, 0, none⟩)] w fun e w' => e = .returned (.pointer (some ⟨w.heap.size + 1, 0, none⟩)) ∧
    w' = ((w.setCell ⟨n + 3, 6, none⟩ (.pointer (some ⟨w.heap.size + 1, 0, none⟩))).alloc (.map #[] 0)).alloc (.cells #[.pointer (some ⟨n + 3, 0, none⟩), .slice none 0 0, .map (some w.heap.size), .int .i64 0] 281) := by
  have hmm := @run_makeMap Tryz.prog
  have hc := h.st.cell
  have hf := h.st.frz
  have hl := h.st.lt
  clear h
  go_enter Tryz.func117, Tryz.ntmps117
  go_wp2
  go_ret
  exact ⟨rfl, rfl⟩

set_option maxRecDepth 100000 in
theorem search_0 (f : Value) (w : World) : Calls Tryz.prog 36 #[.int .i64 0, f] w fun e w' => e = .returned (.int .i64 0) ∧ w = w' := by
  go_enter Tryz.func36, Tryz.ntmps36
  go_wp2
  refine wp_loop_rounds 1 ?_
  rw [rounds_succ]
  go_wp2
  go_ret
  exact ⟨rfl, rfl⟩
set_option maxRecDepth 100000 in
theorem insert_1 (b : Nat) (w : World) : Calls Tryz.prog 211 #[.slice (some ⟨b, 0, none⟩) 1 1, .int .i64 0, .int .i64 1] w fun e w' => e = .returned (.tuple #[]) ∧ w = w' := by
  go_enter Tryz.func211, Tryz.ntmps211
  go_wp2
  refine wp_loop_rounds 1 ?_
  rw [rounds_succ]
  go_wp2
  go_end0
  exact ⟨rfl, rfl⟩
set_option maxRecDepth 100000 in
theorem pdq_1 (b : Nat) (x : Int) (w : World) : Calls Tryz.prog 199 #[.slice (some ⟨b, 0, none⟩) 1 1, .int .i64 0, .int .i64 1, .int .i64 x] w fun e w' => e = .returned (.tuple #[]) ∧ w = w' := by
  go_enter Tryz.func199, Tryz.ntmps199
  go_wp2
  refine wp_loop_rounds 1 ?_
  rw [rounds_succ]
  go_wp2_with fail
  go_at_call 211
  refine (insert_1 _ _).mono ?_
  rintro e w' ⟨rfl, rfl⟩
  go_wp2
  exact bodyPost_ret (v := .tuple #[]) (by simp [results, Tryz.results199, go_sem]) rfl ⟨rfl, rfl⟩
set_option maxRecDepth 100000 in
theorem sort_1 (b : Nat) (w : World) : Calls Tryz.prog 172 #[.slice (some ⟨b, 0, none⟩) 1 1] w fun e w' => e = .returned (.tuple #[]) ∧ w = w' := by
  go_enter Tryz.func172, Tryz.ntmps172
  go_wp2_with fail
  go_at_call 166
  refine (Tryz.bits_Len 1 _ (by omega) (by omega)).mono ?_
  rintro e w' ⟨rfl, rfl⟩
  go_wp2_with fail
  go_at_call 199
  refine (pdq_1 _ _ _).mono ?_
  rintro e w' ⟨rfl, rfl⟩
  go_wp2
  go_end0
  exact ⟨rfl, rfl⟩
set_option maxRecDepth 100000 in
theorem compact_1 (b : Nat) (w : World) : Calls Tryz.prog 173 #[.slice (some ⟨b, 0, none⟩) 1 1] w fun e w' => e = .returned (.slice (some ⟨b, 0, none⟩) 1 1) ∧ w = w' := by
  go_enter Tryz.func173, Tryz.ntmps173
  go_wp2
  go_ret
  exact ⟨rfl, rfl⟩

set_option maxRecDepth 100000 in
theorem at_a (sb vb : Nat) (k : ByteArray) (r a b c : Int) (p q : Value) (w : World) (h : Blk w sb #[.int .i64 a, .int .i64 b, .int .i64 c, p, .map (some vb), .slice none 0 0, q]) (hm : Mp w vb #[]) :
    Calls Tryz.prog 70 #[.pointer (some ⟨sb, 0, none⟩), .string k, .int .i64 r] w fun e w' => e = .returned (.tuple #[.agg kv0, .bool false]) ∧ Below w.heap.size w w' := by
  have hc := h.cell
  have hl := h.lt
  unfold kv0
  go_enter Tryz.func70, Tryz.ntmps70
  go_wp2_with (at_lookup; refine wpList_look_run rfl _ _ _ _ rfl (run_look_none Tryz.underlying94 Tryz.underlying9 (zero_vs _) ((hm.alloc _).alloc _) _ _) ?_)
  go_at_call 36
  refine (search_0 _ _).mono ?_
  rintro e w' ⟨rfl, rfl⟩
  go_wp2
  exact bodyPost_ret (v := .tuple #[.agg kv0, .bool false]) (by simp [results, Tryz.results70, go_sem, kv0]) rfl ⟨rfl, bmore (bmore (bmore (Below.refl _ _) _) _) _⟩

/-- The store while a write is open: its block, its maps, the write's block and map. -/
structure Opened (w : World) (n q : Nat) : Prop where
  st : Blk w (n + 3) #[.int .i64 0, .int .i64 0, .int .i64 0, .pointer (some ⟨n + 1, 0, none⟩), .map (some (n + 2)), .slice none 0 0, .pointer (some ⟨q + 1, 0, none⟩)]
  vs : Mp w (n + 2) #[]
  by0 : Mp w q #[]
  wr : Blk w (q + 1) #[.pointer (some ⟨n + 3, 0, none⟩), .slice none 0 0, .map (some q), .int .i64 0]
theorem Opened.keep {w w' : World} {n q : Nat} (h : Opened w n q) (hb : Below w.heap.size w w') : Opened w' n q := ⟨h.st.keep hb, h.vs.keep hb, h.by0.keep hb, h.wr.keep hb⟩

set_option maxRecDepth 100000 in
/-- A pointer is itself. -/
theorem run_neq_ptr {P : Program} {t : TypeId} (ht : P.underlying t = some (.pointer (P.pointee t))) {k : Nat} (a : Addr) (w : World) (hz : (sizeOf (P.pointee t)).run P w = .ok k w) : (binOp .neq t (.pointer (some a)) (.pointer (some a))).run P w = .ok (.bool false) w := by
  have hd : ∀ d, (Op.equalIn (d + 1) t (.pointer (some a)) (.pointer (some a))).run P w = .ok true w := by
    intro d
    simp [Op.equalIn, run_underlying ht, hz, Result.andThen, sameAddr]
  have he : (Op.equal t (.pointer (some a)) (.pointer (some a))).run P w = .ok true w := hd 9999
  clear hd
  simp only [binOp]
  simp [he]
set_option maxRecDepth 100000 in
theorem closed_a (n q : Nat) (w : World) (h : Opened w n q) : Calls Tryz.prog 153 #[.pointer (some ⟨q + 1, 0, none⟩)] w fun e w' => e = .returned (.bool false) ∧ w = w' := by
  have hc := h.wr.cell
  have hs := h.st.cell
  have hp := run_neq_ptr (P := Tryz.prog) (t := 96) (k := 4) (by kernel_rfl) ⟨q + 1, 0, none⟩ w (by kernel_rfl)
  go_enter Tryz.func153, Tryz.ntmps153
  go_wp2
  go_ret
  exact ⟨rfl, rfl⟩

end Go.Proofs.YtbheebpfbabffaaGreat.Mach

