/- The row of the statement TopWatches, out of its walk: wherever the input's bulk is bounded the law returns true, and its arguments read as before. -/
import Derived.WalkKit
import Derived.ProofKit
import Derived.OpenShut
import Derived.ChangeOld
import Derived.Below
import Derived.JoinedCond
import Derived.Test.YtbheebpfbabffaaGreatRows
import Derived.Test.YtbheebpfbabffaaGreatWLoop
import Derived.Test.YtbheebpfbabffaaGreatME
set_option linter.unusedSimpArgs false
set_option linter.unusedVariables false
namespace Go.Proofs.YtbheebpfbabffaaGreat.topWatches
open Go.ChangeShapes Go.WideShapes Go.ChangeAt Go.RowKit Go Go.Proofs.YtbheebpfbabffaaGreat.Wat
set_option linter.unusedVariables false
theorem own : ownKnob Tryz.prog.godebug = none := by kernel_rfl
theorem laidOut : laidOutB Tryz.prog = true := by kernel_rfl
theorem cells_int : Tryz.prog.cellsOf 3 = 1 := by kernel_rfl
theorem cells_str : Tryz.prog.cellsOf 9 = 1 := by kernel_rfl
theorem cells_cmd : Tryz.prog.cellsOf 41 = 10 := by kernel_rfl
theorem cells_txn : Tryz.prog.cellsOf 39 = 3 := by kernel_rfl
theorem cells_if : Tryz.prog.cellsOf 167 = 5 := by kernel_rfl
theorem cells_op : Tryz.prog.cellsOf 72 = 6 := by kernel_rfl
theorem cells_ifs : Tryz.prog.cellsOf 36 = 1 := by kernel_rfl
theorem cells_ops : Tryz.prog.cellsOf 37 = 1 := by kernel_rfl

theorem list_of {α : Type} {P : Nat → α → Prop} : ∀ n : Nat, (∀ i, i < n → ∃ y, P i y) → ∃ l : List α, l.length = n ∧ ∀ i y, l[i]? = some y → P i y
  | 0, _ => ⟨[], rfl, fun i y h => by simp at h⟩
  | n + 1, h => by
    obtain ⟨l, hl, hp⟩ := list_of n (fun i hi => h i (by omega))
    obtain ⟨y, hy⟩ := h n (by omega)
    refine ⟨l ++ [y], by simp [hl], fun i z hz => ?_⟩
    rcases Nat.lt_or_ge i n with hi | hi
    · rw [List.getElem?_append_left (by omega)] at hz
      exact hp i z hz
    · rw [List.getElem?_append_right (by omega), hl] at hz
      obtain ⟨hlt, he⟩ := List.getElem?_eq_some_iff.1 hz
      have hi2 : i = n := by simp at hlt; omega
      subst hi2
      simp at he
      subst he
      exact hy

/-- A slice that reads, opened. -/
theorem open_rd {H : Type} {enc : TypeId × Value → H} {W : World} {held : Bool} {t e : TypeId} {size : Nat} {α : Type} (f : α → List Value) (Q : α → Prop) (hu : Tryz.prog.underlying t = some (.slice e)) (hsz : Tryz.prog.cellsOf e = size) (hpos : 0 < size)
    (hel : ∀ (fuel : Nat) (cs : List Value) (x : DataW H × List MemPlace), DataW.trod enc Tryz.prog W 0 (fun _ => true) held fuel e cs = some x → ∃ y : α, cs = f y ∧ Q y)
    {fuel : Nat} {cs : List Value} {x : DataW H × List MemPlace} (h : DataW.trod enc Tryz.prog W 0 (fun _ => true) held fuel t cs = some x) :
    ∃ (v : Value) (l : List α), cs = [v] ∧ RdAt W W.heap.size v size f l ∧ ∀ y ∈ l, Q y := by
  rcases DataW.trod_slice hu h with ⟨rfl, -⟩ | ⟨a, len, cap, elems, rest, n, -, rfl, -, -, -, -, hlen, hg, -⟩
  · exact ⟨_, [], rfl, ⟨none, 0, rfl, .inl rfl⟩, fun y hy => by simp at hy⟩
  · rw [hsz] at hg
    have hP : ∀ i, i < len → ∃ y : α, (Q y ∧ (f y).length = size) ∧ ∀ j u, (f y)[j]? = some u → W.cell? ((a.add (i * size)).add j) = some u := fun i hi => by
      have h1 := hg i hi
      rw [List.getElem?_eq_getElem (by omega)] at h1
      obtain ⟨cs, hcs, h2⟩ := Option.bind_eq_some_iff.1 h1
      obtain ⟨-, hl, hc⟩ := World.cells?_some hcs
      obtain ⟨y, rfl, hy⟩ := hel _ _ _ h2
      refine ⟨y, ⟨hy, hl⟩, fun j u hj => ?_⟩
      have hjl := (List.getElem?_eq_some_iff.1 hj).1
      exact (hc j (by omega)).trans hj
    obtain ⟨l, hl, hp⟩ := list_of len hP
    refine ⟨_, l, rfl, ⟨some a, cap, by rw [hl], ?_⟩, fun y hy => ?_⟩
    · cases l with
      | nil => exact .inl rfl
      | cons y0 l0 =>
        right
        obtain ⟨⟨-, hf0⟩, h0⟩ := hp 0 y0 rfl
        obtain ⟨b, o, sp⟩ := a
        obtain ⟨u0, hu0⟩ : ∃ u, (f y0)[0]? = some u := ⟨_, List.getElem?_eq_getElem (by omega)⟩
        have hc0 := h0 0 u0 hu0
        have hsp : sp = none := by simpa [Addr.add] using World.cell?_spot hc0
        subst hsp
        have had : ∀ j i, ((⟨b, o, none⟩ : Addr).add j).add i = ⟨b, o + j + i, none⟩ := fun j i => by
          unfold Addr.add
          by_cases hj : j = 0 <;> by_cases hi : i = 0 <;> simp [hj, hi]
        refine ⟨b, o, rfl, ?_, fun j x hx i u hu => ?_⟩
        · have hc1 : W.cell? ⟨b, o + 0 + 0, none⟩ = some u0 := by rw [← had 0 0]; simpa using hc0
          rcases Nat.lt_or_ge b W.heap.size with hb | hb
          · exact hb
          · have hn : W.heap[b]? = none := by simp [hb]
            simp [World.cell?, hn] at hc1
        · have := (hp j x hx).2 i u hu
          rw [had] at this
          exact this
    · obtain ⟨i, hi⟩ := List.getElem?_of_mem hy
      exact (hp i y hi).1.1

set_option maxRecDepth 100000 in
theorem open_int1 {H : Type} {enc : TypeId × Value → H} {W : World} {held : Bool} (fuel : Nat) (cs : List Value) (x : DataW H × List MemPlace) (h : DataW.trod enc Tryz.prog W 0 (fun _ => true) held fuel 3 cs = some x) : ∃ y : Int, cs = (fun x : Int => [Value.int .i64 x]) y ∧ True := by
  obtain ⟨n, rfl, -, -⟩ := DataW.trod_int Tryz.underlying3 h
  exact ⟨n, rfl, trivial⟩

set_option maxRecDepth 100000 in
theorem open_if1 {H : Type} {enc : TypeId × Value → H} {W : World} {held : Bool} (fuel : Nat) (cs : List Value) (x : DataW H × List MemPlace) (h : DataW.trod enc Tryz.prog W 0 (fun _ => true) held fuel 167 cs = some x) : ∃ y : Ifr, cs = Ifr.cells y ∧ True := by
  obtain ⟨xs, n, _, hx, hcs, hlen, hg⟩ := DataW.trod_struct Tryz.underlying167 h
  match cs, hcs.trans cells_if with
  | [c0, c1, c2, c3, c4], _ =>
    match xs, hlen with
    | [y0, y1, y2, y3, y4], _ =>
      have g0 := hg 0 _ rfl
      have g1 := hg 1 _ rfl
      have g2 := hg 2 _ rfl
      have g3 := hg 3 _ rfl
      have g4 := hg 4 _ rfl
      simp [cells_int, cells_str] at g0 g1 g2 g3 g4
      obtain ⟨s0, e0, -, -⟩ := DataW.trod_string Tryz.underlying9 g0
      obtain ⟨s1, e1, -, -⟩ := DataW.trod_int Tryz.underlying3 g1
      obtain ⟨s2, e2, -, -⟩ := DataW.trod_int Tryz.underlying3 g2
      obtain ⟨s3, e3, -, -⟩ := DataW.trod_int Tryz.underlying3 g3
      obtain ⟨s4, e4, -, -⟩ := DataW.trod_string Tryz.underlying9 g4
      simp at e0 e1 e2 e3 e4
      subst e0 e1 e2 e3 e4
      exact ⟨⟨s0, s1, s2, s3, s4⟩, rfl, trivial⟩

set_option maxRecDepth 100000 in
theorem open_op1 {H : Type} {enc : TypeId × Value → H} {W : World} {held : Bool} (fuel : Nat) (cs : List Value) (x : DataW H × List MemPlace) (h : DataW.trod enc Tryz.prog W 0 (fun _ => true) held fuel 72 cs = some x) : ∃ y : Opr, cs = Opr.cells y ∧ True := by
  obtain ⟨xs, n, _, hx, hcs, hlen, hg⟩ := DataW.trod_struct Tryz.underlying72 h
  match cs, hcs.trans cells_op with
  | [c0, c1, c2, c3, c4, c5], _ =>
    match xs, hlen with
    | [y0, y1, y2, y3, y4, y5], _ =>
      have g0 := hg 0 _ rfl
      have g1 := hg 1 _ rfl
      have g2 := hg 2 _ rfl
      have g3 := hg 3 _ rfl
      have g4 := hg 4 _ rfl
      have g5 := hg 5 _ rfl
      simp [cells_int, cells_str] at g0 g1 g2 g3 g4 g5
      obtain ⟨s0, e0, -, -⟩ := DataW.trod_int Tryz.underlying3 g0
      obtain ⟨s1, e1, -, -⟩ := DataW.trod_string Tryz.underlying9 g1
      obtain ⟨s2, e2, -, -⟩ := DataW.trod_string Tryz.underlying9 g2
      obtain ⟨s3, e3, -, -⟩ := DataW.trod_string Tryz.underlying9 g3
      obtain ⟨s4, e4, -, -⟩ := DataW.trod_int Tryz.underlying3 g4
      obtain ⟨s5, e5, -, -⟩ := DataW.trod_int Tryz.underlying3 g5
      simp at e0 e1 e2 e3 e4 e5
      subst e0 e1 e2 e3 e4 e5
      exact ⟨⟨s0, s1, s2, s3, s4, s5⟩, rfl, trivial⟩

set_option maxRecDepth 100000 in
theorem open_txn1 {H : Type} {enc : TypeId × Value → H} {W : World} {held : Bool} (fuel : Nat) (cs : List Value) (x : DataW H × List MemPlace) (h : DataW.trod enc Tryz.prog W 0 (fun _ => true) held fuel 39 cs = some x) :
    ∃ (vi vt ve : Value) (I : List Ifr) (T E : List Opr), cs = [vi, vt, ve] ∧ RdAt W W.heap.size vi 5 Ifr.cells I ∧ RdAt W W.heap.size vt 6 Opr.cells T ∧ RdAt W W.heap.size ve 6 Opr.cells E := by
  obtain ⟨xs, n, _, hx, hcs, hlen, hg⟩ := DataW.trod_struct Tryz.underlying39 h
  match cs, hcs.trans cells_txn with
  | [c0, c1, c2], _ =>
    match xs, hlen with
    | [y0, y1, y2], _ =>
      have g0 := hg 0 _ rfl
      have g1 := hg 1 _ rfl
      have g2 := hg 2 _ rfl
      simp [cells_ifs, cells_ops] at g0 g1 g2
      obtain ⟨v0, l0, e0, k0, -⟩ := open_rd Ifr.cells (fun _ => True) Tryz.underlying36 cells_if (by omega) open_if1 g0
      obtain ⟨v1, l1, e1, k1, -⟩ := open_rd Opr.cells (fun _ => True) Tryz.underlying37 cells_op (by omega) open_op1 g1
      obtain ⟨v2, l2, e2, k2, -⟩ := open_rd Opr.cells (fun _ => True) Tryz.underlying37 cells_op (by omega) open_op1 g2
      simp at e0 e1 e2
      subst e0 e1 e2
      exact ⟨_, _, _, l0, l1, l2, rfl, k0, k1, k2⟩

set_option maxRecDepth 100000 in
theorem open_cmd1 {H : Type} {enc : TypeId × Value → H} {W : World} {held : Bool} (fuel : Nat) (cs : List Value) (x : DataW H × List MemPlace) (h : DataW.trod enc Tryz.prog W 0 (fun _ => true) held fuel 41 cs = some x) : ∃ y : Cmd, cs = Cmd.cells y ∧ CmdAt W W.heap.size y := by
  obtain ⟨xs, n, _, hx, hcs, hlen, hg⟩ := DataW.trod_struct Tryz.underlying41 h
  match cs, hcs.trans cells_cmd with
  | [c0, c1, c2, c3, c4, c5, c6, c7, c8, c9], _ =>
    match xs, hlen with
    | [y0, y1, y2, y3, y4, y5, y6, y7], _ =>
      have g0 := hg 0 _ rfl
      have g1 := hg 1 _ rfl
      have g2 := hg 2 _ rfl
      have g3 := hg 3 _ rfl
      have g4 := hg 4 _ rfl
      have g5 := hg 5 _ rfl
      have g6 := hg 6 _ rfl
      have g7 := hg 7 _ rfl
      simp [cells_int, cells_txn] at g0 g1 g2 g3 g4 g5 g6 g7
      obtain ⟨s0, e0, -, -⟩ := DataW.trod_int Tryz.underlying3 g0
      obtain ⟨s1, e1, -, -⟩ := DataW.trod_int Tryz.underlying3 g1
      obtain ⟨s2, e2, -, -⟩ := DataW.trod_int Tryz.underlying3 g2
      obtain ⟨vi, vt, ve, I, T, E, e3, hI, hT, hE⟩ := open_txn1 _ _ _ g3
      obtain ⟨s4, e4, -, -⟩ := DataW.trod_int Tryz.underlying3 g4
      obtain ⟨s5, e5, -, -⟩ := DataW.trod_int Tryz.underlying3 g5
      obtain ⟨s6, e6, -, -⟩ := DataW.trod_int Tryz.underlying3 g6
      obtain ⟨s7, e7, -, -⟩ := DataW.trod_int Tryz.underlying3 g7
      simp at e0 e1 e2 e3 e4 e5 e6 e7
      obtain ⟨q3, q4, q5⟩ := e3
      subst e0 e1 e2 q3 q4 q5 e4 e5 e6 e7
      exact ⟨⟨s0, s1, s2, _, _, _, s4, s5, s6, s7⟩, rfl, I, T, E, hI, hT, hE⟩

set_option maxRecDepth 100000 in
/-- What the walk gives, for every argument. -/
theorem contract (H : Type) (enc : TypeId × Value → H) (W : World) (base : Nat) (args : Array Value) (ds gs : List (DataW H)) (before : List MemPlace)
    (hval : ∀ (j : Nat) t v, Tryz.f3.params[j]? = some t → args[j]? = some v → Value.okWide Tryz.prog W .any base t v)
    (hW : DataW.Whole enc Tryz.prog Tryz.f3.params.toList Rows.topWatchesSpec.vars false W args.toList ds gs before) :
    Calls Tryz.prog 3 args W fun e W' => ∃ v, e = .returned v ∧ Rows.topWatchesSpec.post enc Tryz.prog Tryz.f3 false true false false W args v W' := by
  have hW' := hW
  obtain ⟨p, q, hA0, hV, rfl, hfz, hnd⟩ := hW
  have hA : DataW.TrodAll enc Tryz.prog W 0 (fun _ => true) true Tryz.f3.params.toList args.toList ds p := hA0
  rw [Tryz.params3] at hA hval
  obtain ⟨v0, vs0, d0, ds0, p0, q0, hargs, rfl, rfl, h0, r0⟩ := trodAll_cons hA
  obtain ⟨v1, vs1, d1, ds1, p1, q1, rfl, rfl, rfl, h1, r1⟩ := trodAll_cons r0
  obtain ⟨v2, vs2, d2, ds2, p2, q2, rfl, rfl, rfl, h2, r2⟩ := trodAll_cons r1
  obtain ⟨rfl, rfl, rfl⟩ := trodAll_nil r2
  obtain rfl : args = #[v0, v1, v2] := by cases args; simp_all
  obtain ⟨rfl, rfl⟩ := trodVars_none hV
  obtain ⟨b0, n0, k0, rfl⟩ := okWide_slice Tryz.underlying22 (hval 0 22 v0 rfl rfl)
  obtain ⟨b2, n2, k2, rfl⟩ := okWide_slice Tryz.underlying23 (hval 2 23 v2 rfl rfl)
  obtain ⟨fm, rfl, rfl, rfl, wf1⟩ := open_int Tryz.underlying3 (hval 1 3 v1 rfl rfl) h1
  have lt0 : ∀ x ∈ p0, x.block < W.heap.size := by obtain ⟨m, hm⟩ := h0; exact DataW.trod_lt m _ _ _ hm
  have lt2 : ∀ x ∈ p2, x.block < W.heap.size := by obtain ⟨m, hm⟩ := h2; exact DataW.trod_lt m _ _ _ hm
  obtain ⟨m0, hm0⟩ := id h0
  obtain ⟨m2, hm2⟩ := id h2
  obtain ⟨vl, l, e0, hl, hlc⟩ := open_rd Cmd.cells (CmdAt W W.heap.size) Tryz.underlying22 cells_cmd (by omega) open_cmd1 hm0
  obtain ⟨vp, ps, e2, hp, -⟩ := open_rd (fun x : Int => [Value.int .i64 x]) (fun _ => True) Tryz.underlying23 cells_int (by omega) open_int1 hm2
  simp [Value.cells] at e0 e2
  subst e0 e2
  clear hA0
  refine (watches_walk Mach.known_t ⟨hl, hlc⟩ hp (Nat.le_refl _) fm).mono fun e W' ⟨he, bel⟩ => ?_
  subst he
  exact ⟨_, rfl, _, _, _, [], _, [], hW', trodAll_mk1 (shut_bool Tryz.underlying4 _), (trodAll_cons_mk (Below.trod laidOut (by kernel_rfl) (of_decide_eq_true (by kernel_rfl)) h0 bel lt0) (trodAll_cons_mk (shut_int Tryz.underlying3 wf1) (trodAll_cons_mk (Below.trod laidOut (by kernel_rfl) (of_decide_eq_true (by kernel_rfl)) h2 bel lt2) trodAll_mk0))), rfl, bel.frame _, fun h => by cases h⟩

set_option maxRecDepth 100000 in
theorem lifted (os : Os) (started : os.Started) (H : Type) (enc : TypeId × Value → H) (F : Stop.Interp) :
    ReturnsInHanded {} Tryz.checked os 3 .any ((Rows.OpenSpec.upto Rows.topWatchesSpec).pre6 enc Tryz.prog Tryz.f3 Rows.topWatchesUptoRow.domain false) (((Rows.OpenSpec.upto Rows.topWatchesSpec).at F).post enc Tryz.prog Tryz.f3 false true false false) := by
  refine returnsInHanded_of_cond (C := Tryz.checked) (s := Rows.OpenSpec.upto Rows.topWatchesSpec) (k := Rows.uptoSmall) rfl own started (by kernel_rfl) Tryz.func3
    (OpenSpec.witness (enc := enc) (C := Tryz.checked) (s := Rows.OpenSpec.upto Rows.topWatchesSpec) (k := Rows.uptoSmall) rfl false ⟨#[], #[.slice none 0 0, .int .i64 0, .slice none 0 0], []⟩ 8 (by kernel_rfl) (by kernel_rfl) (by kernel_rfl)
      (x := ([.nil, .lit (.int .i64 0), .nil], [], [])) (by kernel_rfl) rfl (by kernel_rfl)) ?_
  intro W base args ds gs before hval hW _ hk _
  exact contract H enc W base args ds gs before hval hW

theorem over : Rows.topWatchesUptoRow.holds Tryz.pinned (Rows.OpenSpec.upto Rows.topWatchesSpec) :=
  OpenClaim.holds_of_cond 3 Tryz.f3 rfl rfl rfl rfl rfl rfl rfl ⟨rfl, rfl, rfl, rfl, rfl⟩ rfl rfl rfl rfl rfl (by kernel_rfl) Tryz.func3 (by kernel_rfl)
    (of_decide_eq_true (by kernel_rfl)) (by unfold Func.isWrapper; first | (rw [if_pos (by decide +kernel)]; kernel_rfl) | (rw [if_neg (by decide +kernel)]; exact ⟨rfl, rfl⟩))
    (fun os started H enc _ F => lifted os started H enc F)

theorem proved : Rows.TopWatchesUptoSaid := over
#print axioms proved
end Go.Proofs.YtbheebpfbabffaaGreat.topWatches
namespace Go.Proofs.YtbheebpfbabffaaGreat
/-- The statement, under a short name, for the claim. -/
theorem topWatches_upto : Rows.TopWatchesUptoSaid := topWatches.proved
end Go.Proofs.YtbheebpfbabffaaGreat

