/- A job, a run that come in, opened, with their sizes. -/
import Derived.Test.YtdpaiaeaamokeaaDoorJobLawTexts
import Derived.SizedLaws
import Derived.ChangeSame
namespace Go.Proofs.YtdpaiaeaamokeaaDoor
open Go.ChangeShapes Go.WideShapes Go.ChangeAt Go.RowKit Go

theorem sized_part {H : Type} {P : Program} {ts : List TypeId} {ds : List (DataW H)} (h : (DataW.weightsEach P ts ds).all (· ≤ reachBytes) = true) {j : Nat} {t : TypeId} {parts : List (DataW H)} {fs : Array Field} (ht : ts[j]? = some t) (hd : ds[j]? = some (.agg parts)) (hu : P.underlying t = some (.struct fs))
    {i : Nat} {ti : TypeId} {bytes : List UInt8} (hi : (fs.toList.map (·.type))[i]? = some ti) (hp : parts[i]? = some (.lit (.string bytes))) : bytes.length ≤ reachBytes := by
  have h1 : bytes.length ∈ DataW.weightsEach P (fs.toList.map (·.type)) parts := DataW.weights_mem_each hi hp _ (by simp [DataW.weights])
  have h2 : bytes.length ∈ DataW.weights P t (.agg parts) := by simp only [DataW.weights, hu]; exact h1
  have := List.all_eq_true.1 h _ (DataW.weights_mem_each ht hd _ h2)
  simpa using this
theorem cells_intJ : Tryd.prog.cellsOf 3 = 1 := by kernel_rfl
theorem cells_strJ : Tryd.prog.cellsOf 9 = 1 := by kernel_rfl
theorem cells_boolJ : Tryd.prog.cellsOf 4 = 1 := by kernel_rfl
theorem cells_job : Tryd.prog.cellsOf 64 = 6 := by kernel_rfl
theorem cells_run : Tryd.prog.cellsOf 66 = 4 := by kernel_rfl
theorem str_size {s : ByteArray} (h : s.data.toList.length ≤ reachBytes) : s.size ≤ 140737488351232 := by
  have h2 : s.data.toList.length = s.size := by rw [Array.length_toList]; rfl
  have h3 : reachBytes = 140737488351232 := by decide
  omega

set_option maxRecDepth 100000 in
theorem open_job {H : Type} {enc : TypeId × Value → H} {w : World} {r : Reach} {b0 base : Nat} {spare : Nat → Bool} {held : Bool} {v : Value} {d : DataW H} {p : List MemPlace} {ts : List TypeId} {ds : List (DataW H)}
    (hsz : (DataW.weightsEach Tryd.prog ts ds).all (· ≤ reachBytes) = true) {j : Nat} (ht : ts[j]? = some 64) (hd : ds[j]? = some d)
    (hv : Value.okWide Tryd.prog w r b0 64 v) (h : DataW.Trod enc Tryd.prog w base spare held 64 v d p) :
    ∃ (nm cr : ByteArray) (pl dl kp : Int) (sus : Bool), v = Job.jobV nm cr pl dl kp sus ∧ (nm.size ≤ 140737488351232 ∧ cr.size ≤ 140737488351232) ∧ (-9223372036854775808 ≤ pl ∧ pl ≤ 9223372036854775807) ∧ (-9223372036854775808 ≤ dl ∧ dl ≤ 9223372036854775807) ∧ (-9223372036854775808 ≤ kp ∧ kp ≤ 9223372036854775807) := by
  obtain ⟨cs, rfl, hcs⟩ := okWide_struct Tryd.underlying64 hv
  obtain ⟨l⟩ := cs
  match l, hcs.trans cells_job with
  | [c0, c1, c2, c3, c4, c5], _ =>
    obtain ⟨fuel, hf⟩ := h
    obtain ⟨xs, n, _, hx, _, hlen, hg⟩ := DataW.trod_struct Tryd.underlying64 hf
    match xs, hlen with
    | [y0, y1, y2, y3, y4, y5], _ =>
      have hdd : d = .agg ([y0, y1, y2, y3, y4, y5].map (·.1)) := congrArg Prod.fst hx
      have g0 := hg 0 _ rfl
      have g1 := hg 1 _ rfl
      have g2 := hg 2 _ rfl
      have g3 := hg 3 _ rfl
      have g4 := hg 4 _ rfl
      have g5 := hg 5 _ rfl
      simp [Value.cells, cells_intJ, cells_strJ, cells_boolJ] at g0 g1 g2 g3 g4 g5
      obtain ⟨nm, e0, x0, -⟩ := DataW.trod_string Tryd.underlying9 g0
      obtain ⟨cr, e1, x1, -⟩ := DataW.trod_string Tryd.underlying9 g1
      obtain ⟨a2, e2, _, wf2⟩ := DataW.trod_int Tryd.underlying3 g2
      obtain ⟨a3, e3, _, wf3⟩ := DataW.trod_int Tryd.underlying3 g3
      obtain ⟨a4, e4, _, wf4⟩ := DataW.trod_int Tryd.underlying3 g4
      obtain ⟨a5, e5, _⟩ := DataW.trod_bool Tryd.underlying4 g5
      simp at e0 e1 e2 e3 e4 e5
      subst e0 e1 e2 e3 e4 e5
      rw [hdd] at hd
      have s0 := sized_part hsz ht hd Tryd.underlying64 (i := 0) (ti := 9) (bytes := nm.data.toList) rfl (by simp [x0])
      have s1 := sized_part hsz ht hd Tryd.underlying64 (i := 1) (ti := 9) (bytes := cr.data.toList) rfl (by simp [x1])
      exact ⟨nm, cr, a2, a3, a4, a5, rfl, ⟨str_size s0, str_size s1⟩, bounds_i64 wf2, bounds_i64 wf3, bounds_i64 wf4⟩
set_option maxRecDepth 100000 in
theorem open_run {H : Type} {enc : TypeId × Value → H} {w : World} {r : Reach} {b0 base : Nat} {spare : Nat → Bool} {held : Bool} {v : Value} {d : DataW H} {p : List MemPlace} {ts : List TypeId} {ds : List (DataW H)}
    (hsz : (DataW.weightsEach Tryd.prog ts ds).all (· ≤ reachBytes) = true) {j : Nat} (ht : ts[j]? = some 66) (hd : ds[j]? = some d)
    (hv : Value.okWide Tryd.prog w r b0 66 v) (h : DataW.Trod enc Tryd.prog w base spare held 66 v d p) :
    ∃ (nm : ByteArray) (a b c : Int), v = Job.runV nm a b c ∧ nm.size ≤ 140737488351232 ∧ (-9223372036854775808 ≤ a ∧ a ≤ 9223372036854775807) ∧ (-9223372036854775808 ≤ b ∧ b ≤ 9223372036854775807) ∧ (-9223372036854775808 ≤ c ∧ c ≤ 9223372036854775807) := by
  obtain ⟨cs, rfl, hcs⟩ := okWide_struct Tryd.underlying66 hv
  obtain ⟨l⟩ := cs
  match l, hcs.trans cells_run with
  | [c0, c1, c2, c3], _ =>
    obtain ⟨fuel, hf⟩ := h
    obtain ⟨xs, n, _, hx, _, hlen, hg⟩ := DataW.trod_struct Tryd.underlying66 hf
    match xs, hlen with
    | [y0, y1, y2, y3], _ =>
      have hdd : d = .agg ([y0, y1, y2, y3].map (·.1)) := congrArg Prod.fst hx
      have g0 := hg 0 _ rfl
      have g1 := hg 1 _ rfl
      have g2 := hg 2 _ rfl
      have g3 := hg 3 _ rfl
      simp [Value.cells, cells_intJ, cells_strJ, cells_boolJ] at g0 g1 g2 g3
      obtain ⟨nm, e0, x0, -⟩ := DataW.trod_string Tryd.underlying9 g0
      obtain ⟨a1, e1, _, wf1⟩ := DataW.trod_int Tryd.underlying3 g1
      obtain ⟨a2, e2, _, wf2⟩ := DataW.trod_int Tryd.underlying3 g2
      obtain ⟨a3, e3, _, wf3⟩ := DataW.trod_int Tryd.underlying3 g3
      simp at e0 e1 e2 e3
      subst e0 e1 e2 e3
      rw [hdd] at hd
      have s0 := sized_part hsz ht hd Tryd.underlying66 (i := 0) (ti := 9) (bytes := nm.data.toList) rfl (by simp [x0])
      exact ⟨nm, a1, a2, a3, rfl, str_size s0, bounds_i64 wf1, bounds_i64 wf2, bounds_i64 wf3⟩
end Go.Proofs.YtdpaiaeaamokeaaDoor
