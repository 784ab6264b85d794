/- A slice of integers that comes in, opened, with its size. -/
import Derived.Test.YtdpaiaeaamokeaaDoorCronF
import Derived.SizedLaws
namespace Go.Proofs.YtdpaiaeaamokeaaDoor
open Go.ChangeShapes Go.WideShapes Go.ChangeAt Go.RowKit Go

theorem bytesOf_int : Tryd.prog.bytesOf 3 = 8 := by kernel_rfl
theorem lits_len (k : IntKind) (l : List Int) {H : Type} : (lits (H := H) k l).length = l.length := by simp [lits]
set_option maxRecDepth 100000 in
theorem open_is2 {H : Type} {enc : TypeId × Value → H} {w : World} {r : Reach} {b0 base : Nat} {spare : Nat → Bool} {held : Bool} {v : Value} {d : DataW H} {p : List MemPlace} {ts : List TypeId} {ds : List (DataW H)}
    (hsz : (DataW.weightsEach Tryd.prog ts ds).all (· ≤ reachBytes) = true) {j : Nat} (ht : ts[j]? = some 22) (hd : ds[j]? = some d)
    (hv : Value.okWide Tryd.prog w r b0 22 v) (h : DataW.Trod enc Tryd.prog w base spare held 22 v d p) :
    ∃ (ao : Option Addr) (cap : Nat) (xs : List Int), v = .slice ao xs.length cap ∧ SlOk w ao xs ∧ xs.length ≤ 140737488355328 := by
  have h0 := h
  obtain ⟨ao, cap, xs, rfl, hs, -⟩ := open_is hv h
  refine ⟨ao, cap, xs, rfl, hs, ?_⟩
  obtain ⟨fuel, hf⟩ := h0
  rcases open_ints Tryd.underlying22 Tryd.underlying3 cellsOf_int hf with ⟨hc, -⟩ | ⟨a, len, cap', zs, hc, -, hl, hm, hzl, hx, hcell, hwf⟩
  · simp [Value.cells] at hc
    have := hc.2.1
    simp [this]
  · simp [Value.cells] at hc
    have e := hc.2.1
    have hdd : d = .slice (lits .i64 (zs.take len)) (lits .i64 (zs.drop len)) := congrArg Prod.fst hx
    rw [hdd] at hd
    have := sized_slice hsz ht hd Tryd.underlying22
    rw [bytesOf_int, lits_len, lits_len, List.length_take, List.length_drop] at this
    have hb := reachBytes_lt
    have hle : len ≤ zs.length := by rw [hzl]; split <;> omega
    omega
end Go.Proofs.YtdpaiaeaamokeaaDoor
