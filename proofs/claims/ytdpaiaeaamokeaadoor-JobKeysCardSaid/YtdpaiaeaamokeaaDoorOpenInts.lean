/- A slice of integers that comes in, opened. -/
import Derived.Test.YtdpaiaeaamokeaaDoorProg
import Derived.WalkKit
import Derived.ProofKit
import Derived.OpenShut
import Derived.ChangeSlices
import Derived.KernelRfl
import Derived.Lib.LaidU8
namespace Go.Proofs.YtdpaiaeaamokeaaDoor
open Go.ChangeShapes Go.WideShapes Go.ChangeAt Go.RowKit Go

/-- The cells of a slice of integers that came in. -/
def SlOk (w : World) (ao : Option Addr) (xs : List Int) : Prop :=
  ∀ i, i < xs.length → ∃ b o : Nat, ao = some ⟨b, o, none⟩ ∧ b < w.heap.size ∧ w.cell? ⟨b, o + i, none⟩ = some (.int .i64 (xs.getD i 0)) ∧ -9223372036854775808 ≤ xs.getD i 0 ∧ xs.getD i 0 ≤ 9223372036854775807
theorem cellsOf_int : Tryd.prog.cellsOf 3 = 1 := by kernel_rfl
set_option maxRecDepth 100000 in
theorem open_is {H : Type} {enc : TypeId × Value → H} {w : World} {r : Reach} {b0 base : Nat} {spare : Nat → Bool} {held : Bool} {v : Value} {d : DataW H} {p : List MemPlace}
    (hv : Value.okWide Tryd.prog w r b0 22 v) (h : DataW.Trod enc Tryd.prog w base spare held 22 v d p) :
    ∃ (ao : Option Addr) (cap : Nat) (xs : List Int), v = .slice ao xs.length cap ∧ SlOk w ao xs ∧ xs.length ≤ 9223372036854775807 := by
  obtain ⟨fuel, hf⟩ := h
  obtain ⟨a', len', cap', rfl⟩ := okWide_slice Tryd.underlying22 hv
  rcases open_ints Tryd.underlying22 Tryd.underlying3 cellsOf_int hf with ⟨hc, -⟩ | ⟨a, len, cap, zs, hc, -, hl, hm, hzl, -, hcell, hwf⟩
  · simp [Value.cells] at hc
    obtain ⟨rfl, rfl, rfl⟩ := hc
    exact ⟨none, 0, [], rfl, fun i hi => by simp at hi, by simp⟩
  · simp [Value.cells] at hc
    obtain ⟨rfl, rfl, rfl⟩ := hc
    have hle : len' ≤ zs.length := by rw [hzl]; split <;> omega
    have hxl : (zs.take len').length = len' := by rw [List.length_take]; omega
    refine ⟨some a, cap', zs.take len', by rw [hxl], fun i hi => ?_, by rw [hxl]; unfold maxLen at hm; omega⟩
    rw [hxl] at hi
    have hc := hcell i (by omega)
    obtain ⟨b, o, sp⟩ := a
    have hg : (zs.take len').getD i 0 = zs.getD i 0 := by
      rw [List.getD_eq_getElem?_getD, List.getD_eq_getElem?_getD, List.getElem?_take_of_lt hi]
    rw [hg]
    have h0 := hcell 0 (by omega)
    have hsp : sp = none := cell_spot (show w.cell? ⟨b, o, sp⟩ = some (.int .i64 (zs.getD 0 0)) by simpa [Addr.add] using h0)
    subst hsp
    have ha : (⟨b, o, none⟩ : Addr).add i = ⟨b, o + i, none⟩ := by unfold Addr.add; split <;> simp_all
    rw [ha] at hc
    have hb : b < w.heap.size := by
      by_cases c : b < w.heap.size
      · exact c
      · simp [World.cell?, Array.getElem?_eq_none (Nat.le_of_not_lt c)] at hc
    have hw := hwf (zs.getD i 0) (by rw [List.getD_eq_getElem?_getD, List.getElem?_eq_getElem (by omega)]; exact List.getElem_mem _)
    exact ⟨b, o, rfl, hb, hc, (bounds_i64 hw).1, (bounds_i64 hw).2⟩
end Go.Proofs.YtdpaiaeaamokeaaDoor
