/- The plain laws and small contracts behind CronLawSteps. -/
import Derived.Test.YtdpaiaeaamokeaaDoorCronKnown
import Derived.OpenShut
import Derived.Deep.AppendLies
namespace Go.Proofs.YtdpaiaeaamokeaaDoor.Cron
open Go.RowKit Go Go.Proofs.YtdpaiaeaamokeaaDoor.Cal

/-- What comes behind a, again and again. -/
def Chain (e : Ex) : Int → List Int → Prop
  | _, [] => True
  | a, x :: xs => NextIs e a x 0 ∧ Chain e x xs
theorem chain_snoc (e : Ex) : ∀ (xs : List Int) (a y : Int), Chain e a xs → NextIs e (xs.getLastD a) y 0 → Chain e a (xs ++ [y])
  | [], a, y, _, h => ⟨h, trivial⟩
  | x :: xs, a, y, ⟨h1, h2⟩, h => ⟨h1, chain_snoc e xs x y h2 (by rw [List.getLastD_cons] at h; exact h)⟩
theorem next_pos {e : Ex} {a x : Int} (h : NextIs e a x 0) : a < x ∧ x ≤ a + 4216320 ∧ isMatch e x ∧ (∀ m, a < m → m < x → ¬ isMatch e m) ∧ -1035593280 ≤ x ∧ x ≤ 4223371679 := by
  rcases h with ⟨-, -, k⟩ | ⟨-, -, -, k4, k5, k6, k7⟩ | ⟨-, -, k, -⟩
  · omega
  · exact ⟨k4, k5, k6, k7, k6.1, k6.2.1⟩
  · omega
/-- The place k of a chain, and what stands ahead of it. -/
def before (a : Int) (xs : List Int) (k : Nat) : Int := if k = 0 then a else xs.getD (k - 1) 0
theorem chain_at (e : Ex) : ∀ (xs : List Int) (a : Int) (k : Nat), Chain e a xs → k < xs.length → NextIs e (before a xs k) (xs.getD k 0) 0
  | [], _, _, _, h => by simp at h
  | x :: xs, a, 0, ⟨h1, _⟩, _ => h1
  | x :: xs, a, k + 1, ⟨_, h2⟩, h => by
    have := chain_at e xs x k h2 (by simpa using h)
    unfold before at this ⊢
    cases k with
    | zero => simpa using this
    | succ k => simpa using this
theorem chain_gt (e : Ex) : ∀ (xs : List Int) (a : Int) (k : Nat), Chain e a xs → k < xs.length → a < xs.getD k 0
  | [], _, _, _, h => by simp at h
  | x :: xs, a, 0, ⟨h1, _⟩, _ => (next_pos h1).1
  | x :: xs, a, k + 1, ⟨h1, h2⟩, h => by
    have := chain_gt e xs x k h2 (by simpa using h)
    have := (next_pos h1).1
    simp at *
    omega
/-- From a minute between a chain's place and the next one back, the last one is that place. -/
theorem chain_prev (e : Ex) (xs : List Int) (a now : Int) (k : Nat) (h : Chain e a xs) (hk : k < xs.length) (hn : now = xs.getD k 0 ∨ (k + 1 < xs.length ∧ now = xs.getD (k + 1) 0 - 1)) : PrevIs e now a (xs.getD k 0) 0 := by
  have g := next_pos (chain_at e xs a k h hk)
  have gt := chain_gt e xs a k h hk
  rcases hn with rfl | ⟨hk2, rfl⟩
  · exact .inr (.inl ⟨g.2.2.2.2.1, g.2.2.2.2.2, gt, rfl, gt, by omega, by omega, g.2.2.1, fun m h1 h2 => by omega⟩)
  · have g2 := next_pos (chain_at e xs a (k + 1) h hk2)
    have e1 : before a xs (k + 1) = xs.getD k 0 := by simp [before]
    rw [e1] at g2
    exact .inr (.inl ⟨by omega, by omega, by omega, rfl, gt, by omega, by omega, g.2.2.1, fun m h1 h2 => g2.2.2.2.1 m h1 (by omega)⟩)
theorem own_below {w w' : World} {B : Nat} {e : TypeId} {z : Nat} {v : Value} {n : Nat} {xs : List Value} (h : w.ownsRow B e z v n xs) (hb : Below w.heap.size w w') : w'.ownsRow B e z v n xs :=
  h.kept (row := none) ⟨hb.os, hb.tape, hb.output, hb.size, fun k hk _ => hb.block k hk⟩ (by cases v.ownBlock <;> simp)
theorem last_at (xs : List Int) (m : Int) (k : Nat) (h : xs.length = k + 1) : xs.getLastD m = xs.getD k 0 := by
  rw [List.getLastD_eq_getLast?, List.getLast?_eq_getElem?, h, List.getD_eq_getElem?_getD, Nat.add_sub_cancel, List.getElem?_eq_getElem (by omega)]; rfl
theorem cneI {a b : Int} (h : a ≠ b) : (a == b) = false ∧ (a != b) = true := by simp [h]
theorem cneC {c : Int} (h : c ≠ 0) : (c == 0) = false ∧ (c != 0) = true := by simp [h]
theorem Tryd.infoInt : (Tryd.prog.info? 3).map (fun i => (i.zero, i.size, i.bytes)) = some (some (.int .i64 0), 1, 8) := by kernel_rfl
theorem within6y (a n : Int) (w : World) (h1 : 0 < n) (h2 : n ≤ 4611686018427387904) :
    Calls Tryd.prog 21 #[.int .i64 a, .int .i64 n] w fun e w' => (∃ q, e = .returned (.int .i64 q) ∧ 0 ≤ q ∧ q < n) ∧ w = w' :=
  (within6 a n w h1 h2).mono fun _ _ ⟨he, hw⟩ => ⟨⟨_, he, Int.emod_nonneg _ (by omega), Int.emod_lt_of_pos _ h1⟩, hw⟩

end Go.Proofs.YtdpaiaeaamokeaaDoor.Cron
