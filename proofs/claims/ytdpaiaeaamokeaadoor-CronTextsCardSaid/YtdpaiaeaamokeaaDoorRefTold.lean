/- The statements' told: an expression as the document's. -/
import Derived.Test.YtdpaiaeaamokeaaDoorRefMatch
namespace Go.Proofs.YtdpaiaeaamokeaaDoor.Cron
open Go.RowKit Go Go.Proofs.YtdpaiaeaamokeaaDoor.Cal
theorem told_ret (b : Nat) (tmps : Array Value) (wf : World) (u0 u1 u2 u3 u4 u5 u6 : Value) {post : Ending → World → Prop} (h2 : tmps[2]?.getD undef = .pointer (some ⟨b, 0, none⟩))
    (S7 : ∀ o, wf.cell? ⟨b, o, none⟩ = (#[u0, u1, u2, u3, u4, u5, u6] : Array Value)[o]?)
    (hp : post (.returned (.agg #[u0, u1, u2, u3, u4, u5, u6])) wf) : bodyPost Tryd.prog Tryd.f18 post .ret ⟨tmps, []⟩ wf := by
  have s0 := S7 0
  have s1 := S7 1
  have s2 := S7 2
  have s3 := S7 3
  have s4 := S7 4
  have s5 := S7 5
  have s6 := S7 6
  simp at s0 s1 s2 s3 s4 s5 s6
  exact bodyPost_ret (v := .agg #[u0, u1, u2, u3, u4, u5, u6]) (by simp [results, Tryd.results18, go_sem, h2, s0, s1, s2, s3, s4, s5, s6]) rfl hp
set_option maxHeartbeats 1000000 in
set_option maxRecDepth 100000 in
theorem told6_any (e : Ex) (w : World) :
    Calls Tryd.prog 18 #[exV e] w fun x w' => x = .returned (exV e) ∧ Below w.heap.size w w' := by
  obtain ⟨mi, ho, da, mo, wk, ad, aw⟩ := e
  unfold exV
  dsimp only
  go_enter Tryd.func18, Tryd.ntmps18
  go_wp2
  exact told_ret (w.heap.size + 1) _ _ _ _ _ _ _ _ _ rfl (fun o => by have h := alloc_new (w.alloc (.cells #[.int .u64 mi, .int .u64 ho, .int .u64 da, .int .u64 mo, .int .u64 wk, .bool ad, .bool aw] 35)) #[.int .u64 mi, .int .u64 ho, .int .u64 da, .int .u64 mo, .int .u64 wk, .bool ad, .bool aw] 40 o; rw [show (w.alloc (.cells #[.int .u64 mi, .int .u64 ho, .int .u64 da, .int .u64 mo, .int .u64 wk, .bool ad, .bool aw] 35)).heap.size = w.heap.size + 1 by simp] at h; exact h) ⟨rfl, bmore (bmore (Below.refl _ _) _) _⟩
end Go.Proofs.YtdpaiaeaamokeaaDoor.Cron
