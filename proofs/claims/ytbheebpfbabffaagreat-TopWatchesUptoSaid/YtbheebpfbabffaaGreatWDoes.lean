/- The machine's does, and do behind it. -/
import Derived.Test.YtbheebpfbabffaaGreatVX
import Derived.Test.YtbheebpfbabffaaGreatVY
set_option linter.unusedSimpArgs false
set_option linter.unusedVariables false
namespace Go.Proofs.YtbheebpfbabffaaGreat.Wat
open Go.RowKit Go Go.Lib Mach Go.MapKept

/-- A command, as it lies. -/
structure Cmd where
  cl : Int
  sq : Int
  kd : Int
  vi : Value
  vt : Value
  ve : Value
  le : Int
  tl : Int
  ti : Int
  rv : Int
def Cmd.cells (c : Cmd) : List Value := [.int .i64 c.cl, .int .i64 c.sq, .int .i64 c.kd, c.vi, c.vt, c.ve, .int .i64 c.le, .int .i64 c.tl, .int .i64 c.ti, .int .i64 c.rv]
/-- A command whose rows lie below block N. -/
def CmdAt (w : World) (N : Nat) (c : Cmd) : Prop := ∃ (I : List Ifr) (T E : List Opr), RdAt w N c.vi 5 Ifr.cells I ∧ RdAt w N c.vt 6 Opr.cells T ∧ RdAt w N c.ve 6 Opr.cells E
theorem CmdAt.keep {w w' : World} {N : Nat} {c : Cmd} (h : CmdAt w N c) (k : Below N w w') : CmdAt w' N c := by
  obtain ⟨I, T, E, h1, h2, h3⟩ := h
  exact ⟨I, T, E, h1.keep k, h2.keep k, h3.keep k⟩
theorem CmdAt.shape {w : World} {N : Nat} {c : Cmd} (h : CmdAt w N c) : ∃ (a1 a2 a3 : Option Addr) (n1 n2 n3 c1 c2 c3 : Nat), c.vi = .slice a1 n1 c1 ∧ c.vt = .slice a2 n2 c2 ∧ c.ve = .slice a3 n3 c3 := by
  obtain ⟨I, T, E, ⟨a1, c1, h1, -⟩, ⟨a2, c2, h2, -⟩, ⟨a3, c3, h3, -⟩⟩ := h
  exact ⟨a1, a2, a3, _, _, _, c1, c2, c3, h1, h2, h3⟩
/-- What a command does. -/
def deed (c : Cmd) : Value :=
  if c.kd = 0 then .iface 171 (.agg #[c.vi, c.vt, c.ve]) else
  if c.kd = 1 then .iface 175 (.agg #[.int .i64 c.le, .int .i64 c.tl]) else
  if c.kd = 2 then .iface 178 (.agg #[.int .i64 c.le]) else
  if c.kd = 3 then .iface 180 (.agg #[.int .i64 c.le]) else
  if c.kd = 4 then .iface 183 (.agg #[.int .i64 c.ti]) else
  if c.kd = 5 then .iface 184 (.agg #[]) else .nilIface

set_option maxHeartbeats 8000000 in
set_option maxRecDepth 100000 in
theorem does_f (cl sq kd le tl ti rv : Int) (a1 a2 a3 : Option Addr) (n1 n2 n3 c1 c2 c3 : Nat) (h6 : kd ≠ 6) (w : World) : Calls Tryz.prog 34 #[.agg #[.int .i64 cl, .int .i64 sq, .int .i64 kd, .slice a1 n1 c1, .slice a2 n2 c2, .slice a3 n3 c3, .int .i64 le, .int .i64 tl, .int .i64 ti, .int .i64 rv]] w
    fun e w' => e = .returned (deed ⟨cl, sq, kd, .slice a1 n1 c1, .slice a2 n2 c2, .slice a3 n3 c3, le, tl, ti, rv⟩) ∧ Below w.heap.size w w' := by
  unfold deed
  by_cases h0 : kd = 0
  · subst h0
    go_enter Tryz.func34, Tryz.ntmps34
    go_wp2
    go_ret
    exact ⟨rfl, bmore (Below.refl _ _) _⟩
  by_cases h1 : kd = 1
  · subst h1
    go_enter Tryz.func34, Tryz.ntmps34
    go_wp2
    go_ret
    exact ⟨rfl, bmore (Below.refl _ _) _⟩
  by_cases h2 : kd = 2
  · subst h2
    go_enter Tryz.func34, Tryz.ntmps34
    go_wp2
    go_ret
    exact ⟨rfl, bmore (Below.refl _ _) _⟩
  by_cases h3 : kd = 3
  · subst h3
    go_enter Tryz.func34, Tryz.ntmps34
    go_wp2
    go_ret
    exact ⟨rfl, bmore (Below.refl _ _) _⟩
  by_cases h4 : kd = 4
  · subst h4
    go_enter Tryz.func34, Tryz.ntmps34
    go_wp2
    go_ret
    exact ⟨rfl, bmore (Below.refl _ _) _⟩
  by_cases h5 : kd = 5
  · subst h5
    go_enter Tryz.func34, Tryz.ntmps34
    go_wp2
    go_ret
    exact ⟨rfl, bmore (Below.refl _ _) _⟩
  rw [if_neg h0, if_neg h1, if_neg h2, if_neg h3, if_neg h4, if_neg h5]
  go_enter Tryz.func34, Tryz.ntmps34
  go_wp2
  go_ret
  exact ⟨rfl, bmore (Below.refl _ _) _⟩

theorem mdo_f {w : World} {m : Ids} {cl : Int} {rev C : Nat} {chs : List Ver} {Ks : List Value} {S : List Nat} (h : Mc w m cl rev C chs Ks S) (hC : C + Ks.length + 32 ≤ 1000000) (hrev : rev ≤ 1000000) {N0 : Nat} {c : Cmd} (hc : CmdAt w N0 c) (hN0 : N0 ≤ w.heap.size) (hSN : ∀ y ∈ S, N0 ≤ y) :
    Calls Tryz.prog 33 #[Ptr m.mb, deed c] w (MdPost w m rev C chs Ks S) := by
  obtain ⟨I, T, E, h1, h2, h3⟩ := hc
  unfold deed
  split
  · exact mdo_trade h _ _ _ hC hrev I T E h1 h2 h3 hN0 hSN
  split
  · exact mdo_grant h _ _
  split
  · exact mdo_renewal h _
  split
  · exact mdo_revocation h _ hC hrev
  split
  · exact mdo_clock h _
  split
  · exact mdo_expiry h hC hrev
  · exact mdo_nil h
end Go.Proofs.YtbheebpfbabffaaGreat.Wat

