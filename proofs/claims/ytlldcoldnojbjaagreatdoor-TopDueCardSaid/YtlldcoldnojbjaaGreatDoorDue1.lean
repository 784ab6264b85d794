/- What a clerk says is due: the plain law and the contract, at the job of the statement. -/
import Derived.Test.YtlldcoldnojbjaaGreatDoorCronNext
import Derived.Test.YtlldcoldnojbjaaGreatDoorCronParse
import Derived.Test.YtlldcoldnojbjaaGreatDoorJobName
import Derived.Test.YtlldcoldnojbjaaGreatDoorCronBack
import Derived.Laws.Cover1
namespace Go.Proofs.YtlldcoldnojbjaaGreatDoor.Cron
open Go.RowKit Go Go.Proofs.YtlldcoldnojbjaaGreatDoor.Cal

/-- What the statement's start gives: the tables that the library reads. -/
structure Laid (w : World) : Prop where
  tabs : Tabs w
  max : MaxOk w
  db : TabAt 2 Lib.deBruijn64tab w
theorem Laid.below {w w' : World} (h : Laid w) (hb : Below w.heap.size w w') : Laid w' := ⟨h.tabs.below hb, h.max.below hb, h.db.below hb⟩

theorem withinT (a n : Int) (w : World) (h1 : 0 < n) (h2 : n ≤ 4611686018427387904) :
    Calls Tryz.prog 6 #[.int .i64 a, .int .i64 n] w fun e w' => e = .returned (.int .i64 (a % n)) ∧ w = w' := by
  obtain ⟨t1, t2, t3, t4⟩ := tmod_within a n h1
  have hz : (n == 0) = false := by simp; omega
  by_cases c : a.tmod n < 0
  · have H := Lib.hid (t1 c)
    clear t1 t2
    go_enter Tryz.func6, Tryz.ntmps6
    go_wp2
    go_ret
    exact ⟨ret_int H.out, rfl⟩
  · have H := Lib.hid (t2 c)
    clear t1 t2
    go_enter Tryz.func6, Tryz.ntmps6
    go_wp2
    go_ret
    exact ⟨ret_int H.out, rfl⟩

theorem name_one : Go.Proofs.YtlldcoldnojbjaaGreatDoor.Job.nameB ⟨#[97]⟩ = true := by
  rw [Go.Proofs.YtlldcoldnojbjaaGreatDoor.Job.nameB_iff]
  refine ⟨fun i h _ => ?_, by decide, by decide⟩
  have h1 : i < 1 := h
  obtain rfl : i = 0 := by omega
  show Go.Proofs.YtlldcoldnojbjaaGreatDoor.Job.nch 0 (97 : UInt8) = true
  decide

/-- After the minute a nothing but m can come, and it comes just if it matches. -/
theorem next_due {e : Ex} {a m r c : Int} (h : NextIs e a r c) (h1 : 0 ≤ a + 1) (h2 : m ≤ 60000000) (h3 : a = m - 1 ∨ a = m - 2 ∧ mt e (m - 1) = false) :
    (mt e m = true → r = m ∧ c = 0) ∧ (mt e m = false → c = 0 → m < r) := by
  have hlt : a < m := by omega
  have hle : m ≤ a + 4216320 := by omega
  have key : ∀ q, a < q → q < m → mt e q = false := by
    intro q q1 q2
    rcases h3 with h3 | ⟨h3, h4⟩
    · omega
    · obtain rfl : q = m - 1 := by omega
      exact h4
  have hin : ∀ q, mt e q = false → ¬ isMatch e q := fun q hq hm => by rw [mt_true hm] at hq; cases hq
  rcases h with ⟨k, -⟩ | ⟨-, -, rfl, k4, k5, k6, k7⟩ | ⟨-, -, rfl, rfl, k5⟩
  · omega
  · refine ⟨fun hm => ?_, fun hm _ => ?_⟩
    · have hmm : isMatch e m := (mt_iff e m).1 hm
      refine ⟨?_, rfl⟩
      rcases Int.lt_trichotomy r m with h | h | h
      · exact absurd k6 (hin _ (key r k4 h))
      · exact h
      · exact absurd hmm (k7 m hlt h)
    · rcases Int.lt_trichotomy r m with h | h | h
      · exact absurd k6 (hin _ (key r k4 h))
      · subst h; exact absurd k6 (hin _ hm)
      · exact h
  · refine ⟨fun hm => absurd ((mt_iff e m).1 hm) (k5 m hlt hle), fun _ hc => ?_⟩
    exact absurd hc (by decide)

abbrev jobD (s : ByteArray) : Array Value := #[.string ⟨#[97]⟩, .string s, .int .i64 0, .int .i64 1, .int .i64 0, .bool false]

set_option maxHeartbeats 2000000 in
set_option maxRecDepth 100000 in
theorem check_due (s : ByteArray) (w : World) (hL : Laid w) (hs : s.size ≤ 140737488351232) (hp : (pres s).2 = 0) :
    Calls Tryz.prog 18 #[.agg (jobD s)] w fun x w' => x = .returned (.int .i64 0) ∧ Below w.heap.size w w' := by
  obtain ⟨pe, hpe⟩ : ∃ pe, pres s = pe := ⟨_, rfl⟩
  obtain ⟨⟨mi, ho, da, mo, wk, ad, aw⟩, c⟩ := pe
  rw [hpe] at hp
  obtain rfl : c = 0 := hp
  have HX := Lib.hid hpe
  clear hpe
  have HN := Lib.hid name_one
  go_enter Tryz.func18, Tryz.ntmps18
  go_wp2_with fail
  go_at_call 44
  refine (Go.Proofs.YtlldcoldnojbjaaGreatDoor.Job.name_any ⟨#[97]⟩ _ (by decide)).mono ?_
  rw [HN.out]
  rintro x w2 ⟨rfl, hb2⟩
  have hr2 := keepN hb2
  have hbel := bthen (bmore (Below.refl _ _) _) hb2
  clear hb2
  have hL2 := hL.below hbel
  go_wp2_with fail
  go_at_call 5
  refine (parse_any s _ hL2.tabs hL2.max (by omega)).mono ?_
  rintro x w3 ⟨hx, hb3⟩
  unfold ParPost exV at hx
  rw [HX.out] at hx
  subst hx
  have hbel3 := bthen hbel hb3
  clear hb3 hbel
  dsimp only
  go_wp2
  go_ret
  exact ⟨rfl, bmore hbel3 _⟩

/-- What Due answers. -/
theorem cneD {c : Int} (h : c ≠ 0) : (c == 0) = false ∧ (c != 0) = true := by simp [h]
theorem pres_ok (s : ByteArray) : ExOk (pres s).1 := by
  have key : ∀ e, ExFit e → ExOk e := by
    intro e h
    have big : ∀ b lo hi, InBd b lo hi → hi < 64 → b < 18446744073709551616 := by
      intro b lo hi hb hh
      apply Nat.lt_of_not_le
      intro hc
      obtain ⟨i, hi1, hi2⟩ := Nat.exists_ge_and_testBit_of_ge_two_pow (n := 64) (x := b) hc
      have := hb i hi2
      omega
    exact ⟨big _ _ _ h.mi.1 (by omega), big _ _ _ h.ho.1 (by omega), big _ _ _ h.da.1 (by omega), big _ _ _ h.mo.1 (by omega), big _ _ _ h.wk.1 (by omega)⟩
  unfold pres
  split
  · exact ⟨by decide, by decide, by decide, by decide, by decide⟩
  · split
    · exact ⟨by decide, by decide, by decide, by decide, by decide⟩
    · exact key _ (pex_fit _ _ ‹_›)

set_option maxHeartbeats 4000000 in
set_option maxRecDepth 100000 in
theorem due_any (s : ByteArray) (last m : Int) (w : World) (hL : Laid w) (hs : s.size ≤ 140737488351232) (hp : (pres s).2 = 0) (h0 : 0 ≤ last) (h1 : last < m) (h2 : m ≤ 60000000) (h3 : last = m - 1 ∨ last < m - 1 ∧ mt (pres s).1 (m - 1) = false) :
    Calls Tryz.prog 7 #[.agg (jobD s), .int .i64 last, .int .i64 m] w fun x w' => x = .returned (.tuple #[.int .i64 (if mt (pres s).1 m then m else 0), .bool (mt (pres s).1 m)]) ∧ Below w.heap.size w w' := by
  have HC := Lib.hid (fun w => check_due s w)
  obtain ⟨pe, hpe⟩ : ∃ pe, pres s = pe := ⟨_, rfl⟩
  have HO : Hid (ExOk pe.1) := by have h := pres_ok s; rw [hpe] at h; exact h
  obtain ⟨⟨mi, ho, da, mo, wk, ad, aw⟩, c⟩ := pe
  rw [hpe] at hp h3 ⊢
  obtain rfl : c = 0 := hp
  have HX := Lib.hid hpe
  have HP : Hid ((pres s).2 = 0) := by show _ = _; rw [hpe]
  clear hpe
  dsimp only at h3 ⊢
  obtain ⟨b, hb0⟩ : ∃ b, mt ⟨mi, ho, da, mo, wk, ad, aw⟩ m = b := ⟨_, rfl⟩
  have HD : Hid (∀ a r q, NextIs ⟨mi, ho, da, mo, wk, ad, aw⟩ a r q → (a = last ∧ m - 1 - 1 ≤ last ∨ a = m - 1 - 1 ∧ last < m - 1 - 1) → (b = true → r = m ∧ q = 0) ∧ (b = false → q = 0 → m < r)) := by
    intro a r q hn ha
    have := next_due hn (by omega) (m := m) (by omega) (by
      rcases h3 with h3 | ⟨h3, h4⟩
      · left; omega
      · right; exact ⟨by omega, h4⟩)
    rw [hb0] at this
    exact this
  rw [hb0]
  clear hb0 h3
  go_enter Tryz.func7, Tryz.ntmps7
  go_wp2_with fail
  go_at_call 18
  refine (HC.out _ (hL.below (bmore (Below.refl _ _) _)) hs HP.out).mono ?_
  rintro x w2 ⟨rfl, hb2⟩
  have hc2 := keepN hb2
  have hz2 := size1 hb2
  have hbel := bthen (bmore (Below.refl _ _) _) hb2
  have hL2 := hL.below hbel
  clear hb2
  go_wp2_with fail
  go_at_call 5
  refine (parse_any s _ hL2.tabs hL2.max (by omega)).mono ?_
  rintro x w3 ⟨hx, hb3⟩
  unfold ParPost exV at hx
  rw [HX.out] at hx
  subst hx
  have hc3 := fun o => (keep0 hb3 hz2 o).trans (hc2 o)
  have hz3 := Nat.lt_of_lt_of_le hz2 hb3.size
  have hbel3 := bthen hbel hb3
  have hL3 := hL.below (bmore hbel3 (.cells #[.int .u64 mi, .int .u64 ho, .int .u64 da, .int .u64 mo, .int .u64 wk, .bool ad, .bool aw] 25))
  clear hb3 hbel hc2 hz2 hL2
  dsimp only
  go_wp2_with fail
  · have hD := fun r q hn => HD.out (m - 1 - 1) r q hn (.inr ⟨rfl, by omega⟩)
    go_at_call 9
    refine (next_any ⟨mi, ho, da, mo, wk, ad, aw⟩ (m - 1 - 1) _ HO.out hL3.db).mono ?_
    rintro x w4 ⟨⟨r, q, rfl, hn⟩, hb4⟩
    have hD2 := hD r q hn
    have hbel4 := bthen (bmore hbel3 _) hb4
    clear hD hn hb4 hbel3 hL3 hc3 hz3
    cases b with
    | true =>
      obtain ⟨rfl, rfl⟩ := hD2.1 rfl
      clear hD2
      go_wp2
      go_ret2
      exact ⟨rfl, hbel4⟩
    | false =>
      have hq := hD2.2 rfl
      clear hD2
      by_cases hq0 : q = 0
      · have hmr := hq hq0
        subst hq0
        clear hq
        go_wp2
        go_ret2
        exact ⟨rfl, hbel4⟩
      · obtain ⟨z1, z2⟩ := cneD hq0
        clear hq hq0
        go_wp2
        go_ret2
        exact ⟨rfl, hbel4⟩
  · have hD := fun r q hn => HD.out last r q hn (.inl ⟨rfl, by assumption⟩)
    go_at_call 9
    refine (next_any ⟨mi, ho, da, mo, wk, ad, aw⟩ last _ HO.out hL3.db).mono ?_
    rintro x w4 ⟨⟨r, q, rfl, hn⟩, hb4⟩
    have hD2 := hD r q hn
    have hbel4 := bthen (bmore hbel3 _) hb4
    clear hD hn hb4 hbel3 hL3 hc3 hz3
    cases b with
    | true =>
      obtain ⟨rfl, rfl⟩ := hD2.1 rfl
      clear hD2
      go_wp2
      go_ret2
      exact ⟨rfl, hbel4⟩
    | false =>
      have hq := hD2.2 rfl
      clear hD2
      by_cases hq0 : q = 0
      · have hmr := hq hq0
        subst hq0
        clear hq
        go_wp2
        go_ret2
        exact ⟨rfl, hbel4⟩
      · obtain ⟨z1, z2⟩ := cneD hq0
        clear hq hq0
        go_wp2
        go_ret2
        exact ⟨rfl, hbel4⟩
end Go.Proofs.YtlldcoldnojbjaaGreatDoor.Cron
