/- Joined: a part of the proof of TopWatches. -/
import Derived.BigQuiet
import Derived.Test.YtbheebpfbabffaaGreatWPoll
set_option linter.unusedSimpArgs false
set_option linter.unusedVariables false
namespace Go.Proofs.YtbheebpfbabffaaGreat.Wat
open Go.RowKit Go Go.Lib Mach Go.MapKept

def fl (l : List Ver) (a b : Int) : List Ver := l.filter fun p => decide (a ≤ p.1) && decide (p.1 < b)
abbrev So (l : List Ver) : Prop := l.Pairwise fun a b => a.1 ≤ b.1
theorem fl_mem {l : List Ver} {a b : Int} {p : Ver} : p ∈ fl l a b ↔ p ∈ l ∧ a ≤ p.1 ∧ p.1 < b := by
  simp [fl, List.mem_filter]
theorem fl_nil {l : List Ver} {a b : Int} (h : ∀ p ∈ l, ¬ (a ≤ p.1 ∧ p.1 < b)) : fl l a b = [] := by
  rw [List.eq_nil_iff_forall_not_mem]
  intro p hp
  have := fl_mem.1 hp
  exact h p this.1 this.2
theorem fl_app (l m : List Ver) (a b : Int) : fl (l ++ m) a b = fl l a b ++ fl m a b := List.filter_append ..
theorem fl_all {l : List Ver} {a b : Int} (h : ∀ p ∈ l, a ≤ p.1 ∧ p.1 < b) : fl l a b = l := by
  unfold fl
  rw [List.filter_eq_self]
  intro p hp
  have := h p hp
  simp [this.1, this.2]
theorem fl_congr {l : List Ver} {a b c d : Int} (h : ∀ p ∈ l, (a ≤ p.1 ∧ p.1 < b) ↔ (c ≤ p.1 ∧ p.1 < d)) : fl l a b = fl l c d := by
  unfold fl
  apply List.filter_congr
  intro p hp
  rw [← Bool.decide_and, ← Bool.decide_and]
  exact decide_eq_decide.2 (h p hp)
theorem fl_split : ∀ {l : List Ver} {a b c : Int}, So l → a ≤ b → b ≤ c → fl l a c = fl l a b ++ fl l b c
  | [], _, _, _, _, _, _ => rfl
  | p :: l, a, b, c, hs, hab, hbc => by
    have hs' := List.pairwise_cons.1 hs
    have ih := fl_split hs'.2 hab hbc
    have hc : ∀ a b : Int, fl (p :: l) a b = if decide (a ≤ p.1) && decide (p.1 < b) then p :: fl l a b else fl l a b := fun a b => List.filter_cons ..
    rw [hc, hc, hc]
    by_cases h1 : p.1 < b
    · have h2 : p.1 < c := by omega
      have h3 : ¬ b ≤ p.1 := by omega
      by_cases h4 : a ≤ p.1
      · simp [h1, h2, h3, h4, ih]
      · simp [h1, h2, h3, h4, ih]
    · have h0 : fl l a b = [] := fl_nil (fun q hq h => by have := hs'.1 q hq; omega)
      have h2 : b ≤ p.1 := by omega
      have h3 : a ≤ p.1 := by omega
      rw [h0, List.nil_append] at ih
      by_cases h4 : p.1 < c
      · simp [h1, h2, h3, h4, ih, h0]
      · simp [h1, h2, h3, h4, ih, h0]
theorem at_fl {chs : List Ver} {pl : Int} {k : Nat} {rev : Int} (h : At chs pl k) (hr : ∀ p ∈ chs, p.1 ≤ rev) : chs.drop k = fl chs pl (rev + 1) := by
  have h1 : fl (chs.take k ++ chs.drop k) pl (rev + 1) = chs.drop k := by
    rw [fl_app, fl_nil (l := chs.take k) (fun p hp h2 => by have := h.2.1 p hp; omega), List.nil_append]
    exact fl_all fun p hp => ⟨h.2.2 p hp, by have := hr p (List.mem_of_mem_drop hp); omega⟩
  rw [List.take_append_drop] at h1
  exact h1.symm
theorem so_sub {l m : List Ver} (h : So l) (k : m.Sublist l) : So m := List.Pairwise.sublist k h
theorem so_fl {l : List Ver} (h : So l) (a b : Int) : So (fl l a b) := so_sub h (List.filter_sublist ..)

/-- What holds between the changes, the watcher and what was told. -/
structure Gl (chs : List Ver) (rev fr : Nat) (all told : List Ver) (pl : Nat) (mo : Mo) (next : Nat) : Prop where
  so : So chs
  rv : ∀ p ∈ chs, 1 ≤ p.1 ∧ p.1 ≤ rev
  al : all = fl chs fr ((rev : Int) + 1)
  tk : told ++ mo.kept = fl chs fr pl
  pl1 : pl = fr ∨ fr ≤ pl ∧ pl ≤ rev + 1
  nx : mo.kept = [] → told = fl chs fr next
  nx1 : next = fr ∨ fr ≤ next ∧ next ≤ rev + 1
theorem Gl.start (fr : Nat) : Gl [] 0 fr [] [] fr .behind fr := ⟨List.Pairwise.nil, fun _ h => absurd h List.not_mem_nil, rfl, rfl, .inl rfl, fun _ => rfl, .inl rfl⟩
theorem so_new {chs new : List Ver} {rev rev' : Nat} (hs : So chs) (hr : ∀ p ∈ chs, 1 ≤ p.1 ∧ p.1 ≤ rev) (h : NewOk rev rev' new) : So (chs ++ new) ∧ ∀ p ∈ chs ++ new, 1 ≤ p.1 ∧ p.1 ≤ rev' := by
  rcases h with ⟨rfl, rfl⟩ | ⟨-, rfl, hn⟩
  · rw [List.append_nil]; exact ⟨hs, hr⟩
  · refine ⟨List.pairwise_append.2 ⟨hs, ?_, fun a ha b hb => by have := (hr a ha).2; have := hn b hb; omega⟩, fun p hp => ?_⟩
    · refine List.pairwise_of_forall_mem_list ?_
      intro a ha b hb
      have := hn a ha; have := hn b hb; omega
    · rcases List.mem_append.1 hp with hp | hp
      · have := hr p hp; omega
      · have := hn p hp; omega
theorem Gl.apply {chs new : List Ver} {rev rev' fr : Nat} {all told : List Ver} {pl : Nat} {mo : Mo} {next : Nat} (h : Gl chs rev fr all told pl mo next) (hn : NewOk rev rev' new) :
    Gl (chs ++ new) rev' fr (all ++ fl new fr ((rev' : Int) + 1)) told pl mo next := by
  obtain ⟨hs, hr⟩ := so_new h.so h.rv hn
  have hle : rev ≤ rev' := by rcases hn with ⟨-, rfl⟩ | ⟨-, rfl, -⟩ <;> omega
  have hz : ∀ b : Nat, (b = fr ∨ fr ≤ b ∧ b ≤ rev + 1) → fl new fr b = [] := fun b hb => fl_nil (fun p hp h2 => by
    rcases hn with ⟨rfl, -⟩ | ⟨-, -, hn⟩
    · cases hp
    · have := hn p hp; omega)
  refine ⟨hs, hr, ?_, ?_, ?_, fun hk => ?_, ?_⟩
  · rw [fl_app, h.al]
    congr 1
    exact fl_congr fun p hp => by have := (h.rv p hp).2; omega
  · rw [fl_app, hz pl h.pl1, List.append_nil]; exact h.tk
  · have := h.pl1; omega
  · rw [fl_app, hz next h.nx1, List.append_nil]; exact h.nx hk
  · have := h.nx1; omega
/-- From the place on: all that is new. -/
theorem Gl.grown {chs : List Ver} {rev fr : Nat} {all told : List Ver} {pl : Nat} {mo : Mo} {next k : Nat} (h : Gl chs rev fr all told pl mo next) (ha : At chs pl k) : fl chs fr pl ++ chs.drop k = fl chs fr ((max pl (rev + 1) : Nat) : Int) := by
  rw [at_fl ha (fun p hp => (h.rv p hp).2)]
  by_cases hp : pl ≤ rev + 1
  · have hf : fr ≤ pl := by have := h.pl1; omega
    rw [show ((max pl (rev + 1) : Nat) : Int) = (rev : Int) + 1 by omega]
    exact (fl_split h.so (by omega) (by omega)).symm
  · rw [show ((max pl (rev + 1) : Nat) : Int) = pl by omega, fl_nil (a := pl) (fun p hp2 h2 => by omega), List.append_nil]
theorem Gl.feed {chs : List Ver} {rev fr : Nat} {all told : List Ver} {pl : Nat} {mo : Mo} {next : Nat} (h : Gl chs rev fr all told pl mo next) {pl' : Nat} {mo' : Mo} (hf : FeedR chs rev pl mo pl' mo') : Gl chs rev fr all told pl' mo' next := by
  cases mo with
  | behind =>
    obtain ⟨rfl, rfl⟩ := hf
    exact h
  | ended l =>
    obtain ⟨rfl, rfl⟩ := hf
    exact h
  | hears l =>
    obtain ⟨k, ha, ⟨-, rfl, rfl⟩ | ⟨-, rfl, rfl⟩⟩ := hf
    · have h1 := h.tk
      refine ⟨h.so, h.rv, h.al, ?_, ?_, fun hk => ?_, h.nx1⟩
      · rw [← h.grown ha, ← h1]
        simp [Mo.kept]
      · have := h.pl1; omega
      · have hk' : l ++ chs.drop k = [] := hk
        exact h.nx (List.append_eq_nil_iff.1 hk').1
    · exact ⟨h.so, h.rv, h.al, h.tk, h.pl1, h.nx, h.nx1⟩
theorem Gl.pre {chs : List Ver} {rev fr : Nat} {all told : List Ver} {pl : Nat} {mo : Mo} {next : Nat} (h : Gl chs rev fr all told pl mo next) : ∃ r, all = told ++ r := by
  have h1 := h.tk
  have hp := h.pl1
  by_cases hc : pl ≤ rev + 1
  · refine ⟨mo.kept ++ fl chs pl ((rev : Int) + 1), ?_⟩
    rw [h.al, ← List.append_assoc, h1]
    exact fl_split h.so (by omega) (by omega)
  · have : fl chs fr pl = [] := fl_nil (fun p _ h2 => by omega)
    rw [this] at h1
    exact ⟨all, by rw [(List.append_eq_nil_iff.1 h1).1, List.nil_append]⟩
/-- Whole: all of the last revision was told. -/
def Whole (all told : List Ver) (n : Int) : Prop := ∀ k x, all[k]? = some x → x.1 = n → k < told.length
theorem Gl.whole {chs : List Ver} {rev fr : Nat} {all told : List Ver} {pl : Nat} {n : Int} (hs : So chs) (hr : ∀ p ∈ chs, 1 ≤ p.1 ∧ p.1 ≤ (rev : Int)) (hal : all = fl chs fr ((rev : Int) + 1)) (hpl : pl = fr ∨ fr ≤ pl ∧ pl ≤ rev + 1) (ht : told = fl chs fr pl) {y : Ver} (hy : told.getLast? = some y) (hn : y.1 = n) :
    Whole all told n ∧ told = fl chs fr (n + 1) ∧ (fr : Int) ≤ n ∧ n ≤ rev ∧ 1 ≤ n := by
  have hm : y ∈ told := List.mem_of_getLast? hy
  have hm2 := fl_mem.1 (ht ▸ hm)
  have hle : pl ≤ rev + 1 := by
    rcases hpl with rfl | h
    · omega
    · exact h.2
  have hb := hr y hm2.1
  refine ⟨fun k x hx hxn => ?_, ?_, by omega, by omega, by omega⟩
  · rw [hal, fl_split (b := pl) hs (by omega) (by omega), ← ht] at hx
    rcases Nat.lt_or_ge k told.length with hk | hk
    · exact hk
    · rw [List.getElem?_append_right hk] at hx
      have := fl_mem.1 (List.mem_of_getElem? hx)
      omega
  · have h1 := fl_split (l := chs) (a := fr) (b := n + 1) (c := pl) hs (by omega) (by omega)
    have h2 : fl chs (n + 1) pl = [] := fl_nil (fun p hp h3 => by
      have hpt : p ∈ told := by rw [ht]; exact fl_mem.2 ⟨hp, by omega, h3.2⟩
      obtain ⟨ts, rfl⟩ : ∃ ts, told = ts ++ [y] := by
        have := List.getLast?_eq_some_iff.1 hy
        exact this
      have hso : So (ts ++ [y]) := by rw [ht]; exact so_fl hs _ _
      have := List.pairwise_append.1 hso
      rcases List.mem_append.1 hpt with hp | hp
      · have := this.2.2 p hp y (by simp); omega
      · rw [List.mem_singleton.1 hp] at h3; omega)
    rw [h2, List.append_nil] at h1
    rw [ht, h1]
end Go.Proofs.YtbheebpfbabffaaGreat.Wat

namespace Go.Proofs.YtbheebpfbabffaaGreat.Wat
open Go.RowKit Go Go.Lib Mach Go.MapKept

/-- What becomes of the place from which one would begin anew. -/
def NextR (all told out : List Ver) (next next' : Nat) : Prop :=
  (out = [] → next' = next) ∧ ∀ y, out.getLast? = some y → (Whole all (told ++ out) y.1 → (next' : Int) = y.1 + 1) ∧ (¬ Whole all (told ++ out) y.1 → (next' : Int) = y.1)
theorem last_app {α : Type} (l : List α) {m : List α} (h : m ≠ []) : (l ++ m).getLast? = m.getLast? := by
  rw [List.getLast?_append]
  cases hm : m.getLast? with
  | none => exact absurd (List.getLast?_eq_none_iff.1 hm) h
  | some y => rfl
theorem some_last {α : Type} {m : List α} (h : m ≠ []) : ∃ y, m.getLast? = some y := by
  cases hm : m.getLast? with
  | none => exact absurd (List.getLast?_eq_none_iff.1 hm) h
  | some y => exact ⟨y, rfl⟩
/-- The next place, where all that was kept is told. -/
theorem Gl.next {chs : List Ver} {rev fr : Nat} {all told out : List Ver} {pl next next' : Nat} (hs : So chs) (hr : ∀ p ∈ chs, 1 ≤ p.1 ∧ p.1 ≤ (rev : Int)) (hal : all = fl chs fr ((rev : Int) + 1)) (hpl : pl = fr ∨ fr ≤ pl ∧ pl ≤ rev + 1) (ht : told ++ out = fl chs fr pl) (hn : NextR all told out next next') (h0 : out = [] → told = fl chs fr next) (h1 : next = fr ∨ fr ≤ next ∧ next ≤ rev + 1) :
    told ++ out = fl chs fr next' ∧ (next' = fr ∨ fr ≤ next' ∧ next' ≤ rev + 1) := by
  by_cases ho : out = []
  · rw [hn.1 ho, ho, List.append_nil]
    exact ⟨h0 ho, h1⟩
  · obtain ⟨y, hy⟩ := some_last ho
    have hw := Gl.whole (n := y.1) hs hr hal hpl ht (by rw [last_app told ho]; exact hy) rfl
    have he := (hn.2 y hy).1 hw.1
    exact ⟨by rw [he]; exact hw.2.1, by have := hw.2.2; omega⟩
theorem Gl.next1 {chs : List Ver} {rev fr : Nat} {all told out : List Ver} {next next' : Nat} (hr : ∀ p ∈ chs, 1 ≤ p.1 ∧ p.1 ≤ (rev : Int)) (hsub : ∀ p ∈ out, p ∈ chs ∧ (fr : Int) ≤ p.1) (hn : NextR all told out next next') (h1 : next = fr ∨ fr ≤ next ∧ next ≤ rev + 1) : next' = fr ∨ fr ≤ next' ∧ next' ≤ rev + 1 := by
  by_cases ho : out = []
  · rw [hn.1 ho]; exact h1
  · obtain ⟨y, hy⟩ := some_last ho
    have hm := hsub y (List.mem_of_getLast? hy)
    have hb := hr y hm.1
    by_cases hw : Whole all (told ++ out) y.1
    · have := (hn.2 y hy).1 hw; omega
    · have := (hn.2 y hy).2 hw; omega
theorem bd_fl {l : List Ver} {n : Nat} {x : Ver} (hs : So l) (hn0 : 0 < n) (hn : n < l.length) (hb : Bd l n) (hx : l[n - 1]? = some x) : (∀ p ∈ l.take n, p.1 ≤ x.1) ∧ ∀ p ∈ l.drop n, x.1 < p.1 := by
  have hp := List.pairwise_iff_getElem.1 hs
  obtain ⟨hxl, hxe⟩ := List.getElem?_eq_some_iff.1 hx
  refine ⟨fun p hpm => ?_, fun p hpm => ?_⟩
  · obtain ⟨i, hi, rfl⟩ := List.getElem_of_mem hpm
    rw [List.length_take] at hi
    rw [List.getElem_take]
    rcases Nat.lt_or_ge i (n - 1) with h1 | h1
    · rw [← hxe]; exact hp i (n - 1) (by omega) hxl h1
    · obtain rfl : i = n - 1 := by omega
      rw [hxe]; exact Int.le_refl _
  · obtain ⟨i, hi, rfl⟩ := List.getElem_of_mem hpm
    rw [List.length_drop] at hi
    rw [List.getElem_drop]
    rcases hb with hb | hb | ⟨x2, y2, h1, h2, h3⟩
    · omega
    · omega
    · rw [hx] at h1
      cases h1
      obtain ⟨hyl, hye⟩ := List.getElem?_eq_some_iff.1 h2
      have h4 := hp (n - 1) n hxl hyl (by omega)
      rw [hxe, hye] at h4
      have hni : n + i < l.length := by omega
      have h7 : (l[n]'hyl).1 ≤ (l[n + i]'hni).1 := by
        rcases Nat.eq_or_lt_of_le (Nat.zero_le i) with h6 | h6
        · subst h6
          exact Int.le_refl _
        · exact hp n (n + i) hyl hni (by omega)
      rw [hye] at h7
      omega
theorem Gl.poll {chs : List Ver} {rev fr : Nat} {all told : List Ver} {pl : Nat} {mo : Mo} {next : Nat} (h : Gl chs rev fr all told pl mo next) {out : List Ver} {pl' : Nat} {mo' : Mo} (hf : PollR chs rev pl mo out pl' mo') {next' : Nat} (hn : NextR all told out next next') :
    Gl chs rev fr all (told ++ out) pl' mo' next' := by
  have hge := h.rv
  have key : ∀ (out rest : List Ver) (pl' : Nat) (mo' : Mo), mo'.kept = rest → told ++ (out ++ rest) = fl chs fr pl' → (pl' = fr ∨ fr ≤ pl' ∧ pl' ≤ rev + 1) → NextR all told out next next' → (out = [] → rest = [] → told = fl chs fr next) → Gl chs rev fr all (told ++ out) pl' mo' next' := fun out rest pl' mo' h1 h2 h3 h4 h5 => by
    refine ⟨h.so, h.rv, h.al, by rw [h1, List.append_assoc]; exact h2, h3, fun hk => ?_, ?_⟩
    · rw [h1] at hk
      rw [hk, List.append_nil] at h2
      exact (Gl.next h.so h.rv h.al h3 h2 h4 (fun ho => h5 ho hk) h.nx1).1
    · refine Gl.next1 h.rv (fun p hp => ?_) h4 h.nx1
      have hm : p ∈ told ++ (out ++ rest) := by simp [hp]
      rw [h2] at hm
      have := fl_mem.1 hm
      exact ⟨this.1, this.2.1⟩
  cases mo with
  | behind =>
    have htk : told = fl chs fr pl := by have := h.tk; simpa [Mo.kept] using this
    obtain ⟨k, ha, ⟨n, x, hn0, hnl, hb, hx, rfl, hp, rfl⟩ | ⟨rfl, rfl, rfl⟩⟩ := hf
    · have hd := at_fl ha (fun p hp => (h.rv p hp).2)
      have hsd : So (chs.drop k) := so_sub h.so (List.drop_sublist _ _)
      obtain ⟨hb1, hb2⟩ := bd_fl hsd hn0 hnl hb hx
      have hxm := List.mem_of_getElem? hx
      have hx1 := ha.2.2 x hxm
      have hx2 := (h.rv x (List.mem_of_mem_drop hxm)).2
      have hpl := h.pl1
      have hout : (chs.drop k).take n = fl chs pl pl' := by
        have e1 : fl (chs.take k ++ chs.drop k) pl pl' = fl (chs.drop k) pl pl' := by
          rw [fl_app, fl_nil (l := chs.take k) (fun p hp h2 => by have := ha.2.1 p hp; omega), List.nil_append]
        rw [List.take_append_drop] at e1
        rw [e1]
        have e2 : fl ((chs.drop k).take n ++ (chs.drop k).drop n) pl pl' = (chs.drop k).take n := by
          rw [fl_app, fl_nil (l := (chs.drop k).drop n) (fun p hp h2 => by have := hb2 p hp; omega), List.append_nil]
          exact fl_all fun p hp => ⟨ha.2.2 p (List.mem_of_mem_take hp), by have := hb1 p hp; omega⟩
        rw [List.take_append_drop] at e2
        exact e2.symm
      refine key _ [] pl' .behind rfl ?_ (by omega) hn (fun ho _ => ?_)
      · rw [List.append_nil, hout, htk]
        exact (fl_split h.so (by omega) (by omega)).symm
      · exact h.nx rfl
    · refine key _ [] _ (.hears []) rfl ?_ (by have := h.pl1; omega) hn (fun _ _ => h.nx rfl)
      rw [List.append_nil, htk]
      exact h.grown ha
  | hears l =>
    obtain ⟨n, hnl, rfl, rfl, rfl⟩ := hf
    refine key _ (l.drop n) _ (.hears (l.drop n)) rfl (by rw [List.take_append_drop]; exact h.tk) h.pl1 hn (fun h1 h2 => h.nx ?_)
    have := List.take_append_drop n l
    rw [h1, h2] at this
    exact this.symm
  | ended l =>
    obtain ⟨n, hn0, hnl, rfl, rfl, rfl⟩ := hf
    refine key _ (l.drop n) _ (.ended (l.drop n)) rfl (by rw [List.take_append_drop]; exact h.tk) h.pl1 hn (fun h1 h2 => h.nx ?_)
    have := List.take_append_drop n l
    rw [h1, h2] at this
    exact this.symm
theorem Gl.outlen {chs : List Ver} {rev fr : Nat} {all told : List Ver} {pl : Nat} {mo : Mo} {next : Nat} (h : Gl chs rev fr all told pl mo next) {out : List Ver} {pl' : Nat} {mo' : Mo} (hf : PollR chs rev pl mo out pl' mo') : out.length ≤ chs.length := by
  have h1 : mo.kept.length ≤ chs.length := by
    have h2 : (told ++ mo.kept).length ≤ chs.length := by rw [h.tk]; exact List.length_filter_le ..
    rw [List.length_append] at h2; omega
  cases mo with
  | behind =>
    obtain ⟨k, ha, ⟨n, x, -, -, -, -, rfl, -, -⟩ | ⟨rfl, -, -⟩⟩ := hf
    · rw [List.length_take, List.length_drop]; omega
    · rw [List.length_drop]; omega
  | hears l =>
    obtain ⟨n, -, rfl, -, -⟩ := hf
    have : (Mo.hears l).kept = l := rfl
    rw [this] at h1
    rw [List.length_take]; omega
  | ended l =>
    obtain ⟨n, -, -, rfl, -, -⟩ := hf
    have : (Mo.ended l).kept = l := rfl
    rw [this] at h1
    rw [List.length_take]; omega
/-- What is told are changes. -/
theorem Gl.outmem {chs : List Ver} {rev fr : Nat} {all told : List Ver} {pl : Nat} {mo : Mo} {next : Nat} (h : Gl chs rev fr all told pl mo next) {out : List Ver} {pl' : Nat} {mo' : Mo} (hf : PollR chs rev pl mo out pl' mo') : ∀ p ∈ out, p ∈ chs := by
  have h1 : ∀ p ∈ mo.kept, p ∈ chs := fun p hp => by
    have h2 : p ∈ told ++ mo.kept := List.mem_append.2 (.inr hp)
    rw [h.tk] at h2
    exact (fl_mem.1 h2).1
  intro p hp
  cases mo with
  | behind =>
    obtain ⟨k, ha, ⟨n, x, -, -, -, -, rfl, -, -⟩ | ⟨rfl, -, -⟩⟩ := hf
    · exact List.mem_of_mem_drop (List.mem_of_mem_take hp)
    · exact List.mem_of_mem_drop hp
  | hears l =>
    obtain ⟨n, -, rfl, -, -⟩ := hf
    exact h1 p (List.mem_of_mem_take hp)
  | ended l =>
    obtain ⟨n, -, -, rfl, -, -⟩ := hf
    exact h1 p (List.mem_of_mem_take hp)
theorem Gl.anew {chs : List Ver} {rev fr : Nat} {all told : List Ver} {pl : Nat} {next : Nat} (h : Gl chs rev fr all told pl (.ended []) next) : Gl chs rev fr all told next .behind next :=
  ⟨h.so, h.rv, h.al, by have := h.nx rfl; simpa [Mo.kept] using this, h.nx1, fun _ => h.nx rfl, h.nx1⟩
end Go.Proofs.YtbheebpfbabffaaGreat.Wat

namespace Go.Proofs.YtbheebpfbabffaaGreat.Wat
open Go.RowKit Go Go.Lib Mach Go.MapKept

theorem within_f (a n : Int) (w : World) (h1 : 0 < n) (h2 : n ≤ 4611686018427387904) :
    Calls Tryz.prog 9 #[.int .i64 a, .int .i64 n] w fun e w' => e = .returned (.int .i64 (a % n)) ∧ w = w' := by
  obtain ⟨t1, t2, t3, t4⟩ := tmod_within a n h1
  have hz : (n == 0) = false := by simp; omega
  by_cases c : a.tmod n < 0
  · have H := Lib.hid (t1 c)
    clear t1 t2
    go_enter Tryz.func9, Tryz.ntmps9
    go_wp2
    go_ret
    exact ⟨ret_int H.out, rfl⟩
  · have H := Lib.hid (t2 c)
    clear t1 t2
    go_enter Tryz.func9, Tryz.ntmps9
    go_wp2
    go_ret
    exact ⟨ret_int H.out, rfl⟩

theorem neq_ev (r a b c d : Int) (k v : ByteArray) (dl : Bool) (w : World) : (binOp .neq 53 (.agg #[.int .i64 r, .bool dl, .string k, .string v, .int .i64 a, .int .i64 b, .int .i64 c, .int .i64 d]) (.agg #[.int .i64 r, .bool dl, .string k, .string v, .int .i64 a, .int .i64 b, .int .i64 c, .int .i64 d])).run Tryz.prog w = .ok (.bool false) w := by
  simp [go_sem]
theorem EvR.at {w : World} {v : Value} {l : List Ver} (h : EvR w v l) (j : Nat) (hj : j < l.length) : ∃ g o c, v = .slice (some ⟨g, o, none⟩) l.length c ∧ g < w.heap.size ∧ ∀ i u, i < 8 → (evc l[j])[i]? = some u → w.cell? ⟨g, o + j * 8 + i, none⟩ = some u := by
  obtain ⟨a, c, rfl, h⟩ := h
  rcases h with rfl | ⟨g, o, rfl, hg, hc⟩
  · exact absurd hj (Nat.not_lt_zero _)
  · refine ⟨g, o, c, rfl, hg, fun i u hi hu => ?_⟩
    have := hc (8 * j + i) u ((evs_get (List.getElem?_eq_getElem hj) i hi).trans hu)
    rwa [Nat.mul_comm 8 j, ← Nat.add_assoc] at this

set_option maxHeartbeats 8000000 in
set_option maxRecDepth 100000 in
theorem same_f {w : World} {v1 v2 : Value} {l : List Ver} (h1 : EvR w v1 l) (h2 : EvR w v2 l) (hl : l.length ≤ 1000000) :
    Calls Tryz.prog 18 #[v1, v2] w fun e w' => e = .returned (.bool true) ∧ Below w.heap.size w w' := by
  have H1 : Aside _ := h1.at
  have H2 : Aside _ := h2.at
  obtain ⟨a1, c1, rfl, -⟩ := h1
  obtain ⟨a2, c2, rfl, -⟩ := h2
  go_enter Tryz.func18, Tryz.ntmps18
  go_wp2
  go_loopg [5] l.length (fun kx s5 wq => ∃ j : Nat, s5 = .int .i64 j ∧ j ≤ l.length ∧ kx = l.length - j ∧ Below w.heap.size w wq)
  case atStart => exact ⟨0, rfl, Nat.zero_le _, rfl, Below.refl _ _⟩
  case round =>
    obtain ⟨j, rfl, hj, hkx, hbr⟩ := hrel
    by_cases hjl : j < l.length
    · obtain ⟨g, o, k1, e1, hg, hc⟩ := H1.out j hjl
      obtain ⟨g2, o2, k2, e2, hg2, hc2⟩ := H2.out j hjl
      cases e1
      cases e2
      have hci := fun i u hi (hu : (evc l[j])[i]? = some u) => (World.cell?_of_block (w := w) (hbr.block g hg)).trans (hc i u hi hu)
      have hcj := fun i u hi (hu : (evc l[j])[i]? = some u) => (World.cell?_of_block (w := w) (hbr.block g2 hg2)).trans (hc2 i u hi hu)
      obtain ⟨dl, vv, a, b, c, d, hev⟩ := evc_form l[j]
      rw [hev] at hci hcj
      generalize l[j].1 = r at hci hcj
      generalize l[j].2.key = k at hci hcj
      have hne := neq_ev r a b c d k vv dl
      have e0 : wr.cell? ⟨g, o + j * 8, none⟩ = _ := hci 0 _ (by omega) rfl
      have e1 := hci 1 _ (by omega) rfl
      have e2 := hci 2 _ (by omega) rfl
      have e3 := hci 3 _ (by omega) rfl
      have e4 := hci 4 _ (by omega) rfl
      have e5 := hci 5 _ (by omega) rfl
      have e6 := hci 6 _ (by omega) rfl
      have e7 := hci 7 _ (by omega) rfl
      have f0 : wr.cell? ⟨g2, o2 + j * 8, none⟩ = _ := hcj 0 _ (by omega) rfl
      have f1 := hcj 1 _ (by omega) rfl
      have f2 := hcj 2 _ (by omega) rfl
      have f3 := hcj 3 _ (by omega) rfl
      have f4 := hcj 4 _ (by omega) rfl
      have f5 := hcj 5 _ (by omega) rfl
      have f6 := hcj 6 _ (by omega) rfl
      have f7 := hcj 7 _ (by omega) rfl
      have hji : (j : Int) < (l.length : Int) := by omega
      clear hci hcj hev hc hc2
      go_wp2_with fail
      go_quiet (fail)
      go_wp2
      go_roundg (l.length - (j + 1))
      case measure => omega
      case rel => exact ⟨j + 1, by simp, by omega, rfl, below_dn hbr _⟩
    · go_wp2
      go_ret
      exact ⟨rfl, hbr⟩
end Go.Proofs.YtbheebpfbabffaaGreat.Wat

