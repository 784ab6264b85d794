/- The store behind a note. -/
import Derived.Test.YtbheebpfbabffaaGreatWNote
set_option linter.unusedSimpArgs false
set_option linter.unusedVariables false
namespace Go.Proofs.YtbheebpfbabffaaGreat.Wat
open Go.RowKit Go Go.Lib Mach Go.MapKept

def ent (l : List MapEntry) : List Nat := (l.map (fun e => blk e.val)).flatten
theorem ent_append (a b : List MapEntry) : ent (a ++ b) = ent a ++ ent b := by simp [ent]
theorem ent_cons (x : MapEntry) (b : List MapEntry) : ent (x :: b) = blk x.val ++ ent b := by simp [ent]
theorem ent_mem {l : List MapEntry} {e : MapEntry} (he : e ∈ l) {y : Nat} (hy : y ∈ blk e.val) : y ∈ ent l := List.mem_flatten.2 ⟨_, List.mem_map.2 ⟨e, he, rfl⟩, hy⟩
theorem ent_in {l : List MapEntry} {y : Nat} (hy : y ∈ ent l) : ∃ e ∈ l, y ∈ blk e.val := by
  obtain ⟨f, hf, hy⟩ := List.mem_flatten.1 hy
  obtain ⟨e, he, rfl⟩ := List.mem_map.1 hf
  exact ⟨e, he, hy⟩
theorem st_count (sb vb : Nat) (SX B E : List Nat) (y : Nat) : (sb :: vb :: (SX ++ (B ++ E))).count y = ([sb] : List Nat).count y + ([vb] : List Nat).count y + SX.count y + B.count y + E.count y := by
  rw [show sb :: vb :: (SX ++ (B ++ E)) = [sb] ++ ([vb] ++ (SX ++ (B ++ E))) from rfl]
  simp only [List.count_append]
  omega
theorem key_inj {l1 l2 : List MapEntry} {x e : MapEntry} (hn : ((l1 ++ x :: l2).map (·.key)).Nodup) (he : e ∈ l1 ++ x :: l2) (hk : e.key = x.key) : e = x := by
  simp only [List.map_append, List.map_cons, List.nodup_append, List.nodup_cons] at hn
  obtain ⟨-, ⟨h1, -⟩, h2⟩ := hn
  simp only [List.mem_append, List.mem_cons] at he
  rcases he with he | rfl | he
  · exact absurd hk (h2 e.key (List.mem_map.2 ⟨e, he, rfl⟩) x.key (by simp))
  · rfl
  · exact absurd (hk ▸ List.mem_map.2 ⟨e, he, rfl⟩) h1

/-- What note leaves of the store. -/
def NotePost (w : World) (sb : Nat) (op : Value) (rev C : Nat) (chs : List Ver) (Ks : List Value) (S : List Nat) (p : Ver) (w' : World) : Prop :=
  Only (fun y => y ∈ S) w w' ∧ ∃ Ks' S', St w' sb op rev (C + 1) (chs ++ [p]) Ks' S' ∧ Grow w S S' ∧ Ks'.length ≤ Ks.length + 1 ∧ (.string p.2.key ∈ Ks → Ks'.length = Ks.length) ∧ ∀ k ∈ Ks, k ∈ Ks'

/-- The entries before and behind, around the one that turned: B its old block, B' its new one. -/
def Around (es l' : List MapEntry) (key : ByteArray) (v0 v' : Value) : Prop := ∃ l1 l2, (∀ y, (ent es).count y = (ent l1).count y + (blk v0).count y + (ent l2).count y) ∧ (∀ y, (ent l').count y = (ent l1).count y + (blk v').count y + (ent l2).count y) ∧
  (∀ e ∈ l', (e ∈ es ∧ (e ∈ l1 ∨ e ∈ l2)) ∨ (e.key = .string key ∧ e.val = v')) ∧ l'.length ≤ es.length + 1 ∧ (.string key ∈ es.map (·.key) → l'.length = es.length) ∧ ∀ k ∈ es.map (·.key), k ∈ l'.map (·.key)
theorem around_of {es l' : List MapEntry} {key : ByteArray} {v0 v' : Value} (hn : (es.map (·.key)).Nodup) (h0 : ((∀ x ∈ es, x.key ≠ .string key) ∧ v0 = .slice none 0 0) ∨ ∃ x ∈ es, x.key = .string key ∧ x.val = v0) (hU : Upd es (.string key) v' l') : Around es l' key v0 v' := by
  have hk2 := hU.keys.2
  rcases hU with ⟨hno, c, rfl⟩ | ⟨l1, x, l2, rfl, hx, rfl⟩
  · have hv0 : v0 = .slice none 0 0 := by
      rcases h0 with h | ⟨x, hx, hk, -⟩
      · exact h.2
      · exact absurd hk (hno x hx)
    subst hv0
    refine ⟨es, [], fun y => by simp [ent, blk, Value.ownBlock], fun y => by rw [ent_append, List.count_append]; simp [ent], fun e he => ?_, by simp, fun h => ?_, hk2⟩
    · rcases List.mem_append.1 he with he | he
      · exact .inl ⟨he, .inl he⟩
      · rw [List.mem_singleton.1 he]; exact .inr ⟨rfl, rfl⟩
    · obtain ⟨e, he, hk⟩ := List.mem_map.1 h
      exact absurd hk (hno e he)
  · have hv0 : x.val = v0 := by
      rcases h0 with h | ⟨e, he, hk, hv⟩
      · exact absurd hx (h.1 x (by simp))
      · rw [← hv, key_inj hn he (hk.trans hx.symm)]
    refine ⟨l1, l2, fun y => by rw [ent_append, ent_cons, hv0]; simp only [List.count_append]; omega, fun y => by rw [ent_append, ent_cons]; simp only [List.count_append]; omega, fun e he => ?_, by simp, fun _ => by simp, hk2⟩
    simp only [List.mem_append, List.mem_cons] at he
    rcases he with he | rfl | he
    · exact .inl ⟨by simp [he], .inl he⟩
    · exact .inr ⟨rfl, rfl⟩
    · exact .inl ⟨by simp [he], .inr he⟩

theorem note_join {w w1 w2 w3 w' : World} {sb xi vb C : Nat} {live : Int} {rev : Nat} {cv op v0 : Value} {SX : List Nat} {es : List MapEntry} {vs chs : List Ver} {p : Ver} (hix : Ix w xi C SX) (hm : MapK w .string vb es)
    (hes : ∀ e ∈ es, ∃ vs : List Ver, w.ownsRow 0 VerT 2 e.val vs.length (vers vs) ∧ (∀ p ∈ vs, p.2.ok) ∧ vs.length ≤ C) (hch : w.ownsRow 0 VerT 2 cv chs.length (vers chs)) (ho : ∀ p ∈ chs, p.2.ok) (hcl : chs.length ≤ C) (hko : ∀ s, .string s ∈ es.map (·.key) → 1 ≤ s.size ∧ s.size ≤ 100)
    (hN : Nd (sb :: vb :: (SX ++ (blk cv ++ ent es)))) (hsl : sb < w.heap.size) (hp : p.2.ok) (hvl : vs.length ≤ C) (hvo : ∀ p ∈ vs, p.2.ok)
    (h0 : ((∀ x ∈ es, x.key ≠ .string p.2.key) ∧ v0 = .slice none 0 0) ∨ ∃ x ∈ es, x.key = .string p.2.key ∧ x.val = v0) (hv0l : ∀ y ∈ blk v0, y < w.heap.size)
    (hb : Below w.heap.size w w1) (hI : IxStep xi C SX w1 w2) (hV : VsStep vb es p.2.key v0 vs p w2 w3) (hC : ChStep sb cv chs p (fun v => #[.int .i64 rev, .int .i64 0, .int .i64 live, Ptr xi, .map (some vb), v, op]) w3 w') :
    NotePost w sb op rev C chs (es.map (·.key)) (sb :: vb :: (SX ++ (blk cv ++ ent es))) p w' := by
  obtain ⟨hO2, SX', hI2, hG2⟩ := hI
  obtain ⟨hO3, l', v', g1, hM3, hU, hr3, hg1, hlo1⟩ := hV
  obtain ⟨hO4, cv', g2, hb4, hr4, hg2, hlo2⟩ := hC
  obtain ⟨l1, l2, hE, hE', hmem, hlen, hlen2, hks⟩ := around_of hm.nodup h0 hU
  have s1 := hb.size
  have s2 := hO2.size
  have s3 := hO3.size
  have hvbl := hm.lt
  have hxl := hix.lt
  have hx2 := hI2.lt
  have hel : ∀ y ∈ ent es, y < w.heap.size := fun y hy => by
    obtain ⟨e, he, hy⟩ := ent_in hy
    obtain ⟨vs, h, -⟩ := hes e he
    exact (own_lt h y hy).2
  have hcvl : ∀ y ∈ blk cv, y < w.heap.size := fun y hy => (own_lt hch y hy).2
  have hg1l : g1 < w3.heap.size := (own_lt hr3 g1 (by simp [blk, hg1])).2
  have hct := fun y => (st_count sb vb SX (blk cv) (ent es) y)
  have hN' : ∀ y, ([sb] : List Nat).count y + ([vb] : List Nat).count y + SX.count y + (blk cv).count y + ((ent l1).count y + (blk v0).count y + (ent l2).count y) ≤ 1 := fun y => by
    have := hN y
    rw [hct, hE] at this
    exact this
  have one : ∀ a : Nat, ([a] : List Nat).count a = 1 := fun a => by simp
  have hbv : blk v' = [g1] := by simp [blk, hg1]
  have hbc : blk cv' = [g2] := by simp [blk, hg2]
  have inb : ∀ {v : Value} {y : Nat}, v.ownBlock = some y → 1 ≤ (blk v).count y := fun h => by simp [blk, h]
  have hsw : ∀ y, y = sb → y < w.heap.size := fun y h => by omega
  have hO : Only (fun y => y ∈ sb :: vb :: (SX ++ (blk cv ++ ent es))) w w' := by
    have a1 : Only (fun y => y ∈ sb :: vb :: (SX ++ (blk cv ++ ent es))) w w2 := (Only.of_below hb).trans hO2 (fun y _ h => by simp [h])
    have a2 := a1.trans hO3 (fun y hy h => by
      rcases h with rfl | h
      · simp
      · have h1 := hE y
        have h2 := inb h
        have : y ∈ ent es := List.count_pos_iff.1 (by omega)
        simp [this])
    exact a2.trans hO4 (fun y hy h => by
      rcases h with rfl | h
      · simp
      · have : y ∈ blk cv := by simp [blk, h]
        simp [this])
  have hG : Grow w (sb :: vb :: (SX ++ (blk cv ++ ent es))) (sb :: vb :: (SX' ++ (blk cv' ++ ent l'))) := by
    constructor
    · intro a ha
      rw [hct, st_count, hE, hE', hbv, hbc]
      have h1 := hG2.1 a (by omega)
      have h2 : ([g1] : List Nat).count a ≤ (blk v0).count a := by
        by_cases e : g1 = a
        · subst e
          rw [one]
          rcases hlo1 with h | h
          · exact inb h
          · omega
        · rw [single_zero e]; exact Nat.zero_le _
      have h3 : ([g2] : List Nat).count a ≤ (blk cv).count a := by
        by_cases e : g2 = a
        · subst e
          rw [one]
          rcases hlo2 with h | h
          · exact inb h
          · omega
        · rw [single_zero e]; exact Nat.zero_le _
      omega
    · intro a ha
      rw [st_count, hE', hbv, hbc]
      have z1 : ([sb] : List Nat).count a = 0 := single_zero (by omega)
      have z2 : ([vb] : List Nat).count a = 0 := single_zero (by omega)
      have z3 : (ent es).count a = 0 := count_out (fun h => by have := hel a h; omega)
      rw [hE] at z3
      have z4 : SX.count a = 0 := count_out (fun h => by have := hxl a h; omega)
      have z5 : (blk v0).count a = 0 := by omega
      have c1 := single_one g1 a
      have c2 := single_one g2 a
      by_cases e1 : g1 = a
      · subst e1
        have f1 : w2.heap.size ≤ g1 := by
          rcases hlo1 with h | h
          · have := inb h; omega
          · exact h
        have f2 : SX'.count g1 = 0 := count_out (fun h => by have := hx2 g1 h; omega)
        have f3 : ([g2] : List Nat).count g1 = 0 := single_zero (fun e => by
          rcases hlo2 with h | h
          · have := hcvl g2 (by simp [blk, h]); omega
          · omega)
        omega
      · have c0 : ([g1] : List Nat).count a = 0 := single_zero e1
        by_cases e2 : g2 = a
        · subst e2
          have f1 : w3.heap.size ≤ g2 := by
            rcases hlo2 with h | h
            · have := hcvl g2 (by simp [blk, h]); omega
            · exact h
          have f2 : SX'.count g2 = 0 := count_out (fun h => by have := hx2 g2 h; omega)
          omega
        · have c4 : ([g2] : List Nat).count a = 0 := single_zero e2
          by_cases h2 : a < w1.heap.size
          · have := hG2.1 a h2
            omega
          · have := hG2.2 a (by omega)
            omega
  -- who is not whom
  have nsv : ¬ (vb = sb) := fun e => by have := hN' sb; rw [e, one] at this; omega
  have ncs : ∀ y, cv.ownBlock = some y → y ≠ sb ∧ y ≠ vb ∧ y ∉ SX ∧ y ∉ ent es := fun y h => by
    have h1 := hN' y
    have h2 := inb h
    have h3 := hE y
    refine ⟨fun e => ?_, fun e => ?_, fun hm => ?_, fun hm => ?_⟩
    · have q : ([sb] : List Nat).count y = 1 := (by rw [e]; exact one sb); omega
    · have q : ([vb] : List Nat).count y = 1 := (by rw [e]; exact one vb); omega
    · have := count_in hm; omega
    · have := count_in hm; omega
  have nv0 : ∀ y, v0.ownBlock = some y → y ≠ sb ∧ y ≠ vb ∧ y ∉ SX ∧ y ∉ ent l1 ∧ y ∉ ent l2 ∧ y ∉ blk cv := fun y h => by
    have h1 := hN' y
    have h2 := inb h
    refine ⟨fun e => ?_, fun e => ?_, fun hm => ?_, fun hm => ?_, fun hm => ?_, fun hm => ?_⟩
    · have q : ([sb] : List Nat).count y = 1 := (by rw [e]; exact one sb); omega
    · have q : ([vb] : List Nat).count y = 1 := (by rw [e]; exact one vb); omega
    · have := count_in hm; omega
    · have := count_in hm; omega
    · have := count_in hm; omega
    · have := count_in hm; omega
  have nSX : ∀ y ∈ SX, y ≠ sb ∧ y ≠ vb := fun y hm => by
    have h1 := hN' y
    have h2 := count_in hm
    refine ⟨fun e => ?_, fun e => ?_⟩
    · have q : ([sb] : List Nat).count y = 1 := (by rw [e]; exact one sb); omega
    · have q : ([vb] : List Nat).count y = 1 := (by rw [e]; exact one vb); omega
  have nes : ∀ y ∈ ent es, y ≠ sb ∧ y ≠ vb ∧ y ∉ SX ∧ y ∉ blk cv := fun y hm => by
    have h1 := hN' y
    have h2 := count_in hm
    have h3 := hE y
    refine ⟨fun e => ?_, fun e => ?_, fun hm => ?_, fun hm => ?_⟩
    · have q : ([sb] : List Nat).count y = 1 := (by rw [e]; exact one sb); omega
    · have q : ([vb] : List Nat).count y = 1 := (by rw [e]; exact one vb); omega
    · have := count_in hm; omega
    · have := count_in hm; omega
  refine ⟨hO, l'.map (·.key), _, ⟨live, xi, vb, cv', SX', l', hb4, ?_, ?_, ?_, hr4, ?_, by simp; omega, ⟨rfl, ?_⟩, rfl, hG.nd hN⟩, hG, by simpa using hlen, fun h => by simpa using hlen2 h, hks⟩
  · refine (hI2.only hO3 (fun y hy e => ?_)).only hO4 (fun y hy e => ?_)
    · by_cases hl : y < w1.heap.size
      · have := hG2.mem hl hy
        rcases e with e | e
        · exact (nSX y this).2 e
        · exact (nv0 y e).2.2.1 this
      · rcases e with e | e
        · omega
        · have := hv0l y (by simp [blk, e]); omega
    · by_cases hl : y < w1.heap.size
      · have := hG2.mem hl hy
        rcases e with e | e
        · exact (nSX y this).1 e
        · exact (ncs y e).2.2.1 this
      · rcases e with e | e
        · omega
        · have := hcvl y (by simp [blk, e]); omega
  · exact hM3.only hO4 (fun e => e.elim nsv (fun e => (ncs vb e).2.1 rfl))
  · intro e he
    rcases hmem e he with ⟨hold, hll⟩ | ⟨-, hv⟩
    · obtain ⟨vs', hr, hok, hn⟩ := hes e hold
      refine ⟨vs', ?_, hok, by omega⟩
      have hye : ∀ y ∈ blk e.val, y ∈ ent es := fun y hy => ent_mem hold hy
      have a1 := own_below hr hb
      have a2 := own_keep a1 hO2 (fun y hy => (nes y (hye y hy)).2.2.1)
      have a3 := own_keep a2 hO3 (fun y hy ee => by
        rcases ee with ee | ee
        · exact (nes y (hye y hy)).2.1 ee
        · rcases hll with h | h
          · exact (nv0 y ee).2.2.2.1 (ent_mem h hy)
          · exact (nv0 y ee).2.2.2.2.1 (ent_mem h hy))
      exact own_keep a3 hO4 (fun y hy ee => by
        rcases ee with ee | ee
        · exact (nes y (hye y hy)).1 ee
        · exact (ncs y ee).2.2.2 (hye y hy))
    · rw [hv]
      refine ⟨vs ++ [p], own_keep hr3 hO4 (fun y hy ee => ?_), fun q hq => ?_, by simp; omega⟩
      · rw [hbv] at hy
        obtain rfl := List.mem_singleton.1 hy
        rcases hlo1 with h | h
        · rcases ee with ee | ee
          · exact (nv0 y h).1 ee
          · exact (nv0 y h).2.2.2.2.2 (by simp [blk, ee])
        · rcases ee with ee | ee
          · omega
          · have := hcvl y (by simp [blk, ee]); omega
      · rcases List.mem_append.1 hq with hq | hq
        · exact hvo q hq
        · rw [List.mem_singleton.1 hq]; exact hp
  · intro q hq
    rcases List.mem_append.1 hq with hq | hq
    · exact ho q hq
    · rw [List.mem_singleton.1 hq]; exact hp
  · intro s hs
    obtain ⟨e, he, hk⟩ := List.mem_map.1 hs
    rcases hmem e he with ⟨hold, -⟩ | ⟨hk2, -⟩
    · exact hko s (List.mem_map.2 ⟨e, hold, hk⟩)
    · rw [hk2] at hk
      cases hk
      exact hp

theorem note_t {w : World} {sb : Nat} {op : Value} {rev C : Nat} {chs : List Ver} {Ks : List Value} {S : List Nat} (h : St w sb op rev C chs Ks S) (c : Chg) (hc : c.ok) (hr : 1 ≤ rev) (hC : C ≤ 1000000) :
    Calls Tryz.prog 136 #[Ptr sb, .agg #[.int .i64 rev, c.val]] w fun e w' => e = .returned (.tuple #[]) ∧ NotePost w sb op rev C chs Ks S (rev, c) w' := by
  obtain ⟨live, xi, vb, cv, SX, es, hs, hix, hm, hes, hch, ho, hcl, ⟨rfl, hko⟩, rfl, hN⟩ := h
  have hN2 : Nd (sb :: vb :: (SX ++ (blk cv ++ ent es))) := hN
  have hct := fun y => (st_count sb vb SX (blk cv) (ent es) y)
  have hN' : ∀ y, ([sb] : List Nat).count y + ([vb] : List Nat).count y + SX.count y + (blk cv).count y + (ent es).count y ≤ 1 := fun y => by
    have := hN2 y
    rw [hct] at this
    exact this
  have one : ∀ a b : Nat, b = a → ([a] : List Nat).count b = 1 := fun a b h => by simp [h]
  have a1 : sb ∉ SX := fun hm => by have := hN' sb; have := count_in hm; have := one sb sb rfl; omega
  have a2 : vb ∉ SX := fun hm => by have := hN' vb; have := count_in hm; have := one vb vb rfl; omega
  have a3 : sb ≠ vb := fun e => by have := hN' sb; have := one sb sb rfl; have := one vb sb e; omega
  have a4 : ∀ y ∈ ent es, y ∉ SX ∧ y ≠ sb ∧ y ≠ vb := fun y hy => by
    have h1 := hN' y
    have h2 := count_in hy
    exact ⟨fun hm => by have := count_in hm; omega, fun e => by have := one sb y e; omega, fun e => by have := one vb y e; omega⟩
  have a5 : ∀ y ∈ blk cv, y ∉ SX ∧ y ≠ sb ∧ y ≠ vb ∧ y ∉ ent es := fun y hy => by
    have h1 := hN' y
    have h2 := count_in hy
    exact ⟨fun hm => by have := count_in hm; omega, fun e => by have := one sb y e; omega, fun e => by have := one vb y e; omega, fun hm => by have := count_in hm; omega⟩
  have hfind : ∃ (v0 : Value) (vs : List Ver), (∀ w, MapK w .string vb es → (Instr.lookup 94 (.map (some vb)) (.string c.key) false).run Tryz.prog w = .ok v0 w) ∧ w.ownsRow 0 VerT 2 v0 vs.length (vers vs) ∧ (∀ p ∈ vs, p.2.ok) ∧ vs.length ≤ C ∧
      (((∀ x ∈ es, x.key ≠ .string c.key) ∧ v0 = .slice none 0 0) ∨ ∃ x ∈ es, x.key = .string c.key ∧ x.val = v0) ∧ ∀ y ∈ blk v0, y ∈ ent es := by
    rcases look_map Tryz.underlying94 Tryz.underlying9 (zero_vs) (key := .string c.key) (l := es) (b := vb) trivial hm.key with ⟨hno, hl⟩ | ⟨e, he, hk, hl⟩
    · exact ⟨_, [], fun w h => hl w false h, World.ownsRow_nil _ _ _ _, fun _ h => absurd h List.not_mem_nil, Nat.zero_le _, .inl ⟨hno, rfl⟩, fun y hy => by simp [blk, Value.ownBlock] at hy⟩
    · obtain ⟨vs, h1, h2, h3⟩ := hes e he
      exact ⟨_, vs, fun w h => hl w false h, h1, h2, h3, .inr ⟨e, he, hk, rfl⟩, fun y hy => ent_mem he hy⟩
  obtain ⟨v0, vs, hlook, hrow, hvo, hvl, h0, hin⟩ := hfind
  have b1 : ∀ y ∈ blk v0, y ∉ SX ∧ y ≠ sb ∧ y ≠ vb := fun y hy => a4 y (hin y hy)
  have b2 : ∀ y ∈ blk cv, y ∉ SX ∧ y ≠ sb ∧ y ≠ vb ∧ y ∉ blk v0 := fun y hy => ⟨(a5 y hy).1, (a5 y hy).2.1, (a5 y hy).2.2.1, fun hm => (a5 y hy).2.2.2 (hin y hm)⟩
  have hr' : (1 : Int) ≤ rev := by omega
  cases c with
  | put x =>
    obtain ⟨xk, xv, xa, xb, xc, xd⟩ := x
    refine (note_put (rev := (rev : Int)) (xk := xk) (xv := xv) (xa := xa) (xb := xb) (xc := xc) (xd := xd) hs hix hC hm hr' hc.1 hc.2 a1 a2 a3 hlook hrow (by omega) b1 hch (by omega) b2).mono ?_
    rintro e w' ⟨rfl, w1, w2, w3, hb, hI, hV, hCh⟩
    exact ⟨rfl, note_join hix hm hes hch ho hcl hko hN2 hs.lt hc hvl hvo h0 (fun y hy => (own_lt hrow y hy).2) hb hI hV hCh⟩
  | del k =>
    refine (note_del (rev := (rev : Int)) (k := k) hs hix hC hm hr' hc.1 hc.2 a1 a2 a3 hlook hrow (by omega) b1 hch (by omega) b2).mono ?_
    rintro e w' ⟨rfl, w1, w2, w3, hb, hI, hV, hCh⟩
    exact ⟨rfl, note_join hix hm hes hch ho hcl hko hN2 hs.lt hc hvl hvo h0 (fun y hy => (own_lt hrow y hy).2) hb hI hV hCh⟩
end Go.Proofs.YtbheebpfbabffaaGreat.Wat

