/- Joined: a part of the proof of TopWatches. -/
import Derived.RegionTactic
import Derived.Deep.RegionWith
import Derived.Test.YtbheebpfbabffaaGreatVF
set_option linter.unusedSimpArgs false
set_option linter.unusedVariables false
namespace Go.Proofs.YtbheebpfbabffaaGreat.Wat
open Go.RowKit Go Go.Lib Mach

abbrev StrT : TypeId := 9
theorem str_info : (Tryz.prog.info? 9).map (fun i => (i.zero, i.size, i.bytes)) = some (some (.string ⟨#[]⟩), 1, 16) := by kernel_rfl

/-- A box with a row of texts of the box' own. -/
def Box (w : World) (bx q : Nat) : Prop := ∃ v xs, Blk w bx #[v] ∧ w.ownsRow (bx + 1) StrT 1 v q xs ∧ ∀ x ∈ xs, ∃ s, x = .string s
theorem own_below {w w' : World} {base : Nat} {e : TypeId} {size n : Nat} {v : Value} {xs : List Value} (h : w.ownsRow base e size v n xs) (k : Below w.heap.size w w') : w'.ownsRow base e size v n xs := by
  refine ⟨h.1, ?_⟩
  rcases h.2 with h | ⟨g', cap, cur, hv, hb, hh, hn, hc, hs, ht⟩
  · exact .inl h
  · exact .inr ⟨g', cap, cur, hv, hb, (k.block g' (Array.getElem?_eq_some_iff.1 hh).1).trans hh, hn, hc, hs, ht⟩
theorem own_only {G : Nat → Prop} {w w' : World} {base : Nat} {e : TypeId} {size n : Nat} {v : Value} {xs : List Value} (h : w.ownsRow base e size v n xs) (k : Only G w w') (hG : ∀ y, base ≤ y → ¬ G y) : w'.ownsRow base e size v n xs := by
  refine ⟨h.1, ?_⟩
  rcases h.2 with h | ⟨g', cap, cur, hv, hb, hh, hn, hc, hs, ht⟩
  · exact .inl h
  · exact .inr ⟨g', cap, cur, hv, hb, (k.block g' (Array.getElem?_eq_some_iff.1 hh).1 (hG g' hb)).trans hh, hn, hc, hs, ht⟩
theorem Box.keep {w w' : World} {bx q : Nat} (h : Box w bx q) (k : Below w.heap.size w w') : Box w' bx q := by
  obtain ⟨v, xs, h1, h2, h3⟩ := h
  exact ⟨v, xs, h1.keep k, own_below h2 k, h3⟩

theorem keys1_join {w w' : World} {o : Obj} {bx q g cap : Nat} {v : Value} {xs : List Value} {kk : ByteArray} (hb : Blk w' bx #[v]) (hown : w'.ownsRow (bx + 1) StrT 1 (.slice (some ⟨g, 0, none⟩) (q + 1) cap) (q + 1) (xs ++ [.string kk]))
    (hgb : ((w.alloc o).drew).grownBy w' v.ownBlock) (hxs : ∀ x ∈ xs, ∃ s, x = .string s) (hlo : ∀ y, v.ownBlock = some y → bx < y) (hl : bx < w.heap.size) :
    Box (w'.setCell ⟨bx, 0, none⟩ (.slice (some ⟨g, 0, none⟩) (q + 1) cap)) bx (q + 1) ∧ Below bx w (w'.setCell ⟨bx, 0, none⟩ (.slice (some ⟨g, 0, none⟩) (q + 1) cap)) := by
  have hO : Only (fun y => bx ≤ y) w w' := by
    have h0 : Only (fun y => bx ≤ y) w (w.alloc o).drew := ((Only.refl _ _).alloc _).drew
    exact h0.trans (b := (w.alloc o).drew) (G := fun y => bx < y) ⟨hgb.os, hgb.tape, hgb.output, hgb.size, fun y hy hyn => hgb.block y hy (fun h => hyn (hlo y h.symm))⟩ (fun y _ h => Nat.le_of_lt h)
  refine ⟨⟨.slice (some ⟨g, 0, none⟩) (q + 1) cap, xs ++ [.string kk], ?_, own_only hown ((Only.refl (fun y => y = bx) w').set _ (fun _ => rfl) _) (fun y h1 h2 => ?_), ?_⟩, (hO.set _ (fun _ => Nat.le_refl _) _).below bx (by omega) (fun k hk h => ?_)⟩
  · have := hb.setCell 0 (.slice (some ⟨g, 0, none⟩) (q + 1) cap)
    simpa using this
  · omega
  · intro x hx
    rcases List.mem_append.1 hx with hx | hx
    · exact hxs x hx
    · exact ⟨kk, List.mem_singleton.1 hx⟩
  · omega

set_option maxHeartbeats 4000000 in
set_option maxRecDepth 100000 in
theorem keys1_f (bx it q : Nat) (kk : ByteArray) (iv : Value) (w : World) (hB : Box w bx q) (hit : Blk w it #[.string kk, iv]) (hne : it ≠ bx) (hq : q ≤ 1000000000) :
    Calls Tryz.prog 138 (#[Ptr it] ++ #[Ptr bx]) w fun e w' => e = .returned (.tuple #[]) ∧ Box w' bx (q + 1) ∧ Below bx w w' := by
  obtain ⟨v, xs, hb, hown, hxs⟩ := hB
  have hbl := hb.lt
  have hbc : ∀ o, w.drew.cell? ⟨bx, o, none⟩ = _ := hb.cell
  have hic : ∀ o, w.drew.cell? ⟨it, o, none⟩ = _ := hit.cell
  have hbc0 : ∀ o, w.cell? ⟨bx, o, none⟩ = _ := hb.cell
  have hic0 : ∀ o, w.cell? ⟨it, o, none⟩ = _ := hit.cell
  have hrc : ∀ o : Obj, ((w.alloc o).drew).ownsRow (bx + 1) StrT 1 v q xs := fun o => own_below hown (((Below.refl _ _).alloc (Nat.le_refl _) _).drew)
  have hH : ∀ o : Obj, ((w.alloc o).drew).heap.size = w.heap.size + 1 := fun o => by show (w.alloc o).heap.size = _; simp
  have mixed : Tryz.prog.follows .mixedOrders = true := by kernel_rfl
  have hmx : q + 1 ≤ maxLen := by unfold maxLen; omega
  have hkk : (q + 1) * 16 ≤ 140737488355328 := by omega
  have hkI : ∀ (o : Obj) (w' : World), ((w.alloc o).drew).grownBy w' v.ownBlock → Blk w' bx #[v] := fun o w' hg => by
    obtain ⟨t, hb3⟩ := (hb.alloc o).drew
    refine ⟨t, (hg.block bx (Array.getElem?_eq_some_iff.1 hb3).1 (fun e => ?_)).trans hb3⟩
    have := (hown.lt bx e.symm).1
    omega
  have hlo : ∀ y, v.ownBlock = some y → bx < y := fun y hy => (hown.lt y hy).1
  obtain ⟨i0, hi0, hz0, hz1, hz2⟩ := info_parts str_info
  go_enter Tryz.func138, Tryz.ntmps138
  go_wp2_with fail
  go_region_law_o (refine step_append_lies _ rfl _ _ 154 rfl (bx + 1) StrT i0 (.string ⟨#[]⟩) 1 16 Tryz.underlying154 hi0 hz0 hz1 hz2 rfl (by decide) _ q xs rfl (hrc _) ⟨w.heap.size, 0, none⟩ 1 1 [.string kk] rfl rfl (fun j u hj => by rw [Addr.add_lit, Nat.zero_add]; exact (alloc_new w _ _ j).trans (by simpa using hj)) (by intro u hu; simp at hu; rcases hu with rfl; rfl) (by decide) hmx hkk (by rw [hH]; omega) (w.heap.size + 1) (hH _) (fun g cap w' hown' hgb hat hglt => ?_); have hb' := hkI _ _ hgb; have hi1 := hb'.cell; have hf1 := hb'.frz)
  all_goals (go_wp2; go_end0; exact ⟨rfl, keys1_join hb' hown' hgb hxs hlo hbl⟩)
end Go.Proofs.YtbheebpfbabffaaGreat.Wat

namespace Go.Proofs.YtbheebpfbabffaaGreat.Wat
open Go.RowKit Go Go.Lib Mach

theorem onlyN {N : Nat} {w w' : World} (h : Below N w w') : Only (fun y => N ≤ y) w w' := ⟨h.os, h.tape, h.output, h.size, fun k _ hn => h.block k (by omega)⟩
theorem belowN {N : Nat} {w w1 w2 : World} (h : Below N w w1) (k : Below w1.heap.size w1 w2) (hN : N ≤ w.heap.size) : Below N w w2 :=
  ⟨k.os.trans h.os, k.tape.trans h.tape, k.output.trans h.output, Nat.le_trans h.size k.size, fun i hi => (k.block i (by have := h.size; omega)).trans (h.block i hi)⟩
theorem belowNN {N : Nat} {w w1 w2 : World} (h : Below N w w1) (k : Below N w1 w2) : Below N w w2 :=
  ⟨k.os.trans h.os, k.tape.trans h.tape, k.output.trans h.output, Nat.le_trans h.size k.size, fun i hi => (k.block i hi).trans (h.block i hi)⟩
theorem eg_keys1 : ∀ args w, (callFunc 138 args).run Tryz.prog w = .ok (.enter 138 args) w := enters_of Tryz.func138 (by kernel_rfl) rfl

def WalkPost (bx q n : Nat) (w : World) (e : Ending) (w' : World) : Prop := e = .returned (.tuple #[]) ∧ ∃ q', q' ≤ q + n ∧ Box w' bx q' ∧ Below bx w w'
abbrev KeysFn (bx : Nat) : Value := .func (.func 138) #[] #[Ptr bx]

set_option maxHeartbeats 4000000 in
set_option maxRecDepth 100000 in
theorem walk_leaf (bx b q : Nat) (l F : List Nat) (lo hi : ByteArray) (w : World) (hR : Rep w 0 b l F) (hI : Its w l) (hF : ∀ x ∈ F, x < bx) (hl : ∀ x ∈ l, x < bx) (hB : Box w bx q) (hq : q + l.length ≤ 1000000000) :
    Calls Tryz.prog 137 #[Ptr b, .string lo, .string hi, KeysFn bx] w (WalkPost bx q l.length w) := by
  obtain ⟨s, B, hb, ha, hn, rfl⟩ := hR
  have hbx : bx < w.heap.size := by obtain ⟨v, xs, h, -⟩ := hB; exact h.lt
  have hbl : b < bx := hF b (by simp)
  have hBl : ∀ x ∈ B, x < bx := fun x hx => hF x (by simp [hx])
  have eg := eg_keys1
  have hgeq := binOp_string_geq_w
  go_enter Tryz.func137, Tryz.ntmps137
  go_wp2_with fail
  go_at_call 163
  refine (place_f b s _ l B lo w hb ha (by omega) hI).mono ?_
  rintro e w1 ⟨⟨i, is, hi1, -, rfl⟩, hb1⟩
  go_wp2
  have HI : Aside _ := hI
  clear hI
  have h0 : Below bx w w1 := belowN (Below.refl _ _) hb1 (by omega)
  have hB1 := hB.keep hb1
  go_loopg [8] (l.length - i) (fun kx s8 wr => ∃ j q' : Nat, s8 = .int .i64 j ∧ j ≤ l.length ∧ kx = l.length - j ∧ q' + (l.length - j) ≤ q + l.length ∧ Box wr bx q' ∧ Below bx w wr)
  case atStart => exact ⟨i, q, rfl, hi1, rfl, by omega, hB1, h0⟩
  case round =>
    obtain ⟨j, q', rfl, hj, hk, hqq, hBr, hbr⟩ := hrel
    have hbb := (hb.only (onlyN hbr) (by omega))
    have haa := (ha.only (onlyN hbr) (fun x hx => by have := hBl x hx; omega))
    have hc := hbb.cell
    by_cases hjl : j = l.length
    · subst hjl
      have hA : s = .slice none 0 0 ∧ l = [] ∨ ∃ ib c, s = .slice (some ⟨ib, 0, none⟩) l.length c := by
        obtain ⟨rfl, rfl, rfl⟩ | ⟨ib, rest, rfl, -⟩ := ha
        · exact .inl ⟨rfl, rfl⟩
        · exact .inr ⟨ib, _, rfl⟩
      rcases hA with ⟨rfl, h00⟩ | ⟨ib, c, rfl⟩
      · subst h00
        simp only [List.length_nil] at *
        go_wp2
        go_end0
        exact ⟨rfl, q', by omega, hBr, hbr⟩
      · go_wp2
        go_end0
        exact ⟨rfl, q', by omega, hBr, hbr⟩
    · have hjlt : j < l.length := by omega
      obtain ⟨ib, c, rfl, -, hibl, -, -, hics, -⟩ := haa.some (by omega)
      have hic := hics j (Ptr l[j]) (by simp [hjlt])
      obtain ⟨kk, iv, hit⟩ := HI.out l[j] (List.getElem_mem _)
      have hitl := hl l[j] (List.getElem_mem _)
      have hitr := hit.only (onlyN hbr) (by omega)
      have hkc := hitr.cell
      have hne2 : ¬ (j : Int) = (l.length : Int) := by omega
      have hcall := keys1_f bx l[j] q' kk iv wr hBr hitr (by omega) (by omega)
      have hgo : ∀ (e : Ending) w', (e = .returned (.tuple #[]) ∧ Box w' bx (q' + 1) ∧ Below bx wr w') → ∃ j2 q2 : Nat, (Value.int .i64 ((j : Int) + 1)) = .int .i64 j2 ∧ j2 ≤ l.length ∧ l.length - (j + 1) = l.length - j2 ∧ q2 + (l.length - j2) ≤ q + l.length ∧ Box w' bx q2 ∧ Below bx w w' := fun e w' ⟨_, h2, h3⟩ =>
        ⟨j + 1, q' + 1, by simp, by omega, rfl, by omega, h2, belowNN hbr h3⟩
      cases hhe : (hi.toList == ([] : List UInt8)) with
      | true =>
        go_wp2_with (go_at_fn 138; refine hcall.mono ?_; rintro e w2 ⟨rfl, hB2, hb2⟩)
        go_roundg (l.length - (j + 1))
        case measure => omega
        case rel => exact hgo _ _ ⟨rfl, hB2, hb2⟩
      | false =>
        cases hlt : Op.bytesLess kk.toList hi.toList with
        | true =>
          go_wp2_with (go_at_fn 138; refine hcall.mono ?_; rintro e w2 ⟨rfl, hB2, hb2⟩)
          go_roundg (l.length - (j + 1))
          case measure => omega
          case rel => exact hgo _ _ ⟨rfl, hB2, hb2⟩
        | false =>
          go_wp2
          go_end0
          exact ⟨rfl, q', by omega, hBr, hbr⟩

theorem inter_drop_le : ∀ (its : List Nat) (ks : List (List Nat)) (i : Nat), ks.length = its.length + 1 → i ≤ its.length → (inter (its.drop i) (ks.drop i)).length ≤ (inter its ks).length
  | _, _, 0, _, _ => by simp
  | [], _, i + 1, _, h => by simp at h
  | a :: its, [], i + 1, h, _ => by simp at h
  | a :: its, k :: ks, i + 1, h, hi => by
    have := inter_drop_le its ks i (by simpa using h) (by simpa using hi)
    simp only [List.drop_succ_cons, inter, List.length_append, List.length_cons]
    omega
theorem inter_here : ∀ (its : List Nat) (ks : List (List Nat)) (j : Nat) (k : List Nat), ks.length = its.length + 1 → ks[j]? = some k → (inter (its.drop j) (ks.drop j)).length = k.length + (if j < its.length then 1 + (inter (its.drop (j + 1)) (ks.drop (j + 1))).length else 0)
  | [], [k'], j, k, h, hk => by
    obtain rfl : j = 0 := by
      have := (List.getElem?_eq_some_iff.1 hk).1
      simp at this; omega
    simp at hk
    subst hk
    simp [inter]
  | a :: its, k' :: ks, 0, k, h, hk => by
    simp at hk
    subst hk
    simp [inter]
    omega
  | a :: its, k' :: ks, j + 1, k, h, hk => by
    have := inter_here its ks j k (by simpa using h) (by simpa using hk)
    simp only [List.drop_succ_cons, this, List.length_cons]
    by_cases hj : j < its.length
    · rw [if_pos hj, if_pos (by omega)]
    · rw [if_neg hj, if_neg (by omega)]

def WalkAt (h : Nat) : Prop := ∀ (bx b q : Nat) (l F : List Nat) (lo hi : ByteArray) (w : World), Rep w h b l F → Its w l → (∀ x ∈ F, x < bx) → (∀ x ∈ l, x < bx) → Box w bx q → q + l.length ≤ 1000000000 →
    Calls Tryz.prog 137 #[Ptr b, .string lo, .string hi, KeysFn bx] w (WalkPost bx q l.length w)

set_option maxHeartbeats 4000000 in
set_option maxRecDepth 100000 in
theorem walk_inner (h : Nat) (IH : WalkAt h) : WalkAt (h + 1) := by
  intro bx b q l F lo hi w hR hI hF hl hB hq
  obtain ⟨s, k, its, B, C, ks, hb, ha, hkk, hn, hkl, hRk, hle, rfl⟩ := hR
  have hbx : bx < w.heap.size := by obtain ⟨v, xs, h, -⟩ := hB; exact h.lt
  have hbl : b < bx := hF b (by simp)
  have hBl : ∀ x ∈ B, x < bx := fun x hx => hF x (by simp [hx])
  have hCl : ∀ x ∈ C, x < bx := fun x hx => hF x (by simp [hx])
  have hKl : ∀ z ∈ ks, ∀ x ∈ z.2.2, x < bx := fun z hz x hx => hF x (by
    have : x ∈ (ks.map (·.2.2)).flatten := List.mem_flatten.2 ⟨z.2.2, List.mem_map.2 ⟨z, hz, rfl⟩, hx⟩
    simp only [List.mem_cons, List.mem_append]
    exact .inr (.inr (.inr this)))
  have hil : ∀ i ∈ its, i ∈ l := fun i hi => by rw [hle]; exact inter_mem_item its _ (by simpa using hkl) i hi
  have hik : ∀ z ∈ ks, ∀ x ∈ z.2.1, x ∈ l := fun z hz x hx => by rw [hle]; exact inter_mem_kid its _ (by simpa using hkl) z.2.1 (List.mem_map.2 ⟨z, hz, rfl⟩) x hx
  have hll : ∀ i, i ≤ its.length → (inter (its.drop i) ((ks.map (·.2.1)).drop i)).length ≤ l.length := fun i hi => by rw [hle]; exact inter_drop_le its _ i (by simpa using hkl) hi
  have hst : ∀ (j : Nat) (z : Nat × List Nat × List Nat), ks[j]? = some z → (inter (its.drop j) ((ks.map (·.2.1)).drop j)).length = z.2.1.length + (if j < its.length then 1 + (inter (its.drop (j + 1)) ((ks.map (·.2.1)).drop (j + 1))).length else 0) := fun j z hz => inter_here its _ j z.2.1 (by simpa using hkl) (by simp [hz])
  have HL : Aside _ := hle
  clear hle
  obtain ⟨R, hRm⟩ : ∃ R : Nat → Nat, R = fun j => (inter (its.drop j) ((ks.map (·.2.1)).drop j)).length := ⟨_, rfl⟩
  have hll : ∀ i, i ≤ its.length → R i ≤ l.length := by rw [hRm]; exact hll
  have hst : ∀ (j : Nat) (z : Nat × List Nat × List Nat), ks[j]? = some z → R j = z.2.1.length + (if j < its.length then 1 + R (j + 1) else 0) := by rw [hRm]; exact hst
  clear hRm
  have eg := eg_keys1
  have hgeq := binOp_string_geq_w
  obtain ⟨kb, kc, rfl, -, hkbl, -, -, hkcs, -⟩ := hkk.some (by simp [hkl])
  go_enter Tryz.func137, Tryz.ntmps137
  go_wp2_with fail
  go_at_call 163
  refine (place_f b s _ its B lo w hb ha (by omega) (fun i hi => hI i (hil i hi))).mono ?_
  rintro e w1 ⟨⟨i, is, hi1, -, rfl⟩, hb1⟩
  go_wp2
  have HI : Aside _ := hI
  clear hI hkcs
  have h0 : Below bx w w1 := belowN (Below.refl _ _) hb1 (by omega)
  have hB1 := hB.keep hb1
  have hn5 : (ks.map (·.1)).length = its.length + 1 := by simp [hkl]
  rw [hn5] at *
  go_loopg [8] (its.length - i) (fun kx s8 wr => ∃ j q' : Nat, s8 = .int .i64 j ∧ j ≤ its.length ∧ kx = its.length - j ∧ q' + R j ≤ q + l.length ∧ Box wr bx q' ∧ Below bx w wr)
  case atStart => exact ⟨i, q, rfl, hi1, rfl, by have := hll i hi1; omega, hB1, h0⟩
  case round =>
    obtain ⟨j, q', rfl, hj, hk, hqq, hBr, hbr⟩ := hrel
    have hbb := (hb.only (onlyN hbr) (by omega))
    have haa := (ha.only (onlyN hbr) (fun x hx => by have := hBl x hx; omega))
    have hkr := (hkk.only (onlyN hbr) (fun x hx => by have := hCl x hx; omega))
    have hc := hbb.cell
    obtain ⟨z, hz⟩ : ∃ z, ks[j]? = some z := ⟨ks[j], List.getElem?_eq_getElem (by omega)⟩
    have hzm := List.mem_of_getElem? hz
    have hkj : wr.cell? ⟨kb, j, none⟩ = some (Ptr z.1) := by
      obtain ⟨kb2, kc2, e, -, -, -, -, hkcs, -⟩ := hkr.some (by rw [List.length_map, hkl]; exact Nat.succ_pos _)
      obtain rfl : kb = kb2 := by simpa [Value.ownBlock] using congrArg Value.ownBlock e
      exact hkcs j (Ptr z.1) (by simp [hz])
    have hRr := Rep.only (onlyN hbr) h z.1 z.2.1 z.2.2 (hRk z hzm) (fun x hx => by have := hKl z hzm x hx; omega)
    have hIr : Its wr z.2.1 := fun x hx => by
      obtain ⟨kk, v, h⟩ := HI.out x (hik z hzm x hx)
      exact ⟨kk, v, h.only (onlyN hbr) (by have := hl x (hik z hzm x hx); omega)⟩
    have hRj := hst j z hz
    have hRz : z.2.1.length ≤ R j := by rw [hRj]; exact Nat.le_add_right _ _
    have hcw := IH bx z.1 q' z.2.1 z.2.2 lo hi wr hRr hIr (hKl z hzm) (fun x hx => hl x (hik z hzm x hx)) hBr (by omega)
    go_wp2_with fail
    go_at_call 137
    refine hcw.mono ?_
    rintro e w2 ⟨rfl, q2, hq2, hB2, hb2⟩
    have hbr2 := belowNN hbr hb2
    have hbb2 := (hb.only (onlyN hbr2) (by omega))
    have haa2 := (ha.only (onlyN hbr2) (fun x hx => by have := hBl x hx; omega))
    have hc2 := hbb2.cell
    clear hc hkj hbb haa hkr
    by_cases hjl : j = its.length
    · rw [if_neg (by omega)] at hRj
      subst hjl
      have hA : s = .slice none 0 0 ∧ its = [] ∨ ∃ ib c, s = .slice (some ⟨ib, 0, none⟩) its.length c := by
        obtain ⟨rfl, rfl, rfl⟩ | ⟨ib, rest, rfl, -⟩ := ha
        · exact .inl ⟨rfl, rfl⟩
        · exact .inr ⟨ib, _, rfl⟩
      rcases hA with ⟨rfl, h00⟩ | ⟨ib, c, rfl⟩
      · subst h00
        simp only [List.length_nil] at *
        go_wp2
        go_end0
        exact ⟨rfl, q2, by omega, hB2, hbr2⟩
      · go_wp2
        go_end0
        exact ⟨rfl, q2, by omega, hB2, hbr2⟩
    · have hjlt : j < its.length := by omega
      rw [if_pos hjlt] at hRj
      obtain ⟨ib, c, rfl, -, hibl, -, -, hics, -⟩ := haa2.some (by omega)
      have hic := hics j (Ptr its[j]) (by simp [hjlt])
      obtain ⟨kk, iv, hit⟩ := HI.out its[j] (hil _ (List.getElem_mem _))
      have hitl := hl its[j] (hil _ (List.getElem_mem _))
      have hitr := hit.only (onlyN hbr2) (by omega)
      have hkc := hitr.cell
      have hne2 : ¬ (j : Int) = (its.length : Int) := by omega
      have hcall := keys1_f bx its[j] q2 kk iv w2 hB2 hitr (by omega) (by omega)
      have hgo : ∀ w', Box w' bx (q2 + 1) ∧ Below bx w2 w' → ∃ j2 q3 : Nat, (Value.int .i64 ((j : Int) + 1)) = .int .i64 j2 ∧ j2 ≤ its.length ∧ its.length - (j + 1) = its.length - j2 ∧ q3 + R j2 ≤ q + l.length ∧ Box w' bx q3 ∧ Below bx w w' := fun w' ⟨h2, h3⟩ =>
        ⟨j + 1, q2 + 1, by simp, by omega, rfl, by omega, h2, belowNN hbr2 h3⟩
      cases hhe : (hi.toList == ([] : List UInt8)) with
      | true =>
        go_wp2_with (go_at_fn 138; refine hcall.mono ?_; rintro e w2 ⟨rfl, hB2, hb2⟩)
        go_roundg (its.length - (j + 1))
        case measure => omega
        case rel => exact hgo _ ⟨hB2, hb2⟩
      | false =>
        cases hlt : Op.bytesLess kk.toList hi.toList with
        | true =>
          go_wp2_with (go_at_fn 138; refine hcall.mono ?_; rintro e w2 ⟨rfl, hB2, hb2⟩)
          go_roundg (its.length - (j + 1))
          case measure => omega
          case rel => exact hgo _ ⟨hB2, hb2⟩
        | false =>
          go_wp2
          go_end0
          exact ⟨rfl, q2, by omega, hB2, hbr2⟩

theorem walk_all : ∀ h, WalkAt h
  | 0 => fun bx b q l F lo hi w hR hI hF hl hB hq => walk_leaf bx b q l F lo hi w hR hI hF hl hB hq
  | h + 1 => walk_inner h (walk_all h)
end Go.Proofs.YtbheebpfbabffaaGreat.Wat

