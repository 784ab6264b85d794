/- The store's note: a change taken in. -/
import Derived.Deep.DeepCutAuto
import Derived.Deep.RegionWith
import Derived.Deep.RegionHeld3
import Derived.Deep.RegionLaw
import Derived.Test.YtbheebpfbabffaaGreatVK
set_option linter.unusedSimpArgs false
set_option linter.unusedVariables false
namespace Go.Proofs.YtbheebpfbabffaaGreat.Wat
open Go.RowKit Go Go.Lib Mach Go.MapKept

theorem key_ne {k : ByteArray} (h : 1 ≤ k.size) : (k.toList == ([] : List UInt8)) = false := by
  cases hh : (k.toList == ([] : List UInt8)) with
  | false => rfl
  | true =>
    have h1 : k.toList = [] := by simpa using hh
    rw [Lib.toList_data] at h1
    have h2 : k.size = 0 := by
      show k.data.toList.length = 0
      rw [h1]; rfl
    omega
theorem MapK.grown {w w' : World} {d : TypeDesc} {b : Nat} {l : List MapEntry} {r : Option Nat} (h : MapK w d b l) (k : w.grownBy w' r) (hr : r ≠ some b) : MapK w' d b l :=
  h.only (only_grown (G := fun y => r = some y) (Only.refl _ w) k (fun y hy _ => hy)) hr
theorem own_alloc {w : World} {base : Nat} {e : TypeId} {size n : Nat} {v : Value} {xs : List Value} (h : w.ownsRow base e size v n xs) (o : Obj) : (w.alloc o).ownsRow base e size v n xs := own_below h ((Below.refl _ _).alloc (Nat.le_refl _) _)
theorem own_drew {w : World} {base : Nat} {e : TypeId} {size n : Nat} {v : Value} {xs : List Value} (h : w.ownsRow base e size v n xs) : w.drew.ownsRow base e size v n xs := h

theorem cell_setMap2 (w : World) (r : Nat) (es : Array MapEntry) (c b o : Nat) (h : b ≠ r) : (setMap w r es c).cell? ⟨b, o, none⟩ = w.cell? ⟨b, o, none⟩ := World.cell?_of_block (w := w) (by
  simp only [setMap, Array.getElem?_setIfInBounds]
  rw [if_neg (fun e => h e.symm)])
/-- What the loads of note's region read, in a world on its way. -/
def S3 (wb : World) (F : Nat → Prop) (x b : Nat) (C D : Array Value) (W : World) : Prop := (∀ o, W.cell? ⟨x, o, none⟩ = C[o]?) ∧ (∀ o, W.cell? ⟨b, o, none⟩ = D[o]?) ∧ x < W.heap.size ∧ b < W.heap.size ∧ Only F wb W
theorem n3_keep {C D : Array Value} {x b : Nat} {F : Nat → Prop} {wb W W' : World} (hS : (∀ o, W.cell? ⟨x, o, none⟩ = C[o]?) ∧ (∀ o, W.cell? ⟨b, o, none⟩ = D[o]?) ∧ x < W.heap.size ∧ b < W.heap.size ∧ Only F wb W) (hb : Below W.heap.size W W') :
    (∀ o, W'.cell? ⟨x, o, none⟩ = C[o]?) ∧ (∀ o, W'.cell? ⟨b, o, none⟩ = D[o]?) ∧ x < W'.heap.size ∧ b < W'.heap.size ∧ Only F wb W' :=
  ⟨fun o => (keep0 hb hS.2.2.1 o).trans (hS.1 o), fun o => (keep0 hb hS.2.2.2.1 o).trans (hS.2.1 o), Nat.lt_of_lt_of_le hS.2.2.1 hb.size, Nat.lt_of_lt_of_le hS.2.2.2.1 hb.size, hS.2.2.2.2.then hb⟩
theorem n3_alloc {C D : Array Value} {x b : Nat} {F : Nat → Prop} {wb W : World} (hS : (∀ o, W.cell? ⟨x, o, none⟩ = C[o]?) ∧ (∀ o, W.cell? ⟨b, o, none⟩ = D[o]?) ∧ x < W.heap.size ∧ b < W.heap.size ∧ Only F wb W) (o : Obj) :
    (∀ q, (W.alloc o).cell? ⟨x, q, none⟩ = C[q]?) ∧ (∀ q, (W.alloc o).cell? ⟨b, q, none⟩ = D[q]?) ∧ x < (W.alloc o).heap.size ∧ b < (W.alloc o).heap.size ∧ Only F wb (W.alloc o) := n3_keep hS (bmore (Below.refl _ _) o)
theorem n3_allocd {C D : Array Value} {x b : Nat} {F : Nat → Prop} {wb W : World} (hS : (∀ o, W.drew.cell? ⟨x, o, none⟩ = C[o]?) ∧ (∀ o, W.drew.cell? ⟨b, o, none⟩ = D[o]?) ∧ x < W.drew.heap.size ∧ b < W.drew.heap.size ∧ Only F wb W.drew) (o : Obj) :
    (∀ q, (W.alloc o).drew.cell? ⟨x, q, none⟩ = C[q]?) ∧ (∀ q, (W.alloc o).drew.cell? ⟨b, q, none⟩ = D[q]?) ∧ x < (W.alloc o).drew.heap.size ∧ b < (W.alloc o).drew.heap.size ∧ Only F wb (W.alloc o).drew := n3_alloc (W := W.drew) hS o
theorem n3_map {C D : Array Value} {x b r : Nat} {F : Nat → Prop} {wb W : World} (hS : (∀ o, W.cell? ⟨x, o, none⟩ = C[o]?) ∧ (∀ o, W.cell? ⟨b, o, none⟩ = D[o]?) ∧ x < W.heap.size ∧ b < W.heap.size ∧ Only F wb W) (h1 : x ≠ r) (h2 : b ≠ r) (hF : F r) (es : Array MapEntry) (c : Nat) :
    (∀ o, (setMap W r es c).cell? ⟨x, o, none⟩ = C[o]?) ∧ (∀ o, (setMap W r es c).cell? ⟨b, o, none⟩ = D[o]?) ∧ x < (setMap W r es c).heap.size ∧ b < (setMap W r es c).heap.size ∧ Only F wb (setMap W r es c) :=
  ⟨fun o => (cell_setMap2 W r es c x o h1).trans (hS.1 o), fun o => (cell_setMap2 W r es c b o h2).trans (hS.2.1 o), by simpa [setMap] using hS.2.2.1, by simpa [setMap] using hS.2.2.2.1, hS.2.2.2.2.map r (fun _ => hF) es c⟩
theorem n3_grown {C D : Array Value} {x b : Nat} {r : Option Nat} {F : Nat → Prop} {wb W W' : World} (hS : (∀ o, W.cell? ⟨x, o, none⟩ = C[o]?) ∧ (∀ o, W.cell? ⟨b, o, none⟩ = D[o]?) ∧ x < W.heap.size ∧ b < W.heap.size ∧ Only F wb W) (k : W.grownBy W' r) (h1 : some x ≠ r) (h2 : some b ≠ r) (hF : ∀ y, r = some y → F y) :
    (∀ o, W'.cell? ⟨x, o, none⟩ = C[o]?) ∧ (∀ o, W'.cell? ⟨b, o, none⟩ = D[o]?) ∧ x < W'.heap.size ∧ b < W'.heap.size ∧ Only F wb W' :=
  ⟨fun o => (k.cell_far ⟨x, o, none⟩ hS.2.2.1 h1).trans (hS.1 o), fun o => (k.cell_far ⟨b, o, none⟩ hS.2.2.2.1 h2).trans (hS.2.1 o), Nat.lt_of_lt_of_le hS.2.2.1 k.size, Nat.lt_of_lt_of_le hS.2.2.2.1 k.size, only_grown hS.2.2.2.2 k (fun y hy _ => hF y hy)⟩
theorem low_of {C D : Array Value} {x b g : Nat} {r : Option Nat} {F : Nat → Prop} {wb W : World} (hS : (∀ o, W.cell? ⟨x, o, none⟩ = C[o]?) ∧ (∀ o, W.cell? ⟨b, o, none⟩ = D[o]?) ∧ x < W.heap.size ∧ b < W.heap.size ∧ Only F wb W) (h : r = some g ∨ g = W.heap.size) : r = some g ∨ wb.heap.size ≤ g :=
  h.imp id (fun e => by rw [e]; exact hS.2.2.2.2.size)
theorem news_blk2 {W : World} {B : Nat} {c : Array Value} (h : Blk W B c) (j : Nat) (u : Value) (hu : c.toList[j]? = some u) : W.cell? ((⟨B, 0, none⟩ : Addr).add j) = some u := by
  have hadd : (⟨B, 0, none⟩ : Addr).add j = ⟨B, j, none⟩ := by unfold Addr.add; split <;> simp_all
  rw [hadd, h.cell j]
  simpa using hu
theorem news_new2 (W : World) (c : Array Value) (t : TypeId) (j : Nat) (u : Value) (hu : c.toList[j]? = some u) : (W.alloc (.cells c t)).cell? ((⟨W.heap.size, 0, none⟩ : Addr).add j) = some u := news_blk2 (Blk.new W c t) j u hu

theorem upd_maps {P : Program} {d : TypeDesc} {t k e : TypeId} (ht : P.underlying t = some (.map k e)) (hk : P.underlying k = some d) {b : Nat} {l : List MapEntry} {key : Value} (hkey : IsKey d key) {w : World} (h : MapK w d b l) :
    ∃ (f : Value → List MapEntry) (c : Value → Nat), (∀ v, (Instr.mapUpdate t (.map (some b)) key v).run P w = .ok () (setMap w b (f v).toArray (c v))) ∧ (∀ v, MapK (setMap w b (f v).toArray (c v)) d b (f v)) ∧ ∀ v, Upd l key v (f v) := by
  have h1 := fun v => upd_map ht hk hkey v h
  refine ⟨fun v => (h1 v).choose, fun v => (h1 v).choose_spec.choose, fun v => (h1 v).choose_spec.choose_spec.1, fun v => (h1 v).choose_spec.choose_spec.2.1, fun v => (h1 v).choose_spec.choose_spec.2.2⟩

section
variable {P : Program} {w : World}
theorem step_upd_map {ops : Array Oper} {o : Oper} {a : Act} {K : Act → World → Prop} {Q : Exit → Act → World → Prop} {E : Prop} (hg : o.guard = none) (t : TypeId) (m k x : Operand) (hop : o.op = Op.mapUpdate t m k x) {d : TypeDesc} {kt e : TypeId} (ht : P.underlying t = some (.map kt e)) (hk : P.underlying kt = some d)
    (b : Nat) (l : List MapEntry) (key v : Value) (hm : a.eval m = .map (some b)) (hkv : a.eval k = key) (hkey : IsKey d key) (hv : a.eval x = v) (h : MapK w d b l)
    (hK : ∀ l' c, MapK (setMap w b l'.toArray c) d b l' → Upd l key v l' → K (a.put o.dst undef) (setMap w b l'.toArray c)) : if Region.wanted o (yielded ops a.tmps) = true then Oper.wp P o a w K Q else E := by
  have hw : Region.wanted o (yielded ops a.tmps) = true := by simp [Region.wanted, hg]
  rw [if_pos hw]
  obtain ⟨l', c, hrun, hM, hU⟩ := upd_map ht hk hkey v h
  unfold Oper.wp
  simp [execOp, hop, hm, hkv, hv, hrun, Result.andThen]
  exact hK l' c hM hU
theorem step_look_any {ops : Array Oper} {o : Oper} {a : Act} {K : Act → World → Prop} {Q : Exit → Act → World → Prop} {E : Prop} (hg : o.guard = none) (t : TypeId) (m x : Operand) (c : Bool) (hop : o.op = Op.lookup t m x c) {v : Value}
    (hrun : (Instr.lookup t (a.eval m) (a.eval x) c).run P w = .ok v w) (hK : K (a.put o.dst v) w) : if Region.wanted o (yielded ops a.tmps) = true then Oper.wp P o a w K Q else E := by
  have hw : Region.wanted o (yielded ops a.tmps) = true := by simp [Region.wanted, hg]
  rw [if_pos hw]
  unfold Oper.wp
  simp [execOp, hop, hrun, Result.andThen]
  exact hK
end

/-- What the index' part of note leaves. -/
def IxStep (xi C : Nat) (SX : List Nat) (w w' : World) : Prop := Only (fun y => y ∈ SX) w w' ∧ ∃ SX', Ix w' xi (C + 1) SX' ∧ Grow w SX SX'
/-- What the versions' part of note leaves. -/
def VsStep (vb : Nat) (es : List MapEntry) (key : ByteArray) (v0 : Value) (vs : List Ver) (p : Ver) (w w' : World) : Prop :=
  Only (fun y => y = vb ∨ v0.ownBlock = some y) w w' ∧ ∃ l' v' g, MapK w' .string vb l' ∧ Upd es (.string key) v' l' ∧ w'.ownsRow 0 VerT 2 v' (vs ++ [p]).length (vers (vs ++ [p])) ∧ v'.ownBlock = some g ∧ (v0.ownBlock = some g ∨ w.heap.size ≤ g)
theorem vs_fin {wc W : World} {vb g cap c : Nat} {es l' : List MapEntry} {key : ByteArray} {v0 : Value} {vs : List Ver} (p : Ver) (hO : Only (fun y => y = vb ∨ v0.ownBlock = some y) wc (setMap W vb l'.toArray c)) (hM : MapK (setMap W vb l'.toArray c) .string vb l') (hU : Upd es (.string key) (.slice (some ⟨g, 0, none⟩) (vs.length + 1) cap) l')
    (hown : W.ownsRow 0 VerT 2 (.slice (some ⟨g, 0, none⟩) (vs.length + 1) cap) (vs.length + 1) (vers vs ++ [.int .i64 p.1, p.2.val])) (hlo : v0.ownBlock = some g ∨ wc.heap.size ≤ g) (hvb : vb < wc.heap.size) (hvo : v0.ownBlock ≠ some vb) : VsStep vb es key v0 vs p wc (setMap W vb l'.toArray c) := by
  refine ⟨hO, l', .slice (some ⟨g, 0, none⟩) (vs.length + 1) cap, g, hM, hU, ?_, rfl, hlo⟩
  have hl : (vs ++ [p]).length = vs.length + 1 := by simp
  rw [hl, vers_append]
  refine own_keep hown ((Only.refl (fun y => y = vb) W).map vb (fun _ => rfl) _ _) (fun y hy e => ?_)
  have hy' : y = g := by simpa [blk, Value.ownBlock] using hy
  rcases hlo with h | h
  · exact hvo (by rw [h, ← hy', e])
  · omega
/-- What the changes' part of note leaves. -/
def ChStep (sb : Nat) (cv : Value) (chs : List Ver) (p : Ver) (h0 : Value → Array Value) (w w' : World) : Prop :=
  Only (fun y => y = sb ∨ cv.ownBlock = some y) w w' ∧ ∃ v' g, Blk w' sb (h0 v') ∧ w'.ownsRow 0 VerT 2 v' (chs ++ [p]).length (vers (chs ++ [p])) ∧ v'.ownBlock = some g ∧ (cv.ownBlock = some g ∨ w.heap.size ≤ g)
theorem ch_fin {wc w' : World} {sb g cap : Nat} {cv : Value} {chs : List Ver} (p : Ver) {o : Obj} {r0 r1 r2 r3 r4 op : Value} (hb : Blk w' sb #[r0, r1, r2, r3, r4, cv, op]) (hown : w'.ownsRow 0 VerT 2 (.slice (some ⟨g, 0, none⟩) (chs.length + 1) cap) (chs.length + 1) (vers chs ++ [.int .i64 p.1, p.2.val]))
    (hgb : ((wc.alloc o).drew).grownBy w' cv.ownBlock) (hat : cv.ownBlock = some g ∨ g = wc.heap.size + 1) (hco : cv.ownBlock ≠ some sb) (hsl : sb < wc.heap.size) :
    ChStep sb cv chs p (fun v => #[r0, r1, r2, r3, r4, v, op]) wc (w'.setCell ⟨sb, 5, none⟩ (.slice (some ⟨g, 0, none⟩) (chs.length + 1) cap)) := by
  have hO : Only (fun y => y = sb ∨ cv.ownBlock = some y) wc w' := only_grown (((Only.refl _ wc).alloc o).drew) hgb (fun y hy _ => .inr hy)
  have hgs : g ≠ sb := by
    rcases hat with h | h
    · exact fun e => hco (by rw [h, e])
    · omega
  refine ⟨hO.set _ (fun _ => .inl rfl) _, .slice (some ⟨g, 0, none⟩) (chs.length + 1) cap, g, ?_, ?_, rfl, hat.imp id (fun h => by omega)⟩
  · have := hb.setCell 5 (.slice (some ⟨g, 0, none⟩) (chs.length + 1) cap)
    simpa using this
  · have hl : (chs ++ [p]).length = chs.length + 1 := by simp
    rw [hl, vers_append]
    refine own_keep hown ((Only.refl (fun y => y = sb) w').set ⟨sb, 5, none⟩ (fun _ => rfl) _) (fun y hy e => ?_)
    have hy' : y = g := by simpa [blk, Value.ownBlock] using hy
    omega


set_option maxHeartbeats 16000000 in
set_option maxRecDepth 100000 in
theorem note_put {w : World} {sb xi vb C : Nat} {r0 r1 r2 : Value} {cv op v0 : Value} {SX : List Nat} {es : List MapEntry} {vs chs : List Ver} {rev : Int} {xk xv : ByteArray} {xa xb xc xd : Int} (hs : Blk w sb #[r0, r1, r2, Ptr xi, .map (some vb), cv, op]) (hix : Ix w xi C SX) (hC : C ≤ 1000000) (hm : MapK w .string vb es) (hr : 1 ≤ rev)
    (hk1 : 1 ≤ xk.size) (hk2 : xk.size ≤ 100) (hsX : sb ∉ SX) (hvX : vb ∉ SX) (hsv : sb ≠ vb) (hlook : ∀ w, MapK w .string vb es → (Instr.lookup 94 (.map (some vb)) (.string xk) false).run Tryz.prog w = .ok v0 w)
    (hrow : w.ownsRow 0 VerT 2 v0 vs.length (vers vs)) (hvl : vs.length ≤ 1000000) (hvX0 : ∀ y ∈ blk v0, y ∉ SX ∧ y ≠ sb ∧ y ≠ vb) (hch : w.ownsRow 0 VerT 2 cv chs.length (vers chs)) (hcl : chs.length ≤ 1000000) (hcX : ∀ y ∈ blk cv, y ∉ SX ∧ y ≠ sb ∧ y ≠ vb ∧ y ∉ blk v0) :
    Calls Tryz.prog 136 #[Ptr sb, .agg #[.int .i64 rev, .iface 191 (.agg #[.string xk, .string xv, .int .i64 xa, .int .i64 xb, .int .i64 xc, .int .i64 xd])]] w fun e w' => e = .returned (.tuple #[]) ∧ ∃ w1 w2 w3, Below w.heap.size w w1 ∧ IxStep xi C SX w1 w2 ∧ VsStep vb es xk v0 vs (rev, .put ⟨xk, xv, xa, xb, xc, xd⟩) w2 w3 ∧ ChStep sb cv chs (rev, .put ⟨xk, xv, xa, xb, xc, xd⟩) (fun v => #[r0, r1, r2, Ptr xi, .map (some vb), v, op]) w3 w' := by
  have hta := run_ta_put ⟨xk, xv, xa, xb, xc, xd⟩
  have hmt := meth_put ⟨xk, xv, xa, xb, xc, xd⟩
  have hkp := key_put_f ⟨xk, xv, xa, xb, xc, xd⟩
  unfold Chg.val KVr.agg at hta
  unfold KVr.agg at hmt hkp
  have hc := hs.cell
  have hl := hs.lt
  have hvb := hm.lt
  have hxl := hix.lt
  go_enter Tryz.func136, Tryz.ntmps136
  go_wp2_with fail
  obtain ⟨wa, hwa⟩ : ∃ wa, wa = (w.alloc (.cells #[.int .i64 rev, .iface 191 (.agg #[.string xk, .string xv, .int .i64 xa, .int .i64 xb, .int .i64 xc, .int .i64 xd])] 109)).alloc (.cells #[.string xk, .string xv, .int .i64 xa, .int .i64 xb, .int .i64 xc, .int .i64 xd] 191) := ⟨_, rfl⟩
  have hb : Below w.heap.size w wa := by rw [hwa]; exact bmore (bmore (Below.refl _ _) _) _
  have k1 := hs.keep hb
  have k2 := hm.keep hb
  have k3 : Ix wa xi C SX := hix.only (Only.of_below (F := fun _ => False) hb) (fun _ _ h => h)
  have k4 : Blk wa w.heap.size #[.int .i64 rev, .iface 191 (.agg #[.string xk, .string xv, .int .i64 xa, .int .i64 xb, .int .i64 xc, .int .i64 xd])] := by rw [hwa]; exact (Blk.new w _ _).alloc _
  have k5 := own_below hrow hb
  have k6 := own_below hch hb
  have hxs : ∀ y ∈ SX, y < w.heap.size := hxl
  rw [← hwa]
  have hv0l : ∀ y ∈ blk v0, y < w.heap.size := fun y hy => (own_lt hrow y hy).2
  have hcvl : ∀ y ∈ blk cv, y < w.heap.size := fun y hy => (own_lt hch y hy).2
  clear hwa hc hs hm hix hrow hch
  go_cut [] (fun wx => IxStep xi C SX wa wx)
  case first =>
    have hc1 : ∀ o, wa.drew.cell? ⟨sb, o, none⟩ = _ := k1.cell
    have hc4 : ∀ o, wa.drew.cell? ⟨w.heap.size, o, none⟩ = _ := k4.cell
    have hz1 := k1.drew.lt
    have hz4 := k4.drew.lt
    have k3d : Ix wa.drew xi C SX := k3.only (Only.refl (fun _ => False) wa).drew (fun _ _ h => h)
    go_region_with (first
      | (go_at_call 257; refine (hkp _).mono ?_; rintro e w5 ⟨rfl, hb5⟩; have hc5 := (k1.drew.keep hb5).cell; have hc6 := (k4.drew.keep hb5).cell)
      | (go_at_call 135; refine (put_f xi C SX xk rev false _ (k3d.only (Only.of_below (F := fun _ => False) hb5) (fun _ _ h => h)) (key_ne hk1) hk2 hr hC).mono ?_; rintro e w6 ⟨⟨ret, rfl⟩, hO6, SX', hI6, hG6⟩))
    all_goals (
      go_wp2_with fail
      go_meet
      exact ⟨((Only.refl _ wa).drew.then hb5).trans hO6 (fun _ _ h => h), SX', hI6, hG6.1 |> fun h1 => ⟨fun a ha => h1 a (Nat.lt_of_lt_of_le ha hb5.size), fun a ha => by
        by_cases h2 : a < w5.heap.size
        · exact Nat.le_trans (h1 a h2) (Nat.le_trans (Nat.le_of_eq (count_out (fun hm => absurd (hxs a hm) (by have := hb.size; omega)))) (Nat.zero_le _))
        · exact hG6.2 a (by omega)⟩⟩)
  case rest =>
    have hX := hcut
    obtain ⟨hO1, SX', hI1, hG1⟩ := hcut
    have m1 := k1.only hO1 hsX
    have m2 := k2.only hO1 hvX
    have m4 := k4.only hO1 (fun hm => absurd (hxs _ hm) (Nat.lt_irrefl _))
    have m5 := own_keep k5 hO1 (fun y hy => (hvX0 y hy).1)
    have m6 := own_keep k6 hO1 (fun y hy => (hcX y hy).1)
    have hsz := hO1.size
    have hbz := hb.size
    clear k1 k2 k3 k4 k5 k6 hO1 hI1 hG1
    have hbv : w.heap.size ≠ vb := by omega
    have ho1 : some sb ≠ v0.ownBlock := fun e => (hvX0 sb (by simp [blk, ← e])).2.1 rfl
    have ho2 : some w.heap.size ≠ v0.ownBlock := fun e => absurd (hv0l w.heap.size (by simp [blk, ← e])) (Nat.lt_irrefl _)
    have hvo : v0.ownBlock ≠ some vb := fun e => (hvX0 vb (by simp [blk, e])).2.2 rfl
    have ho3 : ∀ y, v0.ownBlock = some y → (y = vb ∨ v0.ownBlock = some y) := fun y h => .inr h
    have hmx : vs.length + 1 ≤ maxLen := by unfold maxLen; omega
    have hkk : (vs.length + 1) * 24 ≤ 140737488355328 := by omega
    go_wp2_with fail
    go_cut [] (fun wx => VsStep vb es xk v0 vs (rev, .put ⟨xk, xv, xa, xb, xc, xd⟩) wc wx)
    case first =>
      have hS : (∀ o, wc.drew.cell? ⟨sb, o, none⟩ = (#[r0, r1, r2, Ptr xi, .map (some vb), cv, op] : Array Value)[o]?) ∧ (∀ o, wc.drew.cell? ⟨w.heap.size, o, none⟩ = (#[.int .i64 rev, .iface 191 (.agg #[.string xk, .string xv, .int .i64 xa, .int .i64 xb, .int .i64 xc, .int .i64 xd])] : Array Value)[o]?) ∧ sb < wc.drew.heap.size ∧ w.heap.size < wc.drew.heap.size ∧ Only (fun y => y = vb ∨ v0.ownBlock = some y) wc wc.drew :=
        ⟨m1.cell, m4.cell, m1.lt, m4.lt, (Only.refl _ _).drew⟩
      have hM0 : MapK wc.drew .string vb es := m2.drew
      have hR0 := own_drew m5
      obtain ⟨i0, hi0, hz0, hz1, hz2⟩ := info_parts ver_info
      go_region_held3 (fun w' => (∀ o, w'.cell? ⟨sb, o, none⟩ = (#[r0, r1, r2, Ptr xi, .map (some vb), cv, op] : Array Value)[o]?) ∧ (∀ o, w'.cell? ⟨w.heap.size, o, none⟩ = (#[.int .i64 rev, .iface 191 (.agg #[.string xk, .string xv, .int .i64 xa, .int .i64 xb, .int .i64 xc, .int .i64 xd])] : Array Value)[o]?) ∧ sb < w'.heap.size ∧ w.heap.size < w'.heap.size ∧ Only (fun y => y = vb ∨ v0.ownBlock = some y) wc w')
        (first
          | assumption
          | with_reducible exact hS
          | (with_reducible refine n3_allocd ?_ _; exact hS)
          | (with_reducible refine n3_alloc ?_ _; first | assumption | exact hS)
          | (with_reducible refine n3_map ?_ hsv hbv (.inl rfl) _ _; first | assumption | exact hS)
          | (with_reducible refine n3_grown ?_ hgb6 ho1 ho2 ho3; first | assumption | exact hS | (with_reducible refine n3_alloc ?_ _; first | assumption | exact hS) | (with_reducible refine n3_allocd ?_ _; exact hS))
          | (with_reducible refine n3_keep ?_ hb; first | assumption | exact hS | (with_reducible refine n3_alloc ?_ _; first | assumption | exact hS) | (with_reducible refine n3_allocd ?_ _; exact hS)))
        (first
          | (go_at_call 257; refine (hkp _).mono ?_; rintro e w5 ⟨rfl, hb⟩; have hM5 : MapK w5 .string vb es := MapK.keep (by first | with_reducible assumption | exact MapK.alloc (by with_reducible assumption) _ | exact (MapK.alloc m2 _).drew) hb; (try have hR5 : w5.ownsRow 0 VerT 2 v0 vs.length (vers vs) := own_below (by first | with_reducible assumption | exact own_alloc (by with_reducible assumption) _ | exact own_drew (own_alloc m5 _)) hb); (try have hN5 := own_below (e := VerT) (v := .slice (some ⟨_, 0, none⟩) (vs.length + 1) _) (by with_reducible assumption) hb); obtain ⟨f7, c7, hu7, hM7, hU7⟩ := upd_maps Tryz.underlying94 Tryz.underlying9 (key := .string xk) trivial hM5; have hl5 := hlook w5 hM5; have hl6 := fun o => hlook (w5.alloc o) (hM5.alloc o); (try have hNn := Blk.keep (Blk.new _ #[.int .i64 rev, .iface 191 (.agg #[.string xk, .string xv, .int .i64 xa, .int .i64 xb, .int .i64 xc, .int .i64 xd])] 109) hb); (try have hNd := Blk.keep (Blk.drew (Blk.new _ #[.int .i64 rev, .iface 191 (.agg #[.string xk, .string xv, .int .i64 xa, .int .i64 xb, .int .i64 xc, .int .i64 xd])] 109)) hb); (try have hNm := Blk.keep (c := #[.int .i64 rev, .iface 191 (.agg #[.string xk, .string xv, .int .i64 xa, .int .i64 xb, .int .i64 xc, .int .i64 xd])]) (by with_reducible assumption) hb))
          | (refine step_append_lies _ rfl _ _ 95 rfl 0 VerT i0 (.agg #[.int .i64 0, .nilIface]) 2 24 Tryz.underlying95 hi0 hz0 hz1 hz2 rfl (by decide) v0 vs.length (vers vs) rfl (by first | with_reducible assumption | exact own_alloc (by with_reducible assumption) _ | exact own_drew (own_alloc m5 _)) _ 1 1 [.int .i64 rev, .iface 191 (.agg #[.string xk, .string xv, .int .i64 xa, .int .i64 xb, .int .i64 xc, .int .i64 xd])] rfl rfl (by first | exact news_new2 _ #[.int .i64 rev, .iface 191 (.agg #[.string xk, .string xv, .int .i64 xa, .int .i64 xb, .int .i64 xc, .int .i64 xd])] 109 | exact news_blk2 (c := #[.int .i64 rev, .iface 191 (.agg #[.string xk, .string xv, .int .i64 xa, .int .i64 xb, .int .i64 xc, .int .i64 xd])]) (by with_reducible assumption)) (by intro u hu; simp at hu; rcases hu with rfl | rfl <;> rfl) (by decide) hmx hkk (Nat.zero_le _) _ rfl ?_; intro g6 cap6 w6 hown6 hgb6 hat6 hgl6; have hM6 : MapK w6 .string vb es := MapK.grown (by first | with_reducible assumption | exact MapK.alloc (by with_reducible assumption) _ | exact (MapK.alloc m2 _).drew) hgb6 hvo; have hlo6 := low_of (by first | with_reducible assumption | exact hS | exact n3_alloc (by first | with_reducible assumption | exact hS) _ | exact n3_allocd hS _) hat6; obtain ⟨f7, c7, hu7, hM7, hU7⟩ := upd_maps Tryz.underlying94 Tryz.underlying9 (key := .string xk) trivial hM6))
      all_goals (
        go_wp2_with fail
        go_meet
        exact vs_fin (rev, .put ⟨xk, xv, xa, xb, xc, xd⟩) ((by assumption : (∀ o, (_ : World).cell? ⟨sb, o, none⟩ = _) ∧ _ ∧ _ ∧ _ ∧ Only (fun y => y = vb ∨ v0.ownBlock = some y) wc _)).2.2.2.2 (hM7 _) (hU7 _) (by first | exact hN5 | exact hown6) hlo6 m2.lt hvo)
    case rest =>
      have hV := hcut
      obtain ⟨hO2, -⟩ := hcut
      have hsv2 : ¬ (sb = vb ∨ v0.ownBlock = some sb) := fun e => e.elim hsv (fun e => ho1 e.symm)
      have hwv2 : ¬ (w.heap.size = vb ∨ v0.ownBlock = some w.heap.size) := fun e => e.elim hbv (fun e => ho2 e.symm)
      have t1 := m1.only hO2 hsv2
      have t4 := m4.only hO2 hwv2
      have t6 := own_keep m6 hO2 (fun y hy e => e.elim (hcX y hy).2.2.1 (fun e => (hcX y hy).2.2.2 (by simp [blk, e])))
      have hco : cv.ownBlock ≠ some sb := fun e => (hcX sb (by simp [blk, e])).2.1 rfl
      clear m1 m2 m4 m5 m6 hO2 hmx hkk
      go_wp2_with fail
      have hrc : ∀ o : Obj, ((wc.alloc o).drew).ownsRow 0 VerT 2 cv chs.length (vers chs) := fun o => own_drew (own_alloc t6 o)
      have hH : ∀ o : Obj, ((wc.alloc o).drew).heap.size = wc.heap.size + 1 := fun o => by show (wc.alloc o).heap.size = _; simp
      have mixed : Tryz.prog.follows .mixedOrders = true := by kernel_rfl
      have hmx : chs.length + 1 ≤ maxLen := by unfold maxLen; omega
      have hkk : (chs.length + 1) * 24 ≤ 140737488355328 := by omega
      have hkI : ∀ (o : Obj) (w' : World), ((wc.alloc o).drew).grownBy w' cv.ownBlock → Blk w' sb #[r0, r1, r2, Ptr xi, .map (some vb), cv, op] := fun o w' hg => by
        obtain ⟨t, hb3⟩ := (t1.alloc o).drew
        exact ⟨t, (hg.block sb (Array.getElem?_eq_some_iff.1 hb3).1 (fun e => hco e.symm)).trans hb3⟩
      have hd1 : ∀ o, wc.drew.cell? ⟨sb, o, none⟩ = _ := t1.cell
      have hd4 : ∀ o, wc.drew.cell? ⟨w.heap.size, o, none⟩ = _ := t4.cell
      have hc1 := t1.cell
      have hc4 := t4.cell
      have hsl := t1.lt
      have hwl := t4.lt
      have hai : ∀ (x : Obj) (o : Nat), ((wc.alloc x).drew).cell? ⟨sb, o, none⟩ = (#[r0, r1, r2, Ptr xi, .map (some vb), cv, op] : Array Value)[o]? := fun x o => ((t1.alloc x).drew).cell o
      obtain ⟨i0, hi0, hz0, hz1, hz2⟩ := info_parts ver_info
      go_region_law_o (refine step_append_lies _ rfl _ _ 95 rfl 0 VerT i0 (.agg #[.int .i64 0, .nilIface]) 2 24 Tryz.underlying95 hi0 hz0 hz1 hz2 rfl (by decide) cv chs.length (vers chs) rfl (hrc _) ⟨wc.heap.size, 0, none⟩ 1 1 [.int .i64 rev, .iface 191 (.agg #[.string xk, .string xv, .int .i64 xa, .int .i64 xb, .int .i64 xc, .int .i64 xd])] rfl rfl (fun j u hj => by rw [Addr.add_lit, Nat.zero_add]; exact (alloc_new wc _ _ j).trans (by simpa using hj)) (by intro u hu; simp at hu; rcases hu with rfl | rfl <;> rfl) (by decide) hmx hkk (Nat.zero_le _) (wc.heap.size + 1) (hH _) (fun g cap w' hown' hgb hat hglt => ?_); have hst' := hkI _ _ hgb; have hi1 := hst'.cell; have hf1 := hst'.frz)
      all_goals (go_end0; exact ⟨rfl, _, _, _, hb, hX, hV, ch_fin (rev, .put ⟨xk, xv, xa, xb, xc, xd⟩) hst' hown' hgb hat hco hsl⟩)

set_option maxHeartbeats 16000000 in
set_option maxRecDepth 100000 in
theorem note_del {w : World} {sb xi vb C : Nat} {r0 r1 r2 : Value} {cv op v0 : Value} {SX : List Nat} {es : List MapEntry} {vs chs : List Ver} {rev : Int} {k : ByteArray} (hs : Blk w sb #[r0, r1, r2, Ptr xi, .map (some vb), cv, op]) (hix : Ix w xi C SX) (hC : C ≤ 1000000) (hm : MapK w .string vb es) (hr : 1 ≤ rev)
    (hk1 : 1 ≤ k.size) (hk2 : k.size ≤ 100) (hsX : sb ∉ SX) (hvX : vb ∉ SX) (hsv : sb ≠ vb) (hlook : ∀ w, MapK w .string vb es → (Instr.lookup 94 (.map (some vb)) (.string k) false).run Tryz.prog w = .ok v0 w)
    (hrow : w.ownsRow 0 VerT 2 v0 vs.length (vers vs)) (hvl : vs.length ≤ 1000000) (hvX0 : ∀ y ∈ blk v0, y ∉ SX ∧ y ≠ sb ∧ y ≠ vb) (hch : w.ownsRow 0 VerT 2 cv chs.length (vers chs)) (hcl : chs.length ≤ 1000000) (hcX : ∀ y ∈ blk cv, y ∉ SX ∧ y ≠ sb ∧ y ≠ vb ∧ y ∉ blk v0) :
    Calls Tryz.prog 136 #[Ptr sb, .agg #[.int .i64 rev, .iface 259 (.agg #[.string k])]] w fun e w' => e = .returned (.tuple #[]) ∧ ∃ w1 w2 w3, Below w.heap.size w w1 ∧ IxStep xi C SX w1 w2 ∧ VsStep vb es k v0 vs (rev, .del k) w2 w3 ∧ ChStep sb cv chs (rev, .del k) (fun v => #[r0, r1, r2, Ptr xi, .map (some vb), v, op]) w3 w' := by
  have hta := run_ta_del k
  have hmt := meth_del k
  unfold Chg.val at hta
  have hc := hs.cell
  have hl := hs.lt
  have hvb := hm.lt
  have hxl := hix.lt
  go_enter Tryz.func136, Tryz.ntmps136
  go_wp2_with fail
  obtain ⟨wa, hwa⟩ : ∃ wa, wa = (w.alloc (.cells #[.int .i64 rev, .iface 259 (.agg #[.string k])] 109)).alloc (.cells #[.string ⟨#[]⟩, .string ⟨#[]⟩, .int .i64 0, .int .i64 0, .int .i64 0, .int .i64 0] 191) := ⟨_, rfl⟩
  have hb : Below w.heap.size w wa := by rw [hwa]; exact bmore (bmore (Below.refl _ _) _) _
  have k1 := hs.keep hb
  have k2 := hm.keep hb
  have k3 : Ix wa xi C SX := hix.only (Only.of_below (F := fun _ => False) hb) (fun _ _ h => h)
  have k4 : Blk wa w.heap.size #[.int .i64 rev, .iface 259 (.agg #[.string k])] := by rw [hwa]; exact (Blk.new w _ _).alloc _
  have k5 := own_below hrow hb
  have k6 := own_below hch hb
  have hxs : ∀ y ∈ SX, y < w.heap.size := hxl
  rw [← hwa]
  have hv0l : ∀ y ∈ blk v0, y < w.heap.size := fun y hy => (own_lt hrow y hy).2
  have hcvl : ∀ y ∈ blk cv, y < w.heap.size := fun y hy => (own_lt hch y hy).2
  clear hwa hc hs hm hix hrow hch
  go_cut [] (fun wx => IxStep xi C SX wa wx)
  case first =>
    have hc1 : ∀ o, wa.drew.cell? ⟨sb, o, none⟩ = _ := k1.cell
    have hc4 : ∀ o, wa.drew.cell? ⟨w.heap.size, o, none⟩ = _ := k4.cell
    have hz1 := k1.drew.lt
    have hz4 := k4.drew.lt
    have k3d : Ix wa.drew xi C SX := k3.only (Only.refl (fun _ => False) wa).drew (fun _ _ h => h)
    go_region_with (first
      | (go_at_call 258; refine (key_del_f k _).mono ?_; rintro e w5 ⟨rfl, hb5⟩; have hc5 := (k1.drew.keep hb5).cell; have hc6 := (k4.drew.keep hb5).cell)
      | (go_at_call 135; refine (put_f xi C SX k rev true _ (k3d.only (Only.of_below (F := fun _ => False) hb5) (fun _ _ h => h)) (key_ne hk1) hk2 hr hC).mono ?_; rintro e w6 ⟨⟨ret, rfl⟩, hO6, SX', hI6, hG6⟩))
    all_goals (
      go_wp2_with fail
      go_meet
      exact ⟨((Only.refl _ wa).drew.then hb5).trans hO6 (fun _ _ h => h), SX', hI6, hG6.1 |> fun h1 => ⟨fun a ha => h1 a (Nat.lt_of_lt_of_le ha hb5.size), fun a ha => by
        by_cases h2 : a < w5.heap.size
        · exact Nat.le_trans (h1 a h2) (Nat.le_trans (Nat.le_of_eq (count_out (fun hm => absurd (hxs a hm) (by have := hb.size; omega)))) (Nat.zero_le _))
        · exact hG6.2 a (by omega)⟩⟩)
  case rest =>
    have hX := hcut
    obtain ⟨hO1, SX', hI1, hG1⟩ := hcut
    have m1 := k1.only hO1 hsX
    have m2 := k2.only hO1 hvX
    have m4 := k4.only hO1 (fun hm => absurd (hxs _ hm) (Nat.lt_irrefl _))
    have m5 := own_keep k5 hO1 (fun y hy => (hvX0 y hy).1)
    have m6 := own_keep k6 hO1 (fun y hy => (hcX y hy).1)
    have hsz := hO1.size
    have hbz := hb.size
    clear k1 k2 k3 k4 k5 k6 hO1 hI1 hG1
    have hbv : w.heap.size ≠ vb := by omega
    have ho1 : some sb ≠ v0.ownBlock := fun e => (hvX0 sb (by simp [blk, ← e])).2.1 rfl
    have ho2 : some w.heap.size ≠ v0.ownBlock := fun e => absurd (hv0l w.heap.size (by simp [blk, ← e])) (Nat.lt_irrefl _)
    have hvo : v0.ownBlock ≠ some vb := fun e => (hvX0 vb (by simp [blk, e])).2.2 rfl
    have ho3 : ∀ y, v0.ownBlock = some y → (y = vb ∨ v0.ownBlock = some y) := fun y h => .inr h
    have hmx : vs.length + 1 ≤ maxLen := by unfold maxLen; omega
    have hkk : (vs.length + 1) * 24 ≤ 140737488355328 := by omega
    go_wp2_with fail
    go_cut [] (fun wx => VsStep vb es k v0 vs (rev, .del k) wc wx)
    case first =>
      have hS : (∀ o, wc.drew.cell? ⟨sb, o, none⟩ = (#[r0, r1, r2, Ptr xi, .map (some vb), cv, op] : Array Value)[o]?) ∧ (∀ o, wc.drew.cell? ⟨w.heap.size, o, none⟩ = (#[.int .i64 rev, .iface 259 (.agg #[.string k])] : Array Value)[o]?) ∧ sb < wc.drew.heap.size ∧ w.heap.size < wc.drew.heap.size ∧ Only (fun y => y = vb ∨ v0.ownBlock = some y) wc wc.drew :=
        ⟨m1.cell, m4.cell, m1.lt, m4.lt, (Only.refl _ _).drew⟩
      have hM0 : MapK wc.drew .string vb es := m2.drew
      have hR0 := own_drew m5
      obtain ⟨i0, hi0, hz0, hz1, hz2⟩ := info_parts ver_info
      go_region_held3 (fun w' => (∀ o, w'.cell? ⟨sb, o, none⟩ = (#[r0, r1, r2, Ptr xi, .map (some vb), cv, op] : Array Value)[o]?) ∧ (∀ o, w'.cell? ⟨w.heap.size, o, none⟩ = (#[.int .i64 rev, .iface 259 (.agg #[.string k])] : Array Value)[o]?) ∧ sb < w'.heap.size ∧ w.heap.size < w'.heap.size ∧ Only (fun y => y = vb ∨ v0.ownBlock = some y) wc w')
        (first
          | assumption
          | with_reducible exact hS
          | (with_reducible refine n3_allocd ?_ _; exact hS)
          | (with_reducible refine n3_alloc ?_ _; first | assumption | exact hS)
          | (with_reducible refine n3_map ?_ hsv hbv (.inl rfl) _ _; first | assumption | exact hS)
          | (with_reducible refine n3_grown ?_ hgb6 ho1 ho2 ho3; first | assumption | exact hS | (with_reducible refine n3_alloc ?_ _; first | assumption | exact hS) | (with_reducible refine n3_allocd ?_ _; exact hS))
          | (with_reducible refine n3_keep ?_ hb; first | assumption | exact hS | (with_reducible refine n3_alloc ?_ _; first | assumption | exact hS) | (with_reducible refine n3_allocd ?_ _; exact hS)))
        (first
          | (go_at_call 258; refine (key_del_f k _).mono ?_; rintro e w5 ⟨rfl, hb⟩; have hM5 : MapK w5 .string vb es := MapK.keep (by first | with_reducible assumption | exact MapK.alloc (by with_reducible assumption) _ | exact (MapK.alloc m2 _).drew) hb; (try have hR5 : w5.ownsRow 0 VerT 2 v0 vs.length (vers vs) := own_below (by first | with_reducible assumption | exact own_alloc (by with_reducible assumption) _ | exact own_drew (own_alloc m5 _)) hb); (try have hN5 := own_below (e := VerT) (v := .slice (some ⟨_, 0, none⟩) (vs.length + 1) _) (by with_reducible assumption) hb); obtain ⟨f7, c7, hu7, hM7, hU7⟩ := upd_maps Tryz.underlying94 Tryz.underlying9 (key := .string k) trivial hM5; have hl5 := hlook w5 hM5; have hl6 := fun o => hlook (w5.alloc o) (hM5.alloc o); (try have hNn := Blk.keep (Blk.new _ #[.int .i64 rev, .iface 259 (.agg #[.string k])] 109) hb); (try have hNd := Blk.keep (Blk.drew (Blk.new _ #[.int .i64 rev, .iface 259 (.agg #[.string k])] 109)) hb); (try have hNm := Blk.keep (c := #[.int .i64 rev, .iface 259 (.agg #[.string k])]) (by with_reducible assumption) hb))
          | (refine step_append_lies _ rfl _ _ 95 rfl 0 VerT i0 (.agg #[.int .i64 0, .nilIface]) 2 24 Tryz.underlying95 hi0 hz0 hz1 hz2 rfl (by decide) v0 vs.length (vers vs) rfl (by first | with_reducible assumption | exact own_alloc (by with_reducible assumption) _ | exact own_drew (own_alloc m5 _)) _ 1 1 [.int .i64 rev, .iface 259 (.agg #[.string k])] rfl rfl (by first | exact news_new2 _ #[.int .i64 rev, .iface 259 (.agg #[.string k])] 109 | exact news_blk2 (c := #[.int .i64 rev, .iface 259 (.agg #[.string k])]) (by with_reducible assumption)) (by intro u hu; simp at hu; rcases hu with rfl | rfl <;> rfl) (by decide) hmx hkk (Nat.zero_le _) _ rfl ?_; intro g6 cap6 w6 hown6 hgb6 hat6 hgl6; have hM6 : MapK w6 .string vb es := MapK.grown (by first | with_reducible assumption | exact MapK.alloc (by with_reducible assumption) _ | exact (MapK.alloc m2 _).drew) hgb6 hvo; have hlo6 := low_of (by first | with_reducible assumption | exact hS | exact n3_alloc (by first | with_reducible assumption | exact hS) _ | exact n3_allocd hS _) hat6; obtain ⟨f7, c7, hu7, hM7, hU7⟩ := upd_maps Tryz.underlying94 Tryz.underlying9 (key := .string k) trivial hM6))
      all_goals (
        go_wp2_with fail
        go_meet
        exact vs_fin (rev, .del k) ((by assumption : (∀ o, (_ : World).cell? ⟨sb, o, none⟩ = _) ∧ _ ∧ _ ∧ _ ∧ Only (fun y => y = vb ∨ v0.ownBlock = some y) wc _)).2.2.2.2 (hM7 _) (hU7 _) (by first | exact hN5 | exact hown6) hlo6 m2.lt hvo)
    case rest =>
      have hV := hcut
      obtain ⟨hO2, -⟩ := hcut
      have hsv2 : ¬ (sb = vb ∨ v0.ownBlock = some sb) := fun e => e.elim hsv (fun e => ho1 e.symm)
      have hwv2 : ¬ (w.heap.size = vb ∨ v0.ownBlock = some w.heap.size) := fun e => e.elim hbv (fun e => ho2 e.symm)
      have t1 := m1.only hO2 hsv2
      have t4 := m4.only hO2 hwv2
      have t6 := own_keep m6 hO2 (fun y hy e => e.elim (hcX y hy).2.2.1 (fun e => (hcX y hy).2.2.2 (by simp [blk, e])))
      have hco : cv.ownBlock ≠ some sb := fun e => (hcX sb (by simp [blk, e])).2.1 rfl
      clear m1 m2 m4 m5 m6 hO2 hmx hkk
      go_wp2_with fail
      have hrc : ∀ o : Obj, ((wc.alloc o).drew).ownsRow 0 VerT 2 cv chs.length (vers chs) := fun o => own_drew (own_alloc t6 o)
      have hH : ∀ o : Obj, ((wc.alloc o).drew).heap.size = wc.heap.size + 1 := fun o => by show (wc.alloc o).heap.size = _; simp
      have mixed : Tryz.prog.follows .mixedOrders = true := by kernel_rfl
      have hmx : chs.length + 1 ≤ maxLen := by unfold maxLen; omega
      have hkk : (chs.length + 1) * 24 ≤ 140737488355328 := by omega
      have hkI : ∀ (o : Obj) (w' : World), ((wc.alloc o).drew).grownBy w' cv.ownBlock → Blk w' sb #[r0, r1, r2, Ptr xi, .map (some vb), cv, op] := fun o w' hg => by
        obtain ⟨t, hb3⟩ := (t1.alloc o).drew
        exact ⟨t, (hg.block sb (Array.getElem?_eq_some_iff.1 hb3).1 (fun e => hco e.symm)).trans hb3⟩
      have hd1 : ∀ o, wc.drew.cell? ⟨sb, o, none⟩ = _ := t1.cell
      have hd4 : ∀ o, wc.drew.cell? ⟨w.heap.size, o, none⟩ = _ := t4.cell
      have hc1 := t1.cell
      have hc4 := t4.cell
      have hsl := t1.lt
      have hwl := t4.lt
      have hai : ∀ (x : Obj) (o : Nat), ((wc.alloc x).drew).cell? ⟨sb, o, none⟩ = (#[r0, r1, r2, Ptr xi, .map (some vb), cv, op] : Array Value)[o]? := fun x o => ((t1.alloc x).drew).cell o
      obtain ⟨i0, hi0, hz0, hz1, hz2⟩ := info_parts ver_info
      go_region_law_o (refine step_append_lies _ rfl _ _ 95 rfl 0 VerT i0 (.agg #[.int .i64 0, .nilIface]) 2 24 Tryz.underlying95 hi0 hz0 hz1 hz2 rfl (by decide) cv chs.length (vers chs) rfl (hrc _) ⟨wc.heap.size, 0, none⟩ 1 1 [.int .i64 rev, .iface 259 (.agg #[.string k])] rfl rfl (fun j u hj => by rw [Addr.add_lit, Nat.zero_add]; exact (alloc_new wc _ _ j).trans (by simpa using hj)) (by intro u hu; simp at hu; rcases hu with rfl | rfl <;> rfl) (by decide) hmx hkk (Nat.zero_le _) (wc.heap.size + 1) (hH _) (fun g cap w' hown' hgb hat hglt => ?_); have hst' := hkI _ _ hgb; have hi1 := hst'.cell; have hf1 := hst'.frz)
      all_goals (go_end0; exact ⟨rfl, _, _, _, hb, hX, hV, ch_fin (rev, .del k) hst' hown' hgb hat hco hsl⟩)
end Go.Proofs.YtbheebpfbabffaaGreat.Wat

