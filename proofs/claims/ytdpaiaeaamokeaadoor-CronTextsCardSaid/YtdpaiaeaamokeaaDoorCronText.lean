/- The contracts of cron.star, cron.Expr.Text. -/
import Derived.Test.YtdpaiaeaamokeaaDoorCronTold
import Derived.Test.YtdpaiaeaamokeaaDoorCronBack
import Derived.Test.YtdpaiaeaamokeaaDoorCronParse
import Derived.Test.YtdpaiaeaamokeaaDoorCronEarly
namespace Go.Proofs.YtdpaiaeaamokeaaDoor.Cron
open Go.RowKit Go

theorem star_any (all : Bool) (b lo hi : Nat) (w : World) (hb : b < 18446744073709551616) (hl : lo ≤ hi) (hh : hi ≤ 62) :
    Calls Tryd.prog 60 #[.bool all, .int .u64 b, .int .i64 lo, .int .i64 hi] w fun e w' => e = .returned (.string (bytesOf (starL all b lo hi))) ∧ Below w.heap.size w w' := by
  cases all with
  | true =>
    have HS : Hid (starL true b lo hi = [42]) := rfl
    go_enter Tryd.func60, Tryd.ntmps60
    go_wp2
    go_ret
    exact ⟨by rw [HS.out]; rfl, Below.refl _ _⟩
  | false =>
    have HS : Hid (starL false b lo hi = toldL b lo hi) := by show _ = _; simp [starL]
    go_enter Tryd.func60, Tryd.ntmps60
    go_wp2_with fail
    go_at_call 92
    refine (told_any b lo hi _ hb hl hh).mono ?_
    rintro x w1 ⟨rfl, hb1⟩
    go_wp2
    go_ret
    exact ⟨by rw [HS.out]; rfl, hb1⟩
/-- .. over Int bounds: one contract for all calls. -/
theorem star_i (all : Bool) (b : Nat) (x y : Int) (w : World) (hb : b < 18446744073709551616) (h : 0 ≤ x ∧ x ≤ y ∧ y ≤ 62) :
    Calls Tryd.prog 60 #[.bool all, .int .u64 b, .int .i64 x, .int .i64 y] w fun e w' => e = .returned (.string (bytesOf (starL all b x.toNat y.toNat))) ∧ Below w.heap.size w w' := by
  have := star_any all b x.toNat y.toNat w hb (by omega) (by omega)
  rw [Int.toNat_of_nonneg (by omega), Int.toNat_of_nonneg (by omega)] at this
  exact this
theorem span_ib (x y : Int) (w : World) (h : 0 ≤ x ∧ x ≤ y ∧ y ≤ 62) : Calls Tryd.prog 61 #[.int .i64 x, .int .i64 y] w fun e w' => e = .returned (.int .u64 (spanN x.toNat y.toNat : Nat)) ∧ Below w.heap.size w w' :=
  (span_i x y w h).mono fun _ _ ⟨he, _, hw⟩ => ⟨he, hw ▸ below_drewN (Below.refl _ _) _⟩
theorem join_bytes (l : List (List UInt8)) : (l.map bytesOf).map (·.data.toList) = l := by
  rw [List.map_map]; exact List.map_id'' (fun x => rfl) l

theorem txt_keep {b : Nat} {C : Array Value} {w W : World} (hc : ∀ o, w.cell? ⟨b, o, none⟩ = C[o]?) (hl : b < w.heap.size) (hb : Below w.heap.size w W) :
    (∀ o, W.cell? ⟨b, o, none⟩ = C[o]?) ∧ Below w.heap.size w W := ⟨fun o => (keep0 hb hl o).trans (hc o), hb⟩
theorem txt_alloc {b : Nat} {C : Array Value} {w W : World} {x : Obj} (hc : ∀ o, w.cell? ⟨b, o, none⟩ = C[o]?) (hl : b < w.heap.size) (hb : Below w.heap.size w W) :
    (∀ o, (W.alloc x).cell? ⟨b, o, none⟩ = C[o]?) ∧ Below w.heap.size w (W.alloc x) := txt_keep hc hl (bmore hb x)
theorem txt_allocD {b : Nat} {C : Array Value} {w W : World} {x : Obj} (hc : ∀ o, w.cell? ⟨b, o, none⟩ = C[o]?) (hl : b < w.heap.size) (hb : Below w.heap.size w W) :
    (∀ o, ((W.alloc x).drew).cell? ⟨b, o, none⟩ = C[o]?) ∧ Below w.heap.size w ((W.alloc x).drew) := txt_keep hc hl (bmore hb x).drew
theorem join5 {X : World} {b : Nat} {S0 S1 S2 S3 S4 sep : ByteArray} (hc : ∀ j, X.cell? ⟨b, j, none⟩ = (#[Value.string S0, .string S1, .string S2, .string S3, .string S4] : Array Value)[j]?) (hb : b < X.heap.size)
    (hl : (Lib.join [S0.data.toList, S1.data.toList, S2.data.toList, S3.data.toList, S4.data.toList] sep.data.toList).length ≤ 140737488355328) :
    Calls Tryd.prog 52 #[.slice (some ⟨b, 0, none⟩) 5 5, .string sep] X fun e w' => e = .returned (.string (bytesOf (Lib.join [S0.data.toList, S1.data.toList, S2.data.toList, S3.data.toList, S4.data.toList] sep.data.toList))) ∧ Below X.heap.size X w' :=
  Tryd.strings_Join b 0 5 [S0, S1, S2, S3, S4] sep X (fun j x hx => by
    rw [Nat.zero_add, hc j]
    match j, hx with
    | 0, hx => cases hx; rfl
    | 1, hx => cases hx; rfl
    | 2, hx => cases hx; rfl
    | 3, hx => cases hx; rfl
    | 4, hx => cases hx; rfl
    | _ + 5, hx => simp at hx) hb (by simp) (by simp) hl
theorem starL_len (all : Bool) (b lo hi : Nat) (h : hi ≤ 62) : (starL all b lo hi).length ≤ 400 := by
  unfold starL; split
  · simp
  · exact toldL_len b lo hi h
theorem join5_len (a b c d e : List UInt8) (ha : a.length ≤ 400) (hb : b.length ≤ 400) (hc : c.length ≤ 400) (hd : d.length ≤ 400) (he : e.length ≤ 400) : (Lib.join [a, b, c, d, e] [32]).length ≤ 140737488355328 := by
  have := join_len [32] 400 [a, b, c, d, e] (by simp [ha, hb, hc, hd, he])
  simp at this; omega
theorem eq_dec (a b : Nat) : ((a : Int) == (b : Int)) = decide (a = b) := by rw [Bool.eq_iff_iff]; simp; omega

set_option maxHeartbeats 4000000 in
set_option maxRecDepth 100000 in
theorem text_any (e : Ex) (w : World) (he : ExOk e) :
    Calls Tryd.prog 19 #[exV e] w fun x w' => x = .returned (.string (bytesOf (textL e))) ∧ Below w.heap.size w w' := by
  obtain ⟨mi, ho, da, mo, wk, ad, aw⟩ := e
  obtain ⟨b1, b2, b3, b4, b5⟩ := he
  dsimp only at b1 b2 b3 b4 b5
  unfold exV
  have HT : Hid (textL ⟨mi, ho, da, mo, wk, ad, aw⟩ = Lib.join [starL ((mi : Int) == (spanN 0 59 : Nat)) mi 0 59, starL ((ho : Int) == (spanN 0 23 : Nat)) ho 0 23, starL ad da 1 31, starL ((mo : Int) == (spanN 1 12 : Nat)) mo 1 12, starL aw wk 0 6] [32]) := by
    show _ = _
    rw [eq_dec, eq_dec, eq_dec]; rfl
  go_enter Tryd.func19, Tryd.ntmps19
  go_wp2
  have hc := alloc_new w #[.int .u64 mi, .int .u64 ho, .int .u64 da, .int .u64 mo, .int .u64 wk, .bool ad, .bool aw] 35
  have hgl : w.heap.size < (w.alloc (.cells #[.int .u64 mi, .int .u64 ho, .int .u64 da, .int .u64 mo, .int .u64 wk, .bool ad, .bool aw] 35)).heap.size := by simp
  have hb0 : Below w.heap.size w (w.alloc (.cells #[.int .u64 mi, .int .u64 ho, .int .u64 da, .int .u64 mo, .int .u64 wk, .bool ad, .bool aw] 35)) := bmore (Below.refl _ _) _
  generalize w.alloc (.cells #[.int .u64 mi, .int .u64 ho, .int .u64 da, .int .u64 mo, .int .u64 wk, .bool ad, .bool aw] 35) = w2 at *
  have hbs : Below w2.heap.size w2 w2 := Below.refl _ _
  have HB0 := Lib.hid hb0
  clear hb0
  have HB1 : Hid (Below w.heap.size w w2) := HB0
  generalize w.heap.size = B at hc hgl HB0 ⊢
  go_region_held3 (fun w' => (∀ o, w'.cell? ⟨B, o, none⟩ = (#[.int .u64 mi, .int .u64 ho, .int .u64 da, .int .u64 mo, .int .u64 wk, .bool ad, .bool aw] : Array Value)[o]?) ∧ Below w2.heap.size w2 w')
    (first
      | with_reducible exact txt_keep hc hgl hbs.drew
      | (with_reducible refine txt_alloc hc hgl ?_
         first | assumption | exact hbs.drew | (go_split_ands; assumption))
      | (with_reducible refine txt_allocD hc hgl ?_
         first | assumption | exact hbs.drew | (go_split_ands; assumption))
      | (with_reducible refine txt_keep hc hgl (bthen ?_ hb)
         first | assumption | exact hbs.drew | (go_split_ands; assumption))
      | go_keep)
    (first
      | (go_at_call 61; refine (span_ib _ _ _ (by omega)).mono ?_; rintro e w3 ⟨rfl, hb⟩)
      | (go_at_call 60; refine (star_i _ _ _ _ _ (by assumption) (by omega)).mono ?_; rintro e w3 ⟨rfl, hb⟩)
      | (go_at_call 52; refine (join5 (alloc_new _ _ _) (by simp) (join5_len _ _ _ _ _ (starL_len _ _ _ _ (by omega)) (starL_len _ _ _ _ (by omega)) (starL_len _ _ _ _ (by omega)) (starL_len _ _ _ _ (by omega)) (starL_len _ _ _ _ (by omega)))).mono ?_; rintro e w3 ⟨rfl, hb⟩))
  all_goals (
    go_wp2_with fail
    go_ret
    refine ⟨by rw [HT.out]; rfl, bthen HB1.out ?_⟩
    go_split_ands
    assumption)
end Go.Proofs.YtdpaiaeaamokeaaDoor.Cron
