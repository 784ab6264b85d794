/- An expression of lists of numbers: its text, what it means; plain lists of bytes, no program in sight. -/
import Derived.Test.YtdpaiaeaamokeaaDoorCronRefP
import Derived.Test.YtdpaiaeaamokeaaDoorCronD
import Derived.Test.YtdpaiaeaamokeaaDoorCronF
import Derived.Test.YtdpaiaeaamokeaaDoorCronE
namespace Go.Proofs.YtdpaiaeaamokeaaDoor.Cron
open Go.RowKit Go Go.Proofs.YtdpaiaeaamokeaaDoor.Cal

def dd2 (n : Nat) : List UInt8 := [UInt8.ofNat (48 + n / 10), UInt8.ofNat (48 + n % 10)]
/-- Numbers, a comma between. -/
def txtN (ns : List Nat) : List UInt8 := Lib.join (ns.map dd2) [44]
theorem join_last6 (sep : List UInt8) : ∀ (a : List (List UInt8)) (x : List UInt8), a ≠ [] → Lib.join (a ++ [x]) sep = Lib.join a sep ++ sep ++ x
  | [], _, h => absurd rfl h
  | [p], x, _ => by simp [Lib.join]
  | p :: q :: a, x, _ => by
    have := join_last6 sep (q :: a) x (by simp)
    rw [List.cons_append, List.cons_append, join_cons2, ← List.cons_append, this, join_cons2]
    simp
theorem txtN_take (ns : List Nat) (k : Nat) (h : k < ns.length) : txtN (ns.take (k + 1)) = (if k = 0 then [] else txtN (ns.take k) ++ [44]) ++ dd2 ns[k] := by
  unfold txtN
  rw [List.take_succ_eq_append_getElem h, List.map_append, List.map_cons, List.map_nil]
  by_cases h0 : k = 0
  · subst h0; simp [Lib.join]
  · rw [if_neg h0, join_last6]
    intro e
    have := congrArg List.length e
    rw [List.length_map, List.length_take, List.length_nil] at this
    omega
theorem txtN_len : ∀ ns : List Nat, (txtN ns).length ≤ 3 * ns.length := by
  intro ns
  have := join_len [44] 2 (ns.map dd2) (by
    intro x hx
    obtain ⟨n, -, rfl⟩ := List.mem_map.1 hx
    simp [dd2])
  simp at this
  unfold txtN
  omega
def orN (ns : List Nat) : Nat := ns.foldl (fun a n => a ||| 2 ^ n) 0
theorem orN_acc (i : Nat) : ∀ (ns : List Nat) (a : Nat), (ns.foldl (fun a n => a ||| 2 ^ n) a).testBit i = (a.testBit i || decide (i ∈ ns))
  | [], a => by simp
  | n :: ns, a => by
    rw [List.foldl_cons, orN_acc i ns, Nat.testBit_or, Nat.testBit_two_pow, Bool.or_assoc]
    congr 1
    by_cases h : n = i
    · simp [h]
    · simp [h, Ne.symm h]
theorem orN_test (ns : List Nat) (i : Nat) : (orN ns).testBit i = decide (i ∈ ns) := by
  unfold orN
  rw [orN_acc, Nat.zero_testBit, Bool.false_or]
theorem dd2_num : ∀ n, n < 100 → pnum (dd2 n) = n := by decide +kernel
theorem dd2_free : ∀ n, n < 100 → ∀ c ∈ dd2 n, c ≠ 45 ∧ c ≠ 44 ∧ c ≠ 42 ∧ isBlank c = false := by decide +kernel
theorem span_one (n : Nat) : spanN n n = 2 ^ n := by unfold spanN; rw [Nat.pow_succ]; omega
theorem pitem_dd (n lo hi : Nat) (h1 : lo ≤ n) (h2 : n ≤ hi) (h3 : hi < 100) : pitem (dd2 n) lo hi = 2 ^ n := by
  unfold pitem
  rw [cut1_none 45 _ (fun c hc => (dd2_free n (by omega) c hc).1)]
  dsimp only
  simp only [Bool.false_eq_true, if_false]
  rw [dd2_num n (by omega), if_neg (by omega)]
  show spanN n n = _
  exact span_one n
theorem pitems_dd (lo hi : Nat) (h3 : hi < 100) : ∀ (ns : List Nat) (acc : Nat), (∀ n ∈ ns, lo ≤ n ∧ n ≤ hi) → pitems lo hi (ns.map dd2) acc = ns.foldl (fun a n => a ||| 2 ^ n) acc
  | [], _, _ => rfl
  | n :: ns, acc, h => by
    have hn := h n (by simp)
    rw [List.map_cons, pitems, pitem_dd n lo hi hn.1 hn.2 h3, if_neg (by have := Nat.one_le_two_pow (n := n); omega), List.foldl_cons]
    exact pitems_dd lo hi h3 ns _ (fun m hm => h m (by simp [hm]))
theorem txtN_free (ns : List Nat) (h : ∀ n ∈ ns, n < 100) : ∀ c ∈ txtN ns, c ≠ 42 ∧ isBlank c = false :=
  join_free [44] (fun c => c ≠ 42 ∧ isBlank c = false) (by decide) _ (fun x hx c hc => by
    obtain ⟨n, hn, rfl⟩ := List.mem_map.1 hx
    exact (dd2_free n (h n hn) c hc).2.2)
theorem txtN_ne (ns : List Nat) (h : ns ≠ []) : txtN ns ≠ [] := by
  match ns, h with
  | [n], _ => simp [txtN, Lib.join, dd2]
  | n :: m :: r, _ =>
    unfold txtN
    rw [List.map_cons, List.map_cons, join_cons2]
    simp [dd2]
theorem pfield_txt (ns : List Nat) (lo hi : Nat) (h3 : hi < 100) (hne : ns ≠ []) (h : ∀ n ∈ ns, lo ≤ n ∧ n ≤ hi) : pfield (txtN ns) lo hi = orN ns := by
  have h1 : txtN ns ≠ [42] := by
    intro e
    have := txtN_free ns (fun n hn => by have := h n hn; omega) 42 (by rw [e]; simp)
    exact this.1 rfl
  rw [pfield, if_neg h1, txtN, pieces_join 44 _ (by simpa using hne) (fun x hx c hc => by
    obtain ⟨n, hn, rfl⟩ := List.mem_map.1 hx
    exact (dd2_free n (by have := h n hn; omega) c hc).2.1), pitems_dd lo hi h3 ns 0 h]; rfl
theorem orN_pos (ns : List Nat) (h : ns ≠ []) : orN ns ≠ 0 := by
  intro e
  match ns, h with
  | n :: r, _ =>
    have := orN_test (n :: r) n
    rw [e, Nat.zero_testBit] at this
    simp at this
/-- The whole text. -/
def listTxt (a b c : List UInt8) : List UInt8 := a ++ [32] ++ b ++ [9, 42, 32] ++ c ++ [32, 32, 42]
theorem list_flds (a b c : List UInt8) (ha : a ≠ [] ∧ ∀ x ∈ a, isBlank x = false) (hb : b ≠ [] ∧ ∀ x ∈ b, isBlank x = false) (hc : c ≠ [] ∧ ∀ x ∈ c, isBlank x = false) : flds (listTxt a b c) = [a, b, [42], c, [42]] := by
  have hs : ∀ (st : List (List UInt8) × Bool) (x : UInt8) (r : List UInt8), isBlank x = true → (x :: r).foldl fstep st = r.foldl fstep (st.1, false) := by
    intro st x r hx
    rw [List.foldl_cons, fstep, if_pos hx]
  have e : listTxt a b c = a ++ (32 :: (b ++ (9 :: ([42] ++ (32 :: (c ++ (32 :: 32 :: [42]))))))) := by simp [listTxt]
  rw [e]
  unfold flds fold
  rw [List.foldl_append, fold_new a [] ha.1 ha.2, hs _ _ _ (by decide), List.foldl_append, fold_new b _ hb.1 hb.2, hs _ _ _ (by decide), List.foldl_append, fold_new [42] _ (by simp) (by decide), hs _ _ _ (by decide), List.foldl_append, fold_new c _ hc.1 hc.2, hs _ _ _ (by decide), hs _ _ _ (by decide), fold_new [42] _ (by simp) (by decide)]
  rfl
def exL3 (m h o : List Nat) : Ex := ⟨orN m, orN h, spanN 1 31, orN o, spanN 0 6, true, true⟩
theorem list_pex (m h o : List Nat) (hm : m ≠ [] ∧ ∀ n ∈ m, n ≤ 59) (hh : h ≠ [] ∧ ∀ n ∈ h, n ≤ 23) (ho : o ≠ [] ∧ ∀ n ∈ o, 1 ≤ n ∧ n ≤ 12) : pex (listTxt (txtN m) (txtN h) (txtN o)) = some (exL3 m h o) := by
  have f1 := list_flds (txtN m) (txtN h) (txtN o) ⟨txtN_ne m hm.1, fun c hc => (txtN_free m (fun n hn => by have := hm.2 n hn; omega) c hc).2⟩ ⟨txtN_ne h hh.1, fun c hc => (txtN_free h (fun n hn => by have := hh.2 n hn; omega) c hc).2⟩ ⟨txtN_ne o ho.1, fun c hc => (txtN_free o (fun n hn => by have := ho.2 n hn; omega) c hc).2⟩
  have p1 := pfield_txt m 0 59 (by omega) hm.1 (fun n hn => ⟨by omega, hm.2 n hn⟩)
  have p2 := pfield_txt h 0 23 (by omega) hh.1 (fun n hn => ⟨by omega, hh.2 n hn⟩)
  have p3 := pfield_txt o 1 12 (by omega) ho.1 ho.2
  have q1 : pfield [42] 1 31 = spanN 1 31 := by rw [pfield, if_pos rfl]
  have q2 : pfield [42] 0 6 = spanN 0 6 := by rw [pfield, if_pos rfl]
  have s1 := span_pos 1 31 (by omega)
  have s2 := span_pos 0 6 (by omega)
  rw [pex_five f1, p1, p2, p3, q1, q2, if_neg (by
    have := orN_pos m hm.1
    have := orN_pos h hh.1
    have := orN_pos o ho.1
    omega)]
  simp [exL3]
theorem list_pres (T : ByteArray) (m h o : List Nat) (hT : T.data.toList = listTxt (txtN m) (txtN h) (txtN o)) (hl : m.length + h.length + o.length ≤ 20) (hm : m ≠ [] ∧ ∀ n ∈ m, n ≤ 59) (hh : h ≠ [] ∧ ∀ n ∈ h, n ≤ 23) (ho : o ≠ [] ∧ ∀ n ∈ o, 1 ≤ n ∧ n ≤ 12) : pres T = (exL3 m h o, 0) ∧ T.size ≤ 100 := by
  have hz : T.size ≤ 100 := by
    have h1 := congrArg List.length hT
    rw [Array.length_toList] at h1
    have a := txtN_len m
    have b := txtN_len h
    have c := txtN_len o
    simp [listTxt] at h1
    have h2 : T.data.size = T.size := rfl
    omega
  exact ⟨pres_some T _ hz (by rw [hT]; exact list_pex m h o hm hh ho), hz⟩
/-- A minute matches it just if its fields stand in the lists. -/
theorem exL3_match (ms hs os : List Nat) (n D y m d : Int) (h1 : -1035593280 ≤ n) (h2 : n ≤ 4223371679) (hD : (n + 1035593280) / 1440 = D) (hd : IsDay D y m d) :
    mt (exL3 ms hs os) n = (decide (((n + 1035593280) % 60).toNat ∈ ms) && (decide (((n + 1035593280) % 1440 / 60).toNat ∈ hs) && decide (m.toNat ∈ os))) := by
  have hd' := hd
  rw [← hD] at hd'
  rw [mt_at _ n y m d h1 h2 hd', hD]
  simp only [exL3, dayOk, orN_test]
  cases decide (((n + 1035593280) % 60).toNat ∈ ms) <;> cases decide (((n + 1035593280) % 1440 / 60).toNat ∈ hs) <;> cases decide (m.toNat ∈ os) <;> rfl
end Go.Proofs.YtdpaiaeaamokeaaDoor.Cron
