/- Joined: JobSplitP, RefNum, RefSplit, RefTold17. -/
import Derived.Test.YtdpaiaeaamokeaaDoorJobB
import Derived.Test.YtdpaiaeaamokeaaDoorJobA
import Derived.Test.YtdpaiaeaamokeaaDoorRefA
import Derived.Test.YtdpaiaeaamokeaaDoorRefDec
namespace Go.Proofs.YtdpaiaeaamokeaaDoor.Job
open Go.RowKit Go Go.Proofs.YtdpaiaeaamokeaaDoor.Cron

/-- At most m cuts at blanks; what has been read of the piece under way stands ahead. -/
def sp : Nat → List UInt8 → List UInt8 → List (List UInt8)
  | _, cur, [] => [cur]
  | 0, cur, c :: r => [cur ++ c :: r]
  | m + 1, cur, c :: r => if c = 32 then cur :: sp m [] r else sp (m + 1) (cur ++ [c]) r
theorem sp_zero (cur r : List UInt8) : sp 0 cur r = [cur ++ r] := by
  cases r <;> simp [sp]
theorem sp_nil (m : Nat) (cur : List UInt8) : sp m cur [] = [cur] := by cases m <;> rfl
theorem sp_blank (m : Nat) (cur r : List UInt8) (h : 0 < m) : sp m cur (32 :: r) = cur :: sp (m - 1) [] r := by
  obtain ⟨k, rfl⟩ : ∃ k, m = k + 1 := ⟨m - 1, by omega⟩
  rw [sp, if_pos rfl]; rfl
theorem sp_other (m : Nat) (cur r : List UInt8) (c : UInt8) (h : 0 < m) (hc : c ≠ 32) : sp m cur (c :: r) = sp m (cur ++ [c]) r := by
  obtain ⟨k, rfl⟩ : ∃ k, m = k + 1 := ⟨m - 1, by omega⟩
  rw [sp, if_neg hc]
/-- As many cuts as there may be: all pieces. -/
theorem sp_all : ∀ (l : List UInt8) (m : Nat) (cur : List UInt8), l.length ≤ m → ∃ p ps, pieces 32 l = p :: ps ∧ sp m cur l = (cur ++ p) :: ps
  | [], m, cur, _ => ⟨[], [], rfl, by rw [sp_nil]; simp⟩
  | c :: l, m, cur, h => by
    simp only [List.length_cons] at h
    rw [pieces]
    by_cases hc : c = 32
    · subst hc
      obtain ⟨p, ps, h1, h2⟩ := sp_all l (m - 1) [] (by omega)
      rw [if_pos rfl, sp_blank _ _ _ (by omega), h2, h1]
      exact ⟨[], p :: ps, rfl, by simp⟩
    · obtain ⟨p, ps, h1, h2⟩ := sp_all l m (cur ++ [c]) (by omega)
      rw [if_neg hc, sp_other _ _ _ _ (by omega) hc, h2, h1]
      exact ⟨c :: p, ps, rfl, by simp⟩
theorem sp_pieces (l : List UInt8) (m : Nat) (h : l.length ≤ m) : sp m [] l = pieces 32 l := by
  obtain ⟨p, ps, h1, h2⟩ := sp_all l m [] h
  rw [h1, h2]; rfl
/-- One cut after the other. -/
theorem sp_cut : ∀ (l : List UInt8) (m : Nat) (cur : List UInt8), sp (m + 1) cur l = if (cut1 32 l).2.2 then (cur ++ (cut1 32 l).1) :: sp m [] (cut1 32 l).2.1 else [cur ++ (cut1 32 l).1]
  | [], m, cur => by simp [sp_nil, cut1]
  | c :: l, m, cur => by
    rw [cut1]
    by_cases h : c = 32
    · subst h; rw [sp_blank _ _ _ (by omega)]; simp
    · rw [if_neg h, sp_other _ _ _ _ (by omega) h, sp_cut l m (cur ++ [c])]
      dsimp only
      cases (cut1 32 l).2.2 <;> simp

/-! ### Rows of numbers -/
theorem join_last (sep : List UInt8) : ∀ (a : List (List UInt8)) (x : List UInt8), a ≠ [] → Lib.join (a ++ [x]) sep = Lib.join a sep ++ sep ++ x
  | [], _, h => absurd rfl h
  | [p], x, _ => by simp [Lib.join]
  | p :: q :: a, x, _ => by
    have := join_last sep (q :: a) x (by simp)
    rw [List.cons_append, List.cons_append, join_cons2, ← List.cons_append, this, join_cons2]
    simp
theorem minL_snoc (xs : List Int) (x : Int) (h : xs ≠ []) : minL (xs ++ [x]) = minL xs ++ [32] ++ Lib.itoa x := by
  unfold minL
  rw [List.map_append, List.map_cons, List.map_nil, join_last _ _ _ (by simpa using h)]
theorem minL_one (x : Int) : minL [x] = Lib.itoa x := by simp [minL, Lib.join]
theorem told_minLs (xs : List Int) (h : ∀ x ∈ xs, -1000000000000000000 < x ∧ x < 1000000000000000000) : told (minL xs) = some xs := by
  by_cases hx : xs = []
  · subst hx; rfl
  · have hp : pieces 32 (minL xs) = xs.map Lib.itoa := by
      unfold minL
      exact pieces_join 32 _ (by simpa using hx) (by
        intro p hp
        obtain ⟨x, -, rfl⟩ := List.mem_map.1 hp
        exact itoa_free x)
    have hne : minL xs ≠ [] := by
      intro e
      cases xs with
      | nil => exact hx rfl
      | cons x r =>
        have hi : Lib.itoa x ≠ [] := by
          unfold Lib.itoa
          split
          · simp
          · intro k
            have := (dec_head x.toNat).1
            rw [k] at this; simp at this
        cases r with
        | nil => rw [minL_one] at e; exact hi e
        | cons y t =>
          unfold minL at e
          rw [List.map_cons, List.map_cons, join_cons2] at e
          simp at e
    rw [told, if_neg hne, hp]
    refine jall_some _ _ ?_
    rw [List.map_map]
    refine List.map_congr_left fun x hx => ?_
    exact jnum_itoa x (h x hx).1 (h x hx).2
end Go.Proofs.YtdpaiaeaamokeaaDoor.Job

namespace Go.Proofs.YtdpaiaeaamokeaaDoor.Job
open Go.RowKit Go Go.Proofs.YtdpaiaeaamokeaaDoor.Cron

theorem ext_tail (s : ByteArray) : (s.extract 1 s.size).data.toList = s.data.toList.drop 1 := by
  rw [Lib.extract_data, List.take_of_length_le]
  rw [List.length_drop, Array.length_toList]; exact Nat.le_refl _
theorem list_at (s : ByteArray) (h : 0 < s.size) : s.data.toList = s[0] :: s.data.toList.drop 1 := by
  have := List.drop_eq_getElem_cons (l := s.data.toList) (i := 0) (by rw [Array.length_toList]; exact h)
  rw [List.drop_zero] at this
  exact this

set_option maxHeartbeats 2000000 in
set_option maxRecDepth 100000 in
theorem rnumber_in (s D : ByteArray) (neg : Bool) (w : World) (hpos : 0 < s.size) (hs : s.size ≤ 9223372036854775807) (hDs : D.size ≤ s.size)
    (hc : (neg = true ∧ ((s[0].toNat : Int) == 45) = true ∧ s.extract 1 s.size = D) ∨ (neg = false ∧ ((s[0].toNat : Int) == 45) = false ∧ D = s)) :
    Calls Tryd.prog 50 #[.string s] w fun e w' => NumPost (JN D.data.toList neg) e ∧ w = w' := by
  have hlen : D.data.toList.length = D.size := by rw [Array.length_toList]; rfl
  have hposi : (0 : Int) < (s.size : Int) := by omega
  have s1 : (1 : Int) ≤ (s.size : Int) := by omega
  by_cases hz : D.size = 0
  · have hD : D.data.toList = [] := List.eq_nil_of_length_eq_zero (by omega)
    have HP : Hid (JN D.data.toList neg = none) := by show _ = _; rw [hD, JN_empty]
    have c1 : (D.size : Int) < 1 := by omega
    rcases hc with ⟨rfl, q, hE⟩ | ⟨rfl, q, rfl⟩
    · clear hD hz hlen
      go_enter Tryd.func50, Tryd.ntmps50
      go_wp2
      go_ret2
      exact ⟨num_none HP.out, rfl⟩
    · omega
  have c1 : ¬ (D.size : Int) < 1 := by omega
  by_cases hz18 : 18 < D.size
  · have HP : Hid (JN D.data.toList neg = none) := by show _ = _; rw [JN_long _ _ (by omega)]
    have c2 : (18 : Int) < (D.size : Int) := by omega
    clear hlen hz
    rcases hc with ⟨rfl, q, hE⟩ | ⟨rfl, q, rfl⟩
    all_goals (
      go_enter Tryd.func50, Tryd.ntmps50
      go_wp2
      go_ret2
      exact ⟨num_none HP.out, rfl⟩)
  have c2 : ¬ (18 : Int) < (D.size : Int) := by omega
  have hix : (0 : Int) < (D.size : Int) := by omega
  have hix2 : 0 < D.size := by omega
  have hhead : D.data.toList.head? = some D[0] := by
    rw [List.head?_eq_getElem?, List.getElem?_eq_getElem (by omega)]
    exact congrArg some (list_get D 0 (by omega))
  by_cases hnt : D[0].toNat = 48 ∧ (1 < D.size ∨ neg = true)
  · obtain ⟨g1, g2⟩ := hnt
    have HP : Hid (JN D.data.toList neg = none) := by
      show _ = _
      refine JN_nought _ _ (by rw [hhead]; congr 1; exact UInt8.toNat.inj (by simpa using g1)) ?_
      rcases g2 with g2 | g2
      · right; intro e; have := congrArg List.length e; rw [hlen] at this; simp at this; omega
      · exact .inl g2
    have e1 : ((D[0].toNat : Int) == 48) = true := by simp only [beq_iff_eq]; omega
    clear hlen hz hhead
    by_cases c3 : 1 < D.size
    · have c4 : (1 : Int) < (D.size : Int) := by omega
      clear g1 g2
      rcases hc with ⟨rfl, q, hE⟩ | ⟨rfl, q, rfl⟩
      all_goals (
        go_enter Tryd.func50, Tryd.ntmps50
        go_wp2
        go_ret2
        exact ⟨num_none HP.out, rfl⟩)
    · have c4 : ¬ (1 : Int) < (D.size : Int) := by omega
      rcases hc with ⟨rfl, q, hE⟩ | ⟨rfl, q, rfl⟩
      · clear g1 g2
        go_enter Tryd.func50, Tryd.ntmps50
        go_wp2
        go_ret2
        exact ⟨num_none HP.out, rfl⟩
      · rcases g2 with g2 | g2
        · exact absurd g2 c3
        · cases g2
  have H3 : Hid (D.data.toList.head? = some 48 → neg = false ∧ D.data.toList = [48]) := by
    intro hh
    rw [hhead] at hh
    have h48 : D[0].toNat = 48 := by have := Option.some.inj hh; rw [this]; rfl
    have hn1 : ¬ 1 < D.size := fun k => hnt ⟨h48, .inl k⟩
    refine ⟨by cases neg; rfl; exact absurd ⟨h48, .inr rfl⟩ hnt, ?_⟩
    have hl1 : D.data.toList.length = 1 := by omega
    match hD : D.data.toList, hl1 with
    | [x], _ =>
      rw [hD] at hhead
      simp at hhead
      rw [hhead]; congr 1; exact UInt8.toNat.inj (by simpa using h48)
  have HGD : Hid (D.data.toList.all isDig = true → JN D.data.toList neg = some (if neg then -(dval D.data.toList : Int) else dval D.data.toList)) := fun h1 => JN_good _ _ h1 (by omega) (by omega) H3.out
  have hsel : ((D[0].toNat : Int) == 48) = false ∨ (((D[0].toNat : Int) == 48) = true ∧ (¬ (1 : Int) < (D.size : Int)) ∧ neg = false) := by
    by_cases h48 : D[0].toNat = 48
    · right
      refine ⟨by simp only [beq_iff_eq]; omega, ?_, ?_⟩
      · intro k; exact hnt ⟨h48, .inl (by omega)⟩
      · cases neg; rfl; exact absurd ⟨h48, .inr rfl⟩ hnt
    · left; simp only [beq_eq_false_iff_ne]; omega
  clear hnt hhead hz hz18 H3
  have hcs : (((D[0].toNat : Int) == 48) = false ∧ neg = true ∧ ((s[0].toNat : Int) == 45) = true ∧ s.extract 1 s.size = D) ∨ (((D[0].toNat : Int) == 48) = false ∧ neg = false ∧ ((s[0].toNat : Int) == 45) = false ∧ D = s) ∨ ((((D[0].toNat : Int) == 48) = true ∧ (¬ (1 : Int) < (D.size : Int))) ∧ neg = false ∧ ((s[0].toNat : Int) == 45) = false ∧ D = s) := by
    rcases hsel with h | ⟨h, h2, h3⟩
    · rcases hc with k | k
      · exact .inl ⟨h, k⟩
      · exact .inr (.inl ⟨h, k⟩)
    · rcases hc with k | k
      · rw [h3] at k; exact absurd k.1 (by simp)
      · exact .inr (.inr ⟨⟨h, h2⟩, k⟩)
  clear hsel hc
  rcases hcs with ⟨e1, rfl, q, hE⟩ | ⟨e1, rfl, q, rfl⟩ | ⟨⟨e1, e2⟩, rfl, q, rfl⟩
  all_goals (
    go_enter Tryd.func50, Tryd.ntmps50
    go_wp2
    go_loopg [5, 6] D.size (fun gk t iv wr => ∃ k : Nat, k ≤ D.size ∧ t = .int .i64 (dval (D.data.toList.take k)) ∧ iv = .int .i64 k ∧ Hid ((D.data.toList.take k).all isDig = true) ∧ gk = D.size - k ∧ wr = w)
    case atStart => exact ⟨0, by omega, rfl, rfl, rfl, rfl, rfl⟩
    case round =>
      obtain ⟨k, hk, rfl, rfl, HA, hgk, rfl⟩ := hrel
      have HG := Lib.hid hgk
      clear hgk
      have hd := dval_lt _ HA.out
      have hl : (D.data.toList.take k).length = k := by rw [List.length_take]; omega
      rw [hl] at hd
      by_cases hlt : k < D.size
      · have hd17 : dval (D.data.toList.take k) < 100000000000000000 := by
          have : 10 ^ k ≤ 10 ^ 17 := Nat.pow_le_pow_right (by omega) (by omega)
          omega
        have hlti : (k : Int) < (D.size : Int) := by omega
        clear hd hl
        by_cases hdig : isDig D[k] = true
        · have hq := (isDig_iff _).1 hdig
          have hsn : Hid (dval (D.data.toList.take (k + 1)) = 10 * dval (D.data.toList.take k) + (D[k].toNat - 48)) := by rw [take_snoc D k hlt]; exact dval_snoc _ _
          have hal : Hid ((D.data.toList.take (k + 1)).all isDig = true) := by
            show _ = _
            rw [take_snoc D k hlt, List.all_append, HA.out]; simpa using hdig
          clear hdig
          generalize dval (D.data.toList.take k) = n at *
          have hc0 : 48 ≤ (D[k].toNat : Int) := by omega
          have hc1 : (D[k].toNat : Int) ≤ 57 := by omega
          have hc2 : ¬ (D[k].toNat : Int) < 48 := by omega
          have hc3 : ¬ 57 < (D[k].toNat : Int) := by omega
          go_wp2
          go_roundg (D.size - (k + 1))
          case measure => have := HG.out; omega
          case rel => exact ⟨k + 1, by omega, by rw [hsn.out]; congr 1; omega, rfl, hal, rfl, rfl⟩
        · have hb : isDig D[k] = false := by simpa using hdig
          have HP : Hid (∀ neg, JN D.data.toList neg = none) := fun neg => JN_bad _ _ D[k] (by rw [← list_get D k hlt]; exact List.getElem_mem _) hb
          have hq : (D[k]).toNat < 48 ∨ 57 < (D[k]).toNat := by
            have := isDig_iff D[k]; rw [hb] at this; simp at this; omega
          clear hb hdig
          rcases hq with hq | hq
          · have hc0 : (D[k].toNat : Int) < 48 := by omega
            go_wp2
            go_ret2
            exact ⟨num_none (HP.out _), rfl⟩
          · have hc0 : ¬ (D[k].toNat : Int) < 48 := by omega
            have hc1 : (57 : Int) < (D[k].toNat : Int) := by omega
            go_wp2
            go_ret2
            exact ⟨num_none (HP.out _), rfl⟩
      · have e : D.data.toList.take k = D.data.toList := take_all D k (by omega)
        have hlti : ¬ (k : Int) < (D.size : Int) := by omega
        rw [e] at hd ⊢
        have HP := Lib.hid (HGD.out (by have h1 := HA.out; rw [e] at h1; exact h1))
        have hd18 : dval D.data.toList < 1000000000000000000 := by
          have : 10 ^ k ≤ 10 ^ 18 := Nat.pow_le_pow_right (by omega) (by omega)
          omega
        clear hd hl e
        generalize dval D.data.toList = n at *
        go_wp2
        go_ret2
        exact ⟨num_some HP.out, rfl⟩)

theorem rnumber_any (s : ByteArray) (w : World) (hs : s.size ≤ 9223372036854775807) :
    Calls Tryd.prog 50 #[.string s] w fun e w' => NumPost (jnum s.data.toList) e ∧ w = w' := by
  by_cases hz : s.size = 0
  · have hD : s.data.toList = [] := List.eq_nil_of_length_eq_zero (by rw [Array.length_toList]; exact hz)
    have HP : Hid (jnum s.data.toList = none) := by show _ = _; rw [hD]; rfl
    have h0 : ¬ (0 : Int) < (s.size : Int) := by omega
    have h1 : (s.size : Int) < 1 := by omega
    clear hD
    go_enter Tryd.func50, Tryd.ntmps50
    go_wp2
    go_ret2
    exact ⟨num_none HP.out, rfl⟩
  have hpos : 0 < s.size := by omega
  by_cases h : s[0].toNat = 45
  · have := rnumber_in s (s.extract 1 s.size) true w hpos hs (by simp) (.inl ⟨rfl, by simp only [beq_iff_eq]; omega, rfl⟩)
    rw [ext_tail, ← jnum_neg, ← show s[0] = 45 from UInt8.toNat.inj (by simpa using h), ← list_at s hpos] at this
    exact this
  · have := rnumber_in s s false w hpos hs (Nat.le_refl _) (.inr ⟨rfl, by simp only [beq_eq_false_iff_ne]; omega, rfl⟩)
    rw [← jnum_pos] at this
    · exact this
    · rw [list_at s hpos]
      simp only [List.head?_cons, ne_eq, Option.some.injEq]
      intro k; exact h (by rw [k]; rfl)
end Go.Proofs.YtdpaiaeaamokeaaDoor.Job

namespace Go.Proofs.YtdpaiaeaamokeaaDoor.Job
open Go.RowKit Go Go.Proofs.YtdpaiaeaamokeaaDoor.Cron

theorem ext_snoc (s : ByteArray) (a k : Nat) (h : a ≤ k) (hk : k < s.size) : (s.extract a k).data.toList ++ [s[k]] = (s.extract a (k + 1)).data.toList := (ext_more s a k h hk).symm
theorem ext_none (s : ByteArray) (k : Nat) : (s.extract k k).data.toList = [] := by rw [Lib.extract_data, Nat.sub_self]; rfl
theorem one_new (W : World) (v : Value) (t : TypeId) : ∀ j u, [v][j]? = some u → (W.alloc (.cells #[v] t)).cell? ((⟨W.heap.size, 0, none⟩ : Addr).add j) = some u := by
  intro j u hj
  match j, hj with
  | 0, hj =>
    simp at hj; subst hj
    simp [Addr.add]
theorem one_str (S : ByteArray) : ∀ u ∈ [Value.string S], u.oneCell' = true := by intro u hu; simp at hu; subst hu; rfl
/-- What split answers: a row of the call's own. -/
def SplitPost (B m : Nat) (s : ByteArray) (x : Ending) (w' : World) : Prop :=
  ∃ (v : Value) (bs : List ByteArray), x = .returned v ∧ w'.ownsRow B 9 1 v bs.length (bs.map Value.string) ∧ bs.map (·.data.toList) = sp m [] s.data.toList ∧ bs.length ≤ s.size + 1 ∧ ∀ b ∈ bs, b.size ≤ s.size

set_option maxHeartbeats 2000000 in
set_option maxRecDepth 100000 in
theorem rsplit_any (s : ByteArray) (n : Int) (m : Nat) (w : World) (hs : s.size ≤ 1000000) (hn : n = m + 1) (hm : m ≤ 1000000) :
    Calls Tryd.prog 49 #[.string s, .int .i64 n] w fun e w' => SplitPost w.heap.size m s e w' ∧ Below w.heap.size w w' := by
  obtain ⟨i0, hi0, hz0, hz1, hz2⟩ := info_parts Tryd.infoStr
  subst hn
  have hsl : s.data.toList.length = s.size := by rw [Array.length_toList]; rfl
  have s0 : ((s.size : Int)).toNat = s.size := by omega
  go_enter Tryd.func49, Tryd.ntmps49
  go_wp2
  go_loopg [5, 6, 7] s.size (fun gk v fv iv wr => ∃ (bs : List ByteArray) (a i : Nat), fv = .int .i64 a ∧ iv = .int .i64 i ∧ a ≤ i ∧ i ≤ s.size ∧ bs.length ≤ i ∧ bs.length ≤ m ∧ wr.ownsRow w.heap.size 9 1 v bs.length (bs.map Value.string) ∧ Below w.heap.size w wr ∧
    Hid (bs.map (·.data.toList) ++ sp (m - bs.length) (s.extract a i).data.toList (s.data.toList.drop i) = sp m [] s.data.toList) ∧ Hid (∀ b ∈ bs, b.size ≤ s.size) ∧ gk = s.size - i)
  case atStart => exact ⟨[], 0, 0, rfl, rfl, by omega, by omega, by simp, by simp, World.ownsRow_nil _ _ _ _, Below.refl _ _, by show _ = _; rw [ext_none]; simp, Lib.hid (fun b hb => by cases hb), rfl⟩
  case round =>
    obtain ⟨bs, a, i, rfl, rfl, hai, hi, hbi, hbm, hown, hbel, HF, HA, hgk⟩ := hrel
    have HG := Lib.hid hgk
    clear hgk
    obtain ⟨ao5, cap5, rfl⟩ : ∃ ao cap, u5 = .slice ao bs.length cap := by
      rcases hown.2 with ⟨h, h0⟩ | ⟨g, cap, cur, h, -⟩
      · exact ⟨none, 0, by rw [h, h0]⟩
      · exact ⟨_, cap, h⟩
    by_cases hgo : i < s.size ∧ bs.length < m
    · obtain ⟨hlt, hbm2⟩ := hgo
      have h1 : (i : Int) < (s.size : Int) := by omega
      have h2 : (bs.length : Int) < (m : Int) := by omega
      have h0 : (0 : Int) < (m : Int) := by omega
      have HD := Lib.hid (drop_one s i hlt)
      by_cases hc : s[i].toNat = 32
      · have e1 : ((s[i].toNat : Int) == 32) = true := by simp only [beq_iff_eq]; omega
        have HS : Hid ((bs ++ [s.extract a i]).map (·.data.toList) ++ sp (m - (bs.length + 1)) (s.extract (i + 1) (i + 1)).data.toList (s.data.toList.drop (i + 1)) = sp m [] s.data.toList) := by
          show _ = _
          rw [← HF.out, HD.out, show s[i] = 32 from UInt8.toNat.inj (by simpa using hc), sp_blank _ _ _ (by omega), ext_none, List.map_append, List.append_assoc, Nat.sub_sub]; rfl
        have HZ : Hid ((s.extract a i).size ≤ s.size) := by show _ ≤ _; simp; omega
        have HO := Lib.hid hown
        have k1 : (a : Int) ≤ (i : Int) := by omega
        have k2 : (i : Int) ≤ (s.size : Int) := by omega
        clear hc hown
        all_goals (
          skip
          go_wp2_with (at_builtin; refine wpList_append_lies _ rfl _ _ 85 rfl w.heap.size 9 i0 (.string ⟨#[]⟩) 1 16 Tryd.underlying85 hi0 hz0 hz1 hz2 rfl (by decide) _ _ _ rfl (HO.out.alloc _) ⟨wr.heap.size, 0, none⟩ 1 1 [.string (s.extract a i)] rfl rfl ?c1 ?c2 (by decide) ?c3 ?c4 ?c5 _ rfl ?_)
          case c1 =>
            intro j u hj
            match j, hj with
            | 0, hj => simp at hj; subst hj; simp [Addr.add]
          case c2 => intro u hu; simp at hu; subst hu; rfl
          case c3 => unfold maxLen; omega
          case c4 => omega
          case c5 => have := hbel.size; simp; omega
          · intro g cap w1 hown3 hgrow hat hgl
            obtain ⟨hb3, -⟩ := own_grown (Nat.le_refl _) HO.out hbel hgrow
            clear hgrow hat hgl HO hbel
            go_wp2
            go_roundg (s.size - (i + 1))
            case measure => have := HG.out; omega
            case rel =>
              refine ⟨bs ++ [s.extract a i], i + 1, i + 1, rfl, rfl, by omega, by omega, by simp; omega, by simp; omega, ?_, hb3, ?_, ?_, rfl⟩
              · first
                  | (rw [List.length_append, List.map_append]; exact hown3)
                  | simpa using hown3
              · rw [List.length_append]; exact HS
              · intro b hb
                rcases List.mem_append.1 hb with hb | hb
                · exact HA.out b hb
                · simp at hb; subst hb; exact HZ.out)
      · have e1 : ((s[i].toNat : Int) == 32) = false := by simp only [beq_eq_false_iff_ne]; omega
        have HS : Hid (bs.map (·.data.toList) ++ sp (m - bs.length) (s.extract a (i + 1)).data.toList (s.data.toList.drop (i + 1)) = sp m [] s.data.toList) := by
          show _ = _
          rw [← HF.out, HD.out, sp_other _ _ _ _ (by omega) (fun k => hc (by rw [k]; rfl)), ext_snoc s a i hai hlt]
        have HO := Lib.hid hown
        clear hc hown
        all_goals (
          skip
          go_wp2
          go_roundg (s.size - (i + 1))
          case measure => have := HG.out; omega
          case rel => exact ⟨bs, a, i + 1, rfl, rfl, by omega, by omega, by omega, by omega, HO.out, hbel, HS, HA, rfl⟩)
    · have HS : Hid ((bs ++ [s.extract a s.size]).map (·.data.toList) = sp m [] s.data.toList) := by
        show _ = _
        rw [← HF.out, List.map_append]
        congr 1
        have he : (s.extract a s.size).data.toList = (s.extract a i).data.toList ++ s.data.toList.drop i := by
          rw [Lib.extract_data, Lib.extract_data]
          have : s.data.toList.drop i = (s.data.toList.drop a).drop (i - a) := by rw [List.drop_drop, show a + (i - a) = i by omega]
          rw [this, List.take_append_drop, List.take_of_length_le]
          rw [List.length_drop, hsl]; exact Nat.le_refl _
        show [(s.extract a s.size).data.toList] = _
        rw [he]
        by_cases c : i < s.size
        · rw [show m - bs.length = 0 by omega, sp_zero]
        · rw [List.drop_of_length_le (by omega), sp_nil, List.append_nil]
      have HZ : Hid ((s.extract a s.size).size ≤ s.size) := by show _ ≤ _; simp
      have HO := Lib.hid hown
      have k1 : (a : Int) ≤ (s.size : Int) := by omega
      have hcs : ¬ (i : Int) < (s.size : Int) ∨ ((i : Int) < (s.size : Int) ∧ ¬ (bs.length : Int) < (m : Int)) := by omega
      clear hown hgo
      rcases hcs with h1 | ⟨h1, h2⟩
      all_goals (
        first
          | have h3 : ¬ (0 : Int) < (m : Int) := by omega
          | skip
        go_wp2_with (at_builtin; refine wpList_append_lies _ rfl _ _ 85 rfl w.heap.size 9 i0 (.string ⟨#[]⟩) 1 16 Tryd.underlying85 hi0 hz0 hz1 hz2 rfl (by decide) _ _ _ rfl (HO.out.alloc _) ⟨wr.heap.size, 0, none⟩ 1 1 [.string (s.extract a s.size)] rfl rfl (one_new _ _ _) (one_str _) (by decide) (by unfold maxLen; omega) (by omega) (by have := hbel.size; simp; omega) _ rfl ?_)
        · intro g cap w1 hown3 hgrow hat hgl
          obtain ⟨hb3, -⟩ := own_grown (Nat.le_refl _) HO.out hbel hgrow
          have HO3 := Lib.hid hown3
          clear hgrow hat hgl HO hbel hown3
          go_wp2
          go_ret
          refine ⟨⟨_, bs ++ [s.extract a s.size], rfl, ?_, HS.out, by simp; omega, ?_⟩, hb3⟩
          · first
              | (rw [List.length_append, List.map_append]; exact HO3.out)
              | simpa using HO3.out
          · intro b hb
            rcases List.mem_append.1 hb with hb | hb
            · exact HA.out b hb
            · simp at hb; subst hb; exact HZ.out)
end Go.Proofs.YtdpaiaeaamokeaaDoor.Job

namespace Go.Proofs.YtdpaiaeaamokeaaDoor.Job
open Go.RowKit Go Go.Proofs.YtdpaiaeaamokeaaDoor.Cron

set_option maxHeartbeats 2000000 in
set_option maxRecDepth 100000 in
theorem rtold17_any (s : ByteArray) (w : World) (hs : s.size ≤ 900000) :
    Calls Tryd.prog 12 #[.string s] w fun e w' => ToldPost w.heap.size (told s.data.toList) e w' ∧ Below w.heap.size w w' := by
  obtain ⟨i0, hi0, hz0, hz1, hz2⟩ := info_parts Tryd.infoInt
  have hsl : s.data.toList.length = s.size := by rw [Array.length_toList]; rfl
  by_cases hempty : s.data.toList = []
  · have HP : Hid (told s.data.toList = some []) := by show _ = _; rw [told, if_pos hempty]
    have q0 : (s.toList == []) = true := by rw [Lib.toList_data, hempty]; rfl
    clear hempty
    go_enter Tryd.func12, Tryd.ntmps12
    go_wp2
    go_ret2
    exact ⟨by rw [HP.out]; exact ⟨_, rfl, World.ownsRow_nil _ _ _ _⟩, Below.refl _ _⟩
  have HT : Hid (told s.data.toList = jall (pieces 32 s.data.toList)) := by show _ = _; rw [told, if_neg hempty]
  have q0 : (s.toList == []) = false := by rw [Lib.toList_data]; simpa using hempty
  clear hempty
  go_enter Tryd.func12, Tryd.ntmps12
  go_wp2_with fail
  go_at_call 49
  refine (rsplit_any s _ s.size _ (by omega) rfl (by omega)).mono ?_
  rintro e w1 ⟨⟨v, bs, rfl, hown1, hpc, hbl, hbz⟩, hb1⟩
  rw [sp_pieces _ _ (by omega)] at hpc
  have HC := Lib.hid hpc
  have HZ := Lib.hid hbz
  have hne : 0 < bs.length := by
    cases bs with
    | nil => exact absurd hpc.symm (Cron.pieces_ne 32 _)
    | cons _ _ => simp
  obtain ⟨gb, cap0, rfl, hgB, hgl⟩ := hown1.form hne
  have hcells : ∀ i (h : i < bs.length), w1.cell? ⟨gb, i, none⟩ = some (.string bs[i]) := by
    intro i h
    rw [hown1.cellAt i (by omega)]; simp [h]
  have HCL := Lib.hid hcells
  clear hpc hbz hown1 hcells
  go_wp2
  go_loopg [5, 6] bs.length (fun gk v iv wr => ∃ (k : Nat) (ns : List Int), iv = .int .i64 k ∧ k ≤ bs.length ∧ ns.length = k ∧ wr.ownsRow w1.heap.size 3 1 v ns.length (ns.map (Value.int .i64)) ∧ Below w1.heap.size w1 wr ∧
    Hid ((bs.take k).map (fun b => jnum b.data.toList) = ns.map some) ∧ gk = bs.length - k)
  case atStart => exact ⟨0, [], rfl, by omega, rfl, World.ownsRow_nil _ _ _ _, Below.refl _ _, rfl, rfl⟩
  case round =>
    obtain ⟨k, ns, rfl, hk, hnl, hown, hb, HN, hgk⟩ := hrel
    have HG := Lib.hid hgk
    have HNL := Lib.hid hnl
    have hnz : ns.length ≤ 1000001 := by omega
    clear hgk hnl
    have hbel : Below w.heap.size w wr := bthen hb1 hb
    by_cases hlt : k < bs.length
    · have hlti : (k : Int) < (bs.length : Int) := by omega
      have hcell : wr.cell? ⟨gb, k, none⟩ = some (.string bs[k]) := (keep0 hb hgl k).trans (HCL.out k hlt)
      have hp : bs[k].data.toList ∈ pieces 32 s.data.toList := by rw [← HC.out]; exact List.mem_map.2 ⟨bs[k], List.getElem_mem _, rfl⟩
      have hsz : bs[k].size ≤ s.size := HZ.out _ (List.getElem_mem _)
      have HPI := Lib.hid hp
      have HTK : Hid ((bs.take (k + 1)).map (fun b => jnum b.data.toList) = (bs.take k).map (fun b => jnum b.data.toList) ++ [jnum bs[k].data.toList]) := by
        show _ = _
        rw [List.take_succ_eq_append_getElem hlt, List.map_append]; rfl
      clear hp
      go_wp2_with fail
      go_at_call 50
      refine (rnumber_any bs[k] _ (by omega)).mono ?_
      obtain ⟨o, ho⟩ : ∃ o, jnum bs[k].data.toList = o := ⟨_, rfl⟩
      rw [ho]
      rw [ho] at HTK
      have HO := Lib.hid ho
      have HNR : Hid (∀ n, o = some n → -1000000000000000000 < n ∧ n < 1000000000000000000) := fun n hn => (itoa_jnum _ n (ho.trans hn)).2
      clear ho
      rintro e w3 ⟨hx, rfl⟩
      unfold NumPost at hx
      clear hcell
      cases o with
      | none =>
        have HF : Hid (told s.data.toList = none) := by show _ = _; rw [HT.out]; exact jall_none _ _ HPI.out HO.out
        simp only [Option.getD_none, Option.isSome_none] at hx
        subst hx
        clear hown
        go_wp2
        go_ret2
        exact ⟨by rw [HF.out]; exact rfl, hbel⟩
      | some n =>
        have hnr := HNR.out n rfl
        simp only [Option.getD_some, Option.isSome_some] at hx
        subst hx
        have HW := Lib.hid hown
        clear hown
        go_wp2_with (at_builtin; refine wpList_append_lies _ rfl _ _ 22 rfl w1.heap.size 3 i0 (.int .i64 0) 1 8 Tryd.underlying22 hi0 hz0 hz1 hz2 rfl (by decide) _ _ _ rfl (HW.out.alloc _) ⟨wr.heap.size, 0, none⟩ 1 1 [.int .i64 n] rfl rfl ?c1 ?c2 (by decide) ?c3 ?c4 ?c5 _ rfl ?_)
        case c1 =>
          intro j u hj
          match j, hj with
          | 0, hj => simp at hj; subst hj; simp [Addr.add]
        case c2 => intro u hu; simp at hu; subst hu; rfl
        case c3 => unfold maxLen; omega
        case c4 => omega
        case c5 => have := hb.size; simp; omega
        · intro g cap w6 hown6 hgrow hat hgl
          obtain ⟨hb6, -⟩ := own_grown (w := w1) (Nat.le_refl _) HW.out hb hgrow
          clear hgrow hat hgl HW hb hbel
          go_wp2
          go_roundg (bs.length - (k + 1))
          case measure => have := HG.out; omega
          case rel =>
            refine ⟨k + 1, ns ++ [n], rfl, by omega, by rw [List.length_append, HNL.out]; rfl, ?_, hb6, ?_, rfl⟩
            · rw [List.length_append, List.map_append]; exact hown6
            · show _ = _
              rw [HTK.out, HN.out, List.map_append]; rfl
    · have hlti : ¬ (k : Int) < (bs.length : Int) := by omega
      have HF : Hid (told s.data.toList = some ns) := by
        show _ = _
        have h1 := HN.out
        rw [List.take_of_length_le (by omega)] at h1
        rw [HT.out]
        refine jall_some _ _ ?_
        rw [← HC.out, List.map_map]
        exact h1
      have HW := Lib.hid (own_le hown hb1.size)
      clear hown hb
      go_wp2
      go_ret2
      exact ⟨by rw [HF.out]; exact ⟨_, rfl, HW.out⟩, hbel⟩

/-- So much of a row's text. -/
theorem minL_take (xs : List Int) (k : Nat) (h : k < xs.length) (h0 : 0 < k) : minL (xs.take (k + 1)) = minL (xs.take k) ++ [32] ++ Lib.itoa (xs.getD k 0) := by
  rw [take_snocI xs k h, minL_snoc]
  intro e
  have := congrArg List.length e
  rw [List.length_take, List.length_nil] at this
  omega
set_option maxHeartbeats 2000000 in
set_option maxRecDepth 100000 in
theorem rminutes_any (ao : Option Addr) (cap : Nat) (xs : List Int) (w : World) (h : SlOk w ao xs) (hn : xs.length ≤ 1000) :
    Calls Tryd.prog 14 #[.slice ao xs.length cap] w fun e w' => e = .returned (.string (bytesOf (minL xs))) ∧ Below w.heap.size w w' := by
  have HS : Hid (SlOk w ao xs) := h
  clear h
  go_enter Tryd.func14, Tryd.ntmps14
  go_wp2
  go_loopg [3, 4] xs.length (fun gk v iv wr => ∃ (k : Nat) (T : ByteArray), iv = .int .i64 k ∧ v = .string T ∧ k ≤ xs.length ∧ T.size ≤ 30 * k ∧ Below w.heap.size w wr ∧ Hid (T = bytesOf (minL (xs.take k))) ∧ gk = xs.length - k)
  case atStart => exact ⟨0, ⟨#[]⟩, rfl, rfl, by omega, by show 0 ≤ _; omega, Below.refl _ _, rfl, rfl⟩
  case round =>
    obtain ⟨k, T, rfl, rfl, hk, hTz, hbel, HT, hgk⟩ := hrel
    have HG := Lib.hid hgk
    clear hgk
    by_cases hlt : k < xs.length
    · have hlti : (k : Int) < (xs.length : Int) := by omega
      obtain ⟨b, o, rfl, hbb, hcell, hx1, hx2⟩ := HS.out k hlt
      obtain ⟨x, hx⟩ : ∃ x, xs.getD k 0 = x := ⟨_, rfl⟩
      have HTK : Hid (minL (xs.take (k + 1)) = (if k = 0 then [] else minL (xs.take k) ++ [32]) ++ Lib.itoa x) := by
        show _ = _
        by_cases h0 : k = 0
        · rw [if_pos h0, take_snocI xs k hlt, h0, ← hx, h0]
          show minL [xs.getD 0 0] = _
          rw [minL_one]; rfl
        · rw [if_neg h0, minL_take xs k hlt (by omega), hx]
      rw [hx] at hcell hx1 hx2
      have hcw : wr.cell? ⟨b, o + k, none⟩ = some (.int .i64 x) := (keep0 hbel hbb (o + k)).trans hcell
      clear hx
      have HI : (Lib.itoa x).length ≤ 21 := Lib.itoa_length_le x hx1 hx2
      obtain ⟨A, hA⟩ : ∃ A, bytesOf (Lib.itoa x) = A := ⟨_, rfl⟩
      have hAz : A.size ≤ 21 := by rw [← hA, bytes_size]; exact HI
      have HAA := Lib.hid hA
      clear HI hA
      by_cases h0 : 0 < k
      · have h0i : (0 : Int) < (k : Int) := by omega
        have q1 : ¬ 9223372036854775807 < T.size + 1 := by omega
        have q2 : ¬ 9223372036854775807 < T.size + 1 + A.size := by omega
        have HN : Hid (T ++ ⟨#[32]⟩ ++ A = bytesOf (minL (xs.take (k + 1)))) := by
          show _ = _
          rw [HTK.out, if_neg (by omega), HT.out, ← HAA.out]
          apply ByteArray.ext; simp [bytesOf]
        go_wp2_with fail
        go_at_call 53
        refine (dec17_any x _ (by omega) (by omega)).mono ?_
        rw [HAA.out]
        rintro y w5 ⟨rfl, hb5⟩
        have hbel5 := bthen hbel hb5
        clear hb5 hbel hcw hcell
        go_wp2
        go_roundg (xs.length - (k + 1))
        case measure => have := HG.out; omega
        case rel => exact ⟨k + 1, _, rfl, rfl, by omega, by rw [ByteArray.size_append, ByteArray.size_append]; show T.size + 1 + A.size ≤ _; omega, hbel5, HN, rfl⟩
      · have h0i : ¬ (0 : Int) < (k : Int) := by omega
        have q2 : ¬ 9223372036854775807 < T.size + A.size := by omega
        have HN : Hid (T ++ A = bytesOf (minL (xs.take (k + 1)))) := by
          show _ = _
          rw [HTK.out, if_pos (by omega), HT.out, ← HAA.out, show k = 0 by omega]
          apply ByteArray.ext; simp [bytesOf, minL, Lib.join]
        go_wp2_with fail
        go_at_call 53
        refine (dec17_any x _ (by omega) (by omega)).mono ?_
        rw [HAA.out]
        rintro y w5 ⟨rfl, hb5⟩
        have hbel5 := bthen hbel hb5
        clear hb5 hbel hcw hcell
        go_wp2
        go_roundg (xs.length - (k + 1))
        case measure => have := HG.out; omega
        case rel => exact ⟨k + 1, _, rfl, rfl, by omega, by rw [ByteArray.size_append]; omega, hbel5, HN, rfl⟩
    · have hlti : ¬ (k : Int) < (xs.length : Int) := by omega
      have HF : Hid (T = bytesOf (minL xs)) := by
        show _ = _
        rw [HT.out, List.take_of_length_le (by omega)]
      go_wp2
      go_ret
      exact ⟨by rw [HF.out]; rfl, hbel⟩
end Go.Proofs.YtdpaiaeaamokeaaDoor.Job

