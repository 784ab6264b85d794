/- The contract of job.Told. -/
import Derived.Test.YtggcnbdpobbkaaaDoorJobNum
import Derived.Test.YtggcnbdpobbkaaaDoorJobMin
namespace Go.Proofs.YtggcnbdpobbkaaaDoor.Job
open Go.RowKit Go Go.Proofs.YtggcnbdpobbkaaaDoor.Cron

/-- The numbers that pieces say; none, if one says none. -/
def jall : List (List UInt8) → Option (List Int)
  | [] => some []
  | p :: ps => match jnum p, jall ps with
    | some n, some ns => some (n :: ns)
    | _, _ => none
/-- What Told answers: the numbers, or none. -/
def told (l : List UInt8) : Option (List Int) := if l = [] then some [] else jall (pieces 32 l)
theorem jall_none (ps : List (List UInt8)) (p : List UInt8) (h : p ∈ ps) (hn : jnum p = none) : jall ps = none := by
  induction ps with
  | nil => cases h
  | cons q qs ih =>
    rw [jall]
    rcases List.mem_cons.1 h with rfl | h
    · rw [hn]
    · rw [ih h]; cases jnum q <;> rfl
theorem jall_some : ∀ (ps : List (List UInt8)) (ns : List Int), ps.map jnum = ns.map some → jall ps = some ns
  | [], [], _ => rfl
  | [], _ :: _, h => by simp at h
  | _ :: _, [], h => by simp at h
  | p :: ps, n :: ns, h => by
    simp only [List.map_cons, List.cons.injEq] at h
    rw [jall, h.1, jall_some ps ns h.2]
/-- The answer: a slice of the call's own. -/
def ToldPost (B : Nat) (o : Option (List Int)) (x : Ending) (w' : World) : Prop :=
  match o with
  | none => x = .returned (.tuple #[.slice none 0 0, .int .i64 11])
  | some ns => ∃ v, x = .returned (.tuple #[v, .int .i64 0]) ∧ w'.ownsRow B 3 1 v ns.length (ns.map (Value.int .i64))

set_option maxHeartbeats 2000000 in
set_option maxRecDepth 100000 in
theorem told_any (s : ByteArray) (w : World) (hm : MaxOk w) (hs : s.size ≤ 1000000) :
    Calls Tryd.prog 20 #[.string s] w fun e w' => ToldPost w.heap.size (told s.data.toList) e w' ∧ Below w.heap.size w w' := by
  obtain ⟨i0, hi0, hz0, hz1, hz2⟩ := info_parts Tryd.infoInt
  have hsl : s.data.toList.length = s.size := by rw [Array.length_toList]; rfl
  by_cases hempty : s.data.toList = []
  · have HP : Hid (told s.data.toList = some []) := by show _ = _; rw [told, if_pos hempty]
    have q0 : (s.toList == []) = true := by rw [Lib.toList_data, hempty]; rfl
    clear hempty
    go_enter Tryd.func20, Tryd.ntmps20
    go_wp2
    go_ret2
    exact ⟨by rw [HP.out]; exact ⟨_, rfl, World.ownsRow_nil _ _ _ _⟩, Below.refl _ _⟩
  have HT : Hid (told s.data.toList = jall (pieces 32 s.data.toList)) := by show _ = _; rw [told, if_neg hempty]
  have q0 : (s.toList == []) = false := by rw [Lib.toList_data]; simpa using hempty
  clear hempty
  obtain ⟨m, hm0⟩ := hm
  obtain ⟨bs, hbs⟩ : ∃ bs : List ByteArray, bs = Lib.splitB ⟨#[32]⟩ 0 (Lib.countB s ⟨#[32]⟩) s := ⟨_, rfl⟩
  have hlen : bs.length = Lib.countB s ⟨#[32]⟩ + 1 := by rw [hbs]; exact Lib.splitB_all ⟨#[32]⟩ (by decide) 0 _ s rfl
  have hpc : bs.map (·.data.toList) = pieces 32 s.data.toList := by rw [hbs]; exact splitB_one 32 s
  have hcnt : Lib.countB s ⟨#[32]⟩ ≤ s.size := Lib.countB_le ⟨#[32]⟩ (by decide) s.size s (Nat.le_refl _)
  have HB := Lib.hid hbs
  have HC := Lib.hid hpc
  have HL := Lib.hid hlen
  have hbl : bs.length ≤ 1000001 := by omega
  clear hbs hpc hlen
  go_enter Tryd.func20, Tryd.ntmps20
  go_wp2_with fail
  go_at_call 56
  refine (Tryd.strings_Split s ⟨#[32]⟩ m w (by omega) hm0 (by decide)).mono ?_
  rw [← HB.out, ← HL.out]
  rintro e w1 ⟨rfl, rfl⟩
  go_wp2
  clear hm0
  go_loopg [4, 14] bs.length (fun gk v iv wr => ∃ (k : Nat) (ns : List Int), iv = .int .i64 k ∧ k ≤ bs.length ∧ ns.length = k ∧ wr.ownsRow (w.heap.size + 1) 3 1 v ns.length (ns.map (Value.int .i64)) ∧ Below (w.alloc (.cells (List.map Value.string bs).toArray 9)).heap.size (w.alloc (.cells (List.map Value.string bs).toArray 9)) wr ∧
    Hid ((bs.take k).map (fun b => jnum b.data.toList) = ns.map some) ∧ gk = bs.length - k)
  case atStart => exact ⟨0, [], rfl, by omega, rfl, World.ownsRow_nil _ _ _ _, Below.refl _ _, rfl, rfl⟩
  case round =>
    obtain ⟨k, ns, rfl, hk, hnl, hown, hb, HN, hgk⟩ := hrel
    have HG := Lib.hid hgk
    have HNL := Lib.hid hnl
    have hnz : ns.length ≤ 1000001 := by omega
    clear hgk hnl
    have hbel : Below w.heap.size w wr := ((Below.refl w.heap.size w).alloc (Nat.le_refl _) _).trans (hb.mono (by simp))
    by_cases hlt : k < bs.length
    · have hcell : wr.cell? ⟨w.heap.size, k, none⟩ = some (.string bs[k]) := by
        rw [keepN hb k]; simp [hlt]
      have hp : bs[k].data.toList ∈ pieces 32 s.data.toList := by rw [← HC.out]; exact List.mem_map.2 ⟨bs[k], List.getElem_mem _, rfl⟩
      have hsz : bs[k].size ≤ s.size := by
        have := pieces_le 32 s.data.toList _ hp
        rw [Array.length_toList, Array.length_toList] at this
        exact this
      have HPI := Lib.hid hp
      have HTK : Hid ((bs.take (k + 1)).map (fun b => jnum b.data.toList) = (bs.take k).map (fun b => jnum b.data.toList) ++ [jnum bs[k].data.toList]) := by
        show _ = _
        rw [List.take_succ_eq_append_getElem hlt, List.map_append]; rfl
      clear hp
      go_wp2_with fail
      go_at_call 57
      refine (number_any bs[k] _ (by omega)).mono ?_
      obtain ⟨o, ho⟩ : ∃ o, jnum bs[k].data.toList = o := ⟨_, rfl⟩
      rw [ho]
      rw [ho] at HTK
      have HO := Lib.hid ho
      have HNR : Hid (∀ n, o = some n → -1000000000000000000 < n ∧ n < 1000000000000000000) := fun n hn => (itoa_jnum _ n (ho.trans hn)).2
      clear ho
      rintro e w3 ⟨hx, hb3⟩
      unfold NumPost at hx
      have hown3 := own_below hown hb3
      have hb5 := hb.trans (hb3.mono hb.size)
      have hbel3 := bthen hbel hb3
      have hz3 : w.heap.size + 1 ≤ w3.heap.size := by have := hb5.size; simp at this; omega
      clear hb3 hown hb hbel hcell
      cases o with
      | none =>
        have HF : Hid (told s.data.toList = none) := by show _ = _; rw [HT.out]; exact jall_none _ _ HPI.out HO.out
        simp only [Option.getD_none, Option.isSome_none] at hx
        subst hx
        go_wp2
        go_ret2
        exact ⟨by rw [HF.out]; exact rfl, hbel3⟩
      | some n =>
        have hnr := HNR.out n rfl
        simp only [Option.getD_some, Option.isSome_some] at hx
        subst hx
        have HW := Lib.hid hown3
        clear hown3
        go_wp2_with (at_builtin; refine wpList_append_lies _ rfl _ _ 22 rfl (w.heap.size + 1) 3 i0 (.int .i64 0) 1 8 Tryd.underlying22 hi0 hz0 hz1 hz2 rfl (by decide) _ _ _ rfl (HW.out.alloc _) ⟨w3.heap.size, 0, none⟩ 1 1 [.int .i64 n] rfl rfl ?c1 ?c2 (by decide) ?c3 ?c4 ?c5 _ rfl ?_)
        case c1 =>
          intro j u hj
          match j, hj with
          | 0, hj => simp at hj; subst hj; simp [Addr.add]
        case c2 => intro u hu; simp at hu; subst hu; rfl
        case c3 => unfold maxLen; omega
        case c4 => omega
        case c5 => simp; omega
        · intro g cap w6 hown6 hgrow hat hgl
          obtain ⟨hb6, -⟩ := own_grown (w := w.alloc (.cells (List.map Value.string bs).toArray 9)) (by simp) HW.out hb5 hgrow
          clear hgrow hat hgl HW hb5 hbel3
          go_wp2
          go_roundg (bs.length - (k + 1))
          case measure => have := HG.out; omega
          case rel =>
            refine ⟨k + 1, ns ++ [n], rfl, by omega, by rw [List.length_append, HNL.out]; rfl, ?_, hb6, ?_, rfl⟩
            · rw [List.length_append, List.map_append]; exact hown6
            · show _ = _
              rw [HTK.out, HN.out, List.map_append]; rfl
    · have HF : Hid (told s.data.toList = some ns) := by
        show _ = _
        have h1 := HN.out
        rw [List.take_of_length_le (by omega)] at h1
        rw [HT.out]
        refine jall_some _ _ ?_
        rw [← HC.out, List.map_map]
        exact h1
      have HW := Lib.hid (own_le hown (Nat.le_succ w.heap.size))
      clear hown hb
      go_wp2
      go_ret2
      exact ⟨by rw [HF.out]; exact ⟨_, rfl, HW.out⟩, hbel⟩
end Go.Proofs.YtggcnbdpobbkaaaDoor.Job
