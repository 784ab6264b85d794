/- Joined: a part of the proof of TopWatches. -/
import Derived.BigQuiet
import Derived.Lib.Bytes
import Derived.StillTailTactics
import Derived.Test.YtbheebpfbabffaaGreatVA
import Derived.Test.YtbheebpfbabffaaGreatWSincF
set_option linter.unusedSimpArgs false
set_option linter.unusedVariables false
namespace Go.Proofs.YtbheebpfbabffaaGreat.Wat
open Go.RowKit Go Go.Lib Mach Go.MapKept

def topn (n : Nat) : ByteArray := ⟨Array.replicate n 255⟩
theorem topn_size (n : Nat) : (topn n).size = n := by simp [topn, ByteArray.size]
theorem topn_succ (n : Nat) : topn n ++ ⟨#[255]⟩ = topn (n + 1) := by
  apply ByteArray.ext
  show (topn n ++ ⟨#[255]⟩).data = _
  rw [ByteArray.data_append]
  apply Array.toList_inj.1
  simp [topn, List.replicate_succ']
theorem topn_list (n : Nat) : (topn n).toList = List.replicate n 255 := by
  rw [Lib.toList_data]
  simp [topn]
theorem less_top : ∀ (n : Nat) (l : List UInt8), l.length < n → Op.bytesLess l (List.replicate n 255) = true
  | 0, l, h => absurd h (Nat.not_lt_zero _)
  | n + 1, [], _ => by simp [List.replicate_succ, Op.bytesLess]
  | n + 1, a :: l, h => by
    have ih := less_top n l (by simpa using h)
    rw [List.replicate_succ, Op.bytesLess, ih, Bool.and_true]
    by_cases ha : a < 255
    · simp [ha]
    · have : a = 255 := by
        apply UInt8.toNat_inj.1
        have h1 := a.toNat_lt
        have h2 : ¬ a.toNat < 255 := fun h => ha (UInt8.lt_iff_toNat_lt.2 h)
        have : (255 : UInt8).toNat = 255 := rfl
        omega
      simp [this]
theorem less_zero (l : List UInt8) (h : 0 < l.length) : Op.bytesLess l [0] = false := by
  cases l with
  | nil => simp at h
  | cons a l =>
    have : ¬ a < 0 := fun h => by have := UInt8.lt_iff_toNat_lt.1 h; simp at this
    cases l <;> simp [Op.bytesLess, this]
theorem key_len (k : ByteArray) : k.toList.length = k.size := by rw [Lib.toList_data, Array.length_toList]; rfl
set_option maxRecDepth 100000 in
theorem top_f (w : World) : Calls Tryz.prog 11 #[] w fun e w' => e = .returned (.string (topn 101)) ∧ w = w' := by
  go_enter Tryz.func11, Tryz.ntmps11
  have h1 : (⟨#[255]⟩ : ByteArray) = topn 1 := rfl
  go_wp2
  go_loopg [1, 2] 100 (fun kx s1 s2 wq => ∃ j : Nat, s2 = .int .i64 j ∧ s1 = .string (topn (j + 1)) ∧ j ≤ 100 ∧ kx = 100 - j ∧ w = wq)
  case atStart => exact ⟨0, rfl, rfl, Nat.zero_le _, rfl, rfl⟩
  case round =>
    obtain ⟨j, rfl, rfl, hj, hkx, rfl⟩ := hrel
    clear h1
    by_cases hlt : j < 100
    · have hs := topn_size (j + 1)
      have ha := topn_succ (j + 1)
      go_wp2
      go_roundg (100 - (j + 1))
      case measure => omega
      case rel => exact ⟨j + 1, by simp, rfl, by omega, rfl, rfl⟩
    · obtain rfl : j = 100 := by omega
      go_wp2
      go_ret
      exact ⟨rfl, rfl⟩

set_option maxHeartbeats 4000000 in
set_option maxRecDepth 100000 in
theorem inside_w (wb : Nat) (hi k : ByteArray) (pl md : Value) (w : World) (hB : Blk w wb #[.string ⟨#[0]⟩, .string hi, pl, md]) (hk : 1 ≤ k.size) (hne : (hi.toList == ([] : List UInt8)) = false) (hlt : Op.bytesLess k.toList hi.toList = true) :
    Calls Tryz.prog 82 #[Ptr wb, .string k] w fun e w' => e = .returned (.bool true) ∧ w = w' := by
  have hge := fun t => binOp_string_geq_w t k ⟨#[0]⟩
  have hz : Op.bytesLess k.toList [0] = false := less_zero k.toList (by have := key_len k; omega)
  have hc := hB.cell
  cases h1 : (k.toList == ([0] : List UInt8)) with
  | true =>
    go_enter Tryz.func82, Tryz.ntmps82
    go_wp2
    go_ret
    exact ⟨rfl, rfl⟩
  | false =>
    go_enter Tryz.func82, Tryz.ntmps82
    go_wp2
    go_ret
    exact ⟨rfl, rfl⟩
end Go.Proofs.YtbheebpfbabffaaGreat.Wat

namespace Go.Proofs.YtbheebpfbabffaaGreat.Wat
open Go.RowKit Go Go.Lib Mach Go.MapKept

theorem evc_form (p : Ver) : ∃ (dl : Bool) (v : ByteArray) (a b c d : Int), evc p = [.int .i64 p.1, .bool dl, .string p.2.key, .string v, .int .i64 a, .int .i64 b, .int .i64 c, .int .i64 d] := by
  obtain ⟨r, c⟩ := p
  cases c
  · exact ⟨_, _, _, _, _, _, rfl⟩
  · exact ⟨_, _, _, _, _, _, rfl⟩
theorem rev_c (sb : Nat) (rv : Int) (w : World) (h : w.cell? ⟨sb, 0, none⟩ = some (.int .i64 rv)) : Calls Tryz.prog 13 #[Ptr sb] w fun e w' => e = .returned (.int .i64 rv) ∧ w = w' := by
  go_enter Tryz.func13, Tryz.ntmps13
  go_wp2
  go_ret
  exact ⟨rfl, rfl⟩
theorem St.rev_cell {w : World} {sb : Nat} {op : Value} {rev C : Nat} {chs : List Ver} {Ks : List Value} {S : List Nat} (h : St w sb op rev C chs Ks S) : w.cell? ⟨sb, 0, none⟩ = some (.int .i64 rev) := by
  obtain ⟨_, _, _, _, _, _, hs, _⟩ := h
  exact (hs.cell 0).trans rfl

theorem chg_closure (pw wb : Nat) (hi k v : ByteArray) (pl md : Value) (r a b c d : Int) (dl : Bool) (w : World) (h0 : w.cell? ⟨pw, 0, none⟩ = some (Ptr wb)) (hpw : pw < w.heap.size) (hB : Blk w wb #[.string ⟨#[0]⟩, .string hi, pl, md]) (hk : 1 ≤ k.size) (hne : (hi.toList == ([] : List UInt8)) = false) (hlt : Op.bytesLess k.toList hi.toList = true) :
    Calls Tryz.prog 81 (#[.agg #[.int .i64 r, .bool dl, .string k, .string v, .int .i64 a, .int .i64 b, .int .i64 c, .int .i64 d]] ++ #[Ptr pw]) w fun e w' => e = .returned (.bool false) ∧ Below w.heap.size w w' := by
  have hw1 := fun o => (alloc_old w o hpw 0).trans h0
  have hB1 := fun o => hB.alloc o
  go_enter Tryz.func81, Tryz.ntmps81
  go_wp2_with fail
  go_at_call 82
  refine (inside_w wb hi k pl md _ (hB1 _) hk hne hlt).mono ?_
  rintro e w1 ⟨rfl, rfl⟩
  go_wp2
  go_ret
  exact ⟨rfl, bmore (Below.refl _ _) _⟩
theorem eg_chg : ∀ args w, (callFunc 81 args).run Tryz.prog w = .ok (.enter 81 args) w := enters_of Tryz.func81 (by kernel_rfl) rfl

set_option maxHeartbeats 4000000 in
set_option maxRecDepth 100000 in
theorem index_f (g : Nat) (cb : Array Value) (v : Value) (l : List Ver) (base : Nat) (w : World) (eg : ∀ args w, (callFunc g args).run Tryz.prog w = .ok (.enter g args) w) (hE : Evs w base v l) (hl : l.length ≤ 1000000)
    (hf : ∀ p ∈ l, ∀ w', Below w.heap.size w w' → Calls Tryz.prog g (#[.agg (evc p).toArray] ++ cb) w' fun e w2 => e = .returned (.bool false) ∧ Below w'.heap.size w' w2) :
    Calls Tryz.prog 130 #[v, .func (.func g) #[] cb] w fun e w' => e = .returned (.int .i64 (-1)) ∧ Below w.heap.size w w' := by
  have HF : Aside _ := hf
  clear hf
  rcases own_open hE with ⟨rfl, hn0, hx0⟩ | ⟨gb, cap, rfl, -, hgl, hcap, hcell⟩
  · rw [hn0] at hl
    clear hx0 hn0 hE
    go_enter Tryz.func130, Tryz.ntmps130
    go_wp2
    refine wp_loop_rounds 1 ?_
    rw [rounds_succ]
    go_wp2
    go_ret
    exact ⟨rfl, Below.refl _ _⟩
  · have HC : Aside _ := hcell
    clear hcell hE hcap
    go_enter Tryz.func130, Tryz.ntmps130
    go_wp2
    go_loopg [5, 8] l.length (fun kx _ s8 wq => ∃ j : Nat, s8 = .int .i64 j ∧ j ≤ l.length ∧ kx = l.length - j ∧ Below w.heap.size w wq)
    case atStart => exact ⟨0, rfl, Nat.zero_le _, rfl, Below.refl _ _⟩
    case round =>
      obtain ⟨j, rfl, hj, hkx, hbr⟩ := hrel
      by_cases hjl : j < l.length
      · obtain ⟨p, hp⟩ : ∃ p, l[j]? = some p := ⟨_, List.getElem?_eq_getElem hjl⟩
        have hci := fun i u hi (hu : (evc p)[i]? = some u) => (World.cell?_of_block (w := w) (hbr.block gb hgl)).trans (HC.out (8 * j + i) u ((evs_get hp i hi).trans hu))
        have hcall := HF.out p (List.mem_of_getElem? hp) wr hbr
        obtain ⟨dl, vv, a, b, c, d, hev⟩ := evc_form p
        rw [hev] at hci hcall
        rw [Nat.mul_comm 8 j] at hci
        generalize p.1 = r at hci hcall
        generalize p.2.key = k at hci hcall
        have e0 : wr.cell? ⟨gb, j * 8, none⟩ = _ := hci 0 _ (by omega) rfl
        have e1 := hci 1 _ (by omega) rfl
        have e2 := hci 2 _ (by omega) rfl
        have e3 := hci 3 _ (by omega) rfl
        have e4 := hci 4 _ (by omega) rfl
        have e5 := hci 5 _ (by omega) rfl
        have e6 := hci 6 _ (by omega) rfl
        have e7 := hci 7 _ (by omega) rfl
        clear hci hev hp
        go_wp2_with (go_at_fn g; refine hcall.mono ?_; rintro e w' ⟨rfl, hb'⟩)
        go_roundg (l.length - (j + 1))
        case measure => omega
        case rel => exact ⟨j + 1, by simp, by omega, rfl, bthen hbr hb'⟩
      · go_wp2
        go_ret
        exact ⟨rfl, hbr⟩
set_option maxRecDepth 100000 in
theorem delete_f (g : Nat) (cb : Array Value) (v : Value) (l : List Ver) (base : Nat) (w : World) (eg : ∀ args w, (callFunc g args).run Tryz.prog w = .ok (.enter g args) w) (hE : Evs w base v l) (hl : l.length ≤ 1000000)
    (hf : ∀ p ∈ l, ∀ w', Below w.heap.size w w' → Calls Tryz.prog g (#[.agg (evc p).toArray] ++ cb) w' fun e w2 => e = .returned (.bool false) ∧ Below w'.heap.size w' w2) :
    Calls Tryz.prog 80 #[v, .func (.func g) #[] cb] w fun e w' => e = .returned v ∧ Below w.heap.size w w' := by
  have hi := index_f g cb v l base w eg hE hl hf
  clear hE hl hf
  go_enter Tryz.func80, Tryz.ntmps80
  go_wp2_with fail
  go_at_call 130
  refine hi.mono ?_
  rintro e w1 ⟨rfl, hb⟩
  go_wp2
  go_ret
  exact ⟨rfl, hb⟩

/-- A watcher of all keys, at a place. -/
def Wa (w : World) (wb : Nat) (pl : Nat) (md : Value) : Prop := Blk w wb #[.string ⟨#[0]⟩, .string (topn 101), .int .i64 pl, md]
theorem top_ne : ((topn 101).toList == ([] : List UInt8)) = false := by rw [topn_list]; rfl
/-- What changes tells. -/
def ChgPost (pl : Nat) (chs : List Ver) (w : World) (e : Ending) (w' : World) : Prop := ∃ v k, e = .returned (.tuple #[v, .int .i64 0]) ∧ At chs pl k ∧ Evs w' w.heap.size v (chs.drop k) ∧ Below w.heap.size w w'

set_option maxHeartbeats 4000000 in
set_option maxRecDepth 100000 in
theorem changes_f {w : World} {sb rev C : Nat} {op : Value} {chs : List Ver} {Ks : List Value} {S : List Nat} (h : St w sb op rev C chs Ks S) (hC : C ≤ 1000000) (hso : chs.Pairwise (fun a b => a.1 ≤ b.1)) (hrv : ∀ p ∈ chs, p.1 ≤ rev)
    {wb pl : Nat} {md : Value} (hB : Wa w wb pl md) (hpl : 1 ≤ pl) : Calls Tryz.prog 39 #[Ptr wb, Ptr sb] w (ChgPost pl chs w) := by
  have hcl : chs.length ≤ C ∧ ∀ p ∈ chs, p.2.ok := by
    obtain ⟨_, _, _, _, _, _, -, -, -, -, -, ho, hcl, -⟩ := h
    exact ⟨hcl, ho⟩
  unfold Wa at hB
  obtain ⟨wa, hwa⟩ : ∃ wa, wa = w.alloc (.cells #[Ptr wb] 85) := ⟨_, rfl⟩
  have hb0 : Below w.heap.size w wa := by rw [hwa]; exact bmore (Below.refl _ _) _
  have hA : Blk wa w.heap.size #[Ptr wb] := by rw [hwa]; exact Blk.new _ _ _
  have hB1 := hB.keep hb0
  have h1 := h.keep hb0
  have h1d := h.keep hb0.drew
  have hsz : wa.heap.size = w.heap.size + 1 := by rw [hwa]; simp
  go_enter Tryz.func39, Tryz.ntmps39
  go_wp2_with fail
  rw [← hwa]
  clear hwa hB h
  have q1 : ∀ o, wa.drew.cell? ⟨w.heap.size, o, none⟩ = _ := hA.cell
  have q2 : ∀ o, wa.drew.cell? ⟨wb, o, none⟩ = _ := hB1.cell
  have q3 : wa.drew.cell? ⟨sb, 0, none⟩ = _ := h1.rev_cell
  go_still_tail 6, (by kernel_rfl)
  repeat still_step
  still_call (still_of (rev_c _ _ _ q3))
  repeat still_step
  refine wpStill_nil ?_
  change wpList _ _ _ _ _ wa.drew
  by_cases hgt : rev < pl
  · go_wp2
    refine bodyPost_ret (v := .tuple #[.slice none 0 0, .int .i64 0]) (by simp [results, Tryz.results39, go_sem]) rfl ⟨_, chs.length, rfl, ⟨Nat.le_refl _, fun p hp => ?_, fun p hp => by simp at hp⟩, ?_, hb0.drew⟩
    · have := hrv p (List.mem_of_mem_take hp)
      omega
    · rw [List.drop_length]
      exact World.ownsRow_nil _ _ _ _
  · go_wp2_with fail
    go_at_call 15
    refine (since_f h1d hC hso pl (by omega)).mono ?_
    rintro e w2 ⟨⟨v, k, rfl, hAt, hE⟩, hb2⟩
    have hbw := bthen hb0.drew hb2
    have q4 := (hA.drew.keep hb2).cell
    have hB2 := hB1.drew.keep hb2
    have hA2 := hA.drew.keep hb2
    clear q1 q2 q3
    have hdel := delete_f 81 #[Ptr w.heap.size] v (chs.drop k) _ w2 eg_chg hE (by simp; omega) (fun p hp w' hb' => by
      have hok := hcl.2 p (List.mem_of_mem_drop hp)
      obtain ⟨dl, vv, a, b, c, d, hev⟩ := evc_form p
      rw [hev]
      exact chg_closure w.heap.size wb (topn 101) p.2.key vv _ _ p.1 a b c d dl w' ((hA2.keep hb').cell 0) (hA2.keep hb').lt (hB2.keep hb') hok.1 top_ne (by rw [topn_list]; exact less_top _ _ (by rw [key_len]; have := hok.2; omega)))
    go_wp2_with fail
    go_at_call 80
    refine hdel.mono ?_
    rintro e w3 ⟨rfl, hb3⟩
    obtain ⟨a, c, rfl⟩ := hE.shape
    go_wp2
    refine bodyPost_ret (v := .tuple #[.slice a (chs.drop k).length c, .int .i64 0]) (by simp [results, Tryz.results39, go_sem]) rfl ⟨_, k, rfl, hAt, ?_, bthen hbw hb3⟩
    exact own_base (own_below hE hb3) (by have : wa.drew.heap.size = wa.heap.size := rfl; omega)
end Go.Proofs.YtbheebpfbabffaaGreat.Wat

