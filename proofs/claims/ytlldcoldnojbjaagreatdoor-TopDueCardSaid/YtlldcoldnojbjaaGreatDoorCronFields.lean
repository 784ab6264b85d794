/- The contract of cron.fields at a text that is UTF-8. -/
import Derived.Test.YtlldcoldnojbjaaGreatDoorCronFld
import Derived.Deep.AppendLies
import Derived.StillTailTactics
import Derived.WalkSmall
import Derived.OwnWalk
import Derived.Laws.OwnMore
namespace Go.Proofs.YtlldcoldnojbjaaGreatDoor.Cron
open Go.RowKit Go

/-- What one rune does to the fields. -/
theorem fld_step (s : ByteArray) (k K R : Nat) (h : k < s.size) (hR : (Utf8.decode s k).1 = R) (hK : (Utf8.decode s k).2 = K) (hv : ¬ (R = 65533 ∧ K = 1)) :
    (Utf8.encode R).size = K ∧
    ((R = 32 ∨ R = 9) → fold (s.data.toList.take (k + K)) = ((fold (s.data.toList.take k)).1, false)) ∧
    (¬ (R = 32 ∨ R = 9) → (fold (s.data.toList.take k)).2 = false → fold (s.data.toList.take (k + K)) = ((fold (s.data.toList.take k)).1 ++ [(s.extract k (k + K)).data.toList], true)) ∧
    (¬ (R = 32 ∨ R = 9) → ∀ bs x, fold (s.data.toList.take k) = (bs ++ [x], true) → fold (s.data.toList.take (k + K)) = (bs ++ [x ++ (s.extract k (k + K)).data.toList], true)) := by
  have hl : s.data.toList.length = s.size := by rw [Array.length_toList]; rfl
  obtain ⟨he, hlow, hhigh⟩ := rune_at s k h (by rw [hR, hK]; exact hv)
  have hKs : k + K ≤ s.size := by rw [← hK]; exact width_le s k h
  have hK1 : 1 ≤ K := by rw [← hK]; exact Lib.width_pos s k
  rw [hR, hK] at he hlow hhigh
  rw [extract_take s k K hKs, fold_append]
  have hml : (s.extract k (k + K)).data.toList.length = K := by
    rw [Array.length_toList]; show (s.extract k (k + K)).size = K; simp; omega
  have hmg : ∀ j, j < K → (s.extract k (k + K)).data.toList.getD j 0 = s.data.toList.getD (k + j) 0 := by
    intro j hj
    rw [Lib.extract_data, show k + K - k = K by omega, List.getD_eq_getElem?_getD, List.getD_eq_getElem?_getD, List.getElem?_take_of_lt hj, List.getElem?_drop]
  generalize (s.extract k (k + K)).data.toList = m at *
  have hne : m ≠ [] := fun e => by rw [e] at hml; simp at hml; omega
  have hnb : ¬ (R = 32 ∨ R = 9) → ∀ c ∈ m, isBlank c = false := by
    intro hr c hc
    obtain ⟨j, hj, rfl⟩ := List.getElem_of_mem hc
    have hg := hmg j (by omega)
    rw [List.getD_eq_getElem?_getD, List.getElem?_eq_getElem hj, Option.getD_some] at hg
    by_cases h128 : R < 128
    · obtain ⟨hk1, hb⟩ := hlow h128
      have hj0 : j = 0 := by omega
      subst hj0
      have hb2 : (m[0]).toNat = R := by rw [hg]; exact hb
      simp only [isBlank, decide_eq_false_iff_not]
      omega
    · have := hhigh (by omega) j (by omega)
      rw [← hg] at this
      simp only [isBlank, decide_eq_false_iff_not]
      omega
  refine ⟨he, fun hr => ?_, fun hr h2 => ?_, fun hr bs x hx => ?_⟩
  · obtain ⟨hk1, hb⟩ := hlow (by omega)
    have hg := hmg 0 (by omega)
    match m, hml, hg with
    | [c], _, hg =>
      have hc : isBlank c = true := by
        have hcg : c = s.data.toList.getD (k + 0) 0 := hg
        have : c.toNat = R := by rw [hcg]; exact hb
        simp only [isBlank, decide_eq_true_eq]; omega
      rw [List.foldl_cons, List.foldl_nil, fstep, if_pos hc]
    | [], h1, _ => simp at h1; omega
    | _ :: _ :: _, h1, _ => simp at h1; omega
  · rcases hf : fold (s.data.toList.take k) with ⟨b, i⟩
    rw [hf] at h2
    dsimp only at h2
    subst h2
    exact fold_new m b hne (hnb hr)
  · rw [hx]
    exact fold_more m bs x (hnb hr)

theorem own_le {w : World} {B B' : Nat} {e : TypeId} {z : Nat} {v : Value} {n : Nat} {xs : List Value} (h : w.ownsRow B e z v n xs) (hb : B' ≤ B) : w.ownsRow B' e z v n xs :=
  ⟨h.1, h.2.imp id fun ⟨g, cap, cur, a, b, c⟩ => ⟨g, cap, cur, a, Nat.le_trans hb b, c⟩⟩
theorem iter_here (w : World) (s : ByteArray) : (w.iter s 0).heap[w.heap.size]? = some (.stringIter s 0) := by
  show (w.alloc (.stringIter s 0)).heap[w.heap.size]? = some (.stringIter s 0)
  exact Go.heap_alloc_new w _

theorem Tryz.infoStr : (Tryz.prog.info? 9).map (fun i => (i.zero, i.size, i.bytes)) = some (some (.string ⟨#[]⟩), 1, 16) := by kernel_rfl
/-- Behind an append to a row of its own. -/
theorem own_grown {w W W1 : World} {e : TypeId} {v : Value} {n : Nat} {xs : List Value} {o : Obj} {B : Nat} (hB : w.heap.size ≤ B) (hown : W.ownsRow B e 1 v n xs) (hbw : Below w.heap.size w W) (hg : (W.alloc o).grownBy W1 v.ownBlock) :
    Below w.heap.size w W1 ∧ ∀ k it, k < B → W.heap[k]? = some it → W1.heap[k]? = some it := by
  have hr : ∀ k, v.ownBlock = some k → B ≤ k := fun k h => (hown.lt k h).1
  refine ⟨(hbw.alloc hbw.size o).trans ⟨hg.os, hg.tape, hg.output, hg.size, fun k hk => hg.block k (Nat.lt_of_lt_of_le hk (by simp; have := hbw.size; omega)) (fun h => by have := hr k h.symm; omega)⟩, fun k it hk hh => ?_⟩
  have hlt : k < W.heap.size := (Array.getElem?_eq_some_iff.1 hh).1
  rw [hg.block k (by simp; omega) (fun h => by have := hr k h.symm; omega), Below.heap_alloc _ _ _ hlt]
  exact hh

set_option maxRecDepth 100000 in
theorem fields_any (s : ByteArray) (w : World) (hs : s.size ≤ 1000) (hv : Val s 0) :
    Calls Tryz.prog 16 #[.string s] w fun e w' => (∃ (v : Value) (bs : List ByteArray), e = .returned v ∧ w'.ownsRow w.heap.size 9 1 v bs.length (bs.map Value.string) ∧ bs.map (·.data.toList) = flds s.data.toList ∧ bs.length ≤ s.size ∧ ∀ b ∈ bs, b.size ≤ s.size) ∧ Below w.heap.size w w' := by
  obtain ⟨i0, hi0, hz0, hz1, hz2⟩ := info_parts Tryz.infoStr
  go_enter Tryz.func16, Tryz.ntmps16
  go_wp2
  go_loopg [3, 4] s.size (fun gk x3 x4 wr => ∃ (k : Nat) (bs : List ByteArray) (ins : Bool), x4 = .bool ins ∧ wr.ownsRow (w.heap.size + 1) 9 1 x3 bs.length (bs.map Value.string) ∧ wr.heap[w.heap.size]? = some (.stringIter s k) ∧ Below w.heap.size w wr ∧ Val s k ∧ k ≤ s.size ∧
    bs.length ≤ k ∧ fold (s.data.toList.take k) = (bs.map (·.data.toList), ins) ∧ (ins = true → bs ≠ []) ∧ (∀ b ∈ bs, b.size ≤ k) ∧ gk = s.size - k)
  case atStart => exact ⟨0, [], false, rfl, World.ownsRow_nil _ _ _ _, iter_here w s, (Below.refl _ _).alloc (Nat.le_refl _) _, hv, by omega, by simp, rfl, by simp, by simp, rfl⟩
  case round =>
    obtain ⟨k, bs, ins, rfl, hown, hit, hbw, hva, hk, hbk, hfo, hin, hall, hgk⟩ := hrel
    have HA : Hid (∀ b ∈ bs, b.size ≤ k) := hall
    clear hall
    have HG := Lib.hid hgk
    have HF := Lib.hid hfo
    clear hgk hfo hv
    by_cases hlt : k < s.size
    · have hn := fun ty => Lib.run_next_any_at (P := Tryz.prog) wr w.heap.size s k ty hit hlt
      obtain ⟨R, hR⟩ : ∃ R, (Utf8.decode s k).1 = R := ⟨_, rfl⟩
      obtain ⟨K, hK⟩ : ∃ K, (Utf8.decode s k).2 = K := ⟨_, rfl⟩
      have hva2 : ¬ (R = 65533 ∧ K = 1) ∧ Val s (k + K) := by
        rw [← hR, ← hK]
        cases hva with
        | done h => exact absurd h (by omega)
        | step _ h1 h2 => exact ⟨h1, h2⟩
      obtain ⟨hst0, hst1, hst2, hst3⟩ := fld_step s k K R hlt hR hK hva2.1
      have HV := Lib.hid hva2.2
      have hRb : R ≤ 1114111 := by rw [← hR]; exact Lib.rune_le s k
      have hK1 : 1 ≤ K := by rw [← hK]; exact Lib.width_pos s k
      have hKs : k + K ≤ s.size := by rw [← hK]; exact width_le s k hlt
      rw [hR, hK] at hn
      have hit2 : (wr.iterAt w.heap.size s (k + K)).heap[w.heap.size]? = some (.stringIter s (k + K)) := Lib.iterAt_heap wr _ s k _ hit
      have hown2 := ownsRow_iterAt hown (k := w.heap.size) (by omega) s (k + K)
      have hbw2 : Below w.heap.size w (wr.iterAt w.heap.size s (k + K)) := Lib.below_iterAt hbw (by omega) s _
      clear hit hown hbw hva hva2
      generalize wr.iterAt w.heap.size s (k + K) = W at *
      clear hR hK
      by_cases hbl : R = 32 ∨ R = 9
      · have HS := Lib.hid (hst1 hbl)
        clear hst0 hst1 hst2 hst3
        rcases hbl with rfl | rfl
        · go_wp2
          go_roundg (s.size - (k + K))
          case measure => have := HG.out; omega
          case rel => exact ⟨k + K, bs, false, rfl, hown2, hit2, hbw2, HV.out, hKs, by omega, by rw [HS.out, HF.out], by simp, fun b hb => Nat.le_trans (HA.out b hb) (by omega), rfl⟩
        · go_wp2
          go_roundg (s.size - (k + K))
          case measure => have := HG.out; omega
          case rel => exact ⟨k + K, bs, false, rfl, hown2, hit2, hbw2, HV.out, hKs, by omega, by rw [HS.out, HF.out], by simp, fun b hb => Nat.le_trans (HA.out b hb) (by omega), rfl⟩
      · have HS2 := Lib.hid (hst2 hbl)
        have HS3 := Lib.hid (hst3 hbl)
        have e32 : ((R : Int) == 32) = false := by simp; omega
        have e9 : ((R : Int) == 9) = false := by simp; omega
        clear hst1 hst2 hst3 hbl
        cases ins with
        | false =>
          go_wp2_with (at_builtin; refine wpList_append_lies _ rfl _ _ 57 rfl (w.heap.size + 1) 9 i0 (.string ⟨#[]⟩) 1 16 Tryz.underlying57 hi0 hz0 hz1 hz2 rfl (by decide) _ _ _ rfl (hown2.alloc _) ⟨W.heap.size, 0, none⟩ 1 1 [.string ⟨#[]⟩] rfl rfl ?c1 ?c2 (by decide) ?c3 ?c4 ?c5 _ rfl ?_)
          case c1 =>
            intro j u hj
            match j, hj with
            | 0, hj => simp at hj; subst hj; simp [Addr.add]
          case c2 => intro u hu; simp at hu; subst hu; rfl
          case c3 => unfold maxLen; omega
          case c4 => omega
          case c5 => have := hbw2.size; simp; have := (Array.getElem?_eq_some_iff.1 hit2).1; omega
          · intro g cap w1 hown3 hgrow hat hgl
            obtain ⟨hbw3, hkeep⟩ := own_grown (by omega) hown2 hbw2 hgrow
            have hit3 := hkeep _ _ (by omega) hit2
            have hcl : w1.cell? ⟨g, bs.length, none⟩ = some (.string ⟨#[]⟩) := by rw [hown3.cellAt bs.length (by omega)]; simp
            have hfz := hown3.frozenAt bs.length
            have HO := Lib.hid hown3
            clear hgrow hat hkeep hown2 hit2 hbw2 hown3
            obtain ⟨m, hm⟩ : ∃ m, s.extract k (k + K) = m := ⟨_, rfl⟩
            have hmz : m.size = K := by rw [← hm]; simp; omega
            have hbig : ¬ 9223372036854775807 < K := by omega
            have hs1 : (k : Int) + (K : Int) ≤ (s.size : Int) := by omega
            have hs2 : (k : Int) ≤ (k : Int) + (K : Int) := by omega
            have hs3 : ((k : Int) + (K : Int)).toNat = k + K := by omega
            have hs4 : 0 ≤ (k : Int) + (K : Int) := by omega
            have hix : (bs.length : Int) < (bs.length : Int) + 1 := by omega
            have hwr : IntKind.i64.wrap (bs.length : Int) = (bs.length : Int) := by rw [IntKind.wrap_i64]; omega
            have hwk : IntKind.i64.wrap ((k : Int) + (K : Int)) = (k : Int) + (K : Int) := by rw [IntKind.wrap_i64]; omega
            go_wp2_with fail
            go_still_tail 16, (by kernel_rfl)
            change wpList _ _ _ _ _ w1.drew
            have hcl2 : w1.drew.cell? ⟨g, bs.length, none⟩ = some (.string ⟨#[]⟩) := hcl
            have hfz2 : w1.drew.frozen? ⟨g, bs.length, none⟩ = false := hfz
            have hit4 : w1.drew.heap[w.heap.size]? = some (.stringIter s (k + K)) := hit3
            have hbw4 : Below w.heap.size w w1.drew := hbw3.drew
            have HO2 : Hid (w1.drew.ownsRow (w.heap.size + 1) 9 1 (.slice (some ⟨g, 0, none⟩) (bs.length + 1) cap) (bs.length + 1) (bs.map Value.string ++ [.string ⟨#[]⟩])) := HO.out.drew
            clear hcl hfz hit3 hbw3 HO hgl hn
            generalize w1.drew = w2 at *
            have hgB : w.heap.size + 1 ≤ g := (HO2.out.lt g rfl).1
            have HE : Hid (s.extract k (k + K) = m) := hm
            clear hm
            go_wp2_with fail
            go_roundg (s.size - (k + K))
            case measure => have := HG.out; omega
            case rel =>
              have h1 := HO2.out.stored bs.length (.string (⟨#[]⟩ ++ m))
              refine ⟨k + K, bs ++ [⟨#[]⟩ ++ m], true, rfl, ?_, ?_, hbw4.setCell (p := ⟨g, bs.length, none⟩) (by show w.heap.size ≤ g; omega) _, HV.out, hKs, by simp; omega, ?_, by simp, ?_, rfl⟩
              · have h2 := h1.1
                rw [show (bs.map Value.string ++ [Value.string ⟨#[]⟩]).set bs.length (.string (⟨#[]⟩ ++ m)) = (bs ++ [⟨#[]⟩ ++ m]).map Value.string by simp] at h2
                rw [List.length_append]; exact h2
              · rw [Below.heap_setCell _ _ _ _ (by show w.heap.size ≠ g; omega)]; exact hit4
              · rw [HS2.out (by rw [HF.out]), HF.out, HE.out]; simp
              · intro b hb
                rcases List.mem_append.1 hb with hb | hb
                · exact Nat.le_trans (HA.out b hb) (by omega)
                · simp at hb; subst hb; rw [ByteArray.size_append, hmz]; show 0 + K ≤ _; omega
        | true =>
          obtain ⟨cs, x, rfl⟩ : ∃ cs x, bs = cs ++ [x] := ⟨bs.dropLast, bs.getLast (hin rfl), (List.dropLast_concat_getLast (hin rfl)).symm⟩
          have hxz : x.size ≤ k := HA.out x (by simp)
          obtain ⟨g, cap, rfl, hgB, -⟩ := hown2.form (by simp)
          have hcl : W.cell? ⟨g, cs.length, none⟩ = some (.string x) := by rw [hown2.cellAt cs.length (by simp)]; simp
          have hfz := hown2.frozenAt cs.length
          have HO : Hid (W.ownsRow (w.heap.size + 1) 9 1 (.slice (some ⟨g, 0, none⟩) (cs.length + 1) cap) (cs.length + 1) (cs.map Value.string ++ [.string x])) := by
            have := hown2
            rw [List.length_append, List.map_append] at this
            exact this
          rw [List.length_append] at hbk
          obtain ⟨m, hm⟩ : ∃ m, s.extract k (k + K) = m := ⟨_, rfl⟩
          have hmz : m.size = K := by rw [← hm]; simp; omega
          have hbig : ¬ 9223372036854775807 < x.size + K := by omega
          have hs1 : (k : Int) + (K : Int) ≤ (s.size : Int) := by omega
          have hs2 : (k : Int) ≤ (k : Int) + (K : Int) := by omega
          have hs3 : ((k : Int) + (K : Int)).toNat = k + K := by omega
          have hs4 : 0 ≤ (k : Int) + (K : Int) := by omega
          have hlen : (cs ++ [x]).length = cs.length + 1 := by simp
          have hix : (cs.length : Int) < (cs.length : Int) + 1 := by omega
          have hwr : IntKind.i64.wrap (cs.length : Int) = (cs.length : Int) := by rw [IntKind.wrap_i64]; simp at hbk; omega
          have hwk : IntKind.i64.wrap ((k : Int) + (K : Int)) = (k : Int) + (K : Int) := by rw [IntKind.wrap_i64]; omega
          clear hown2 hin
          rw [hlen]
          clear hlen
          go_wp2_with fail
          go_still_tail 16, (by kernel_rfl)
          change wpList _ _ _ _ _ W.drew
          have hcl2 : W.drew.cell? ⟨g, cs.length, none⟩ = some (.string x) := hcl
          have hfz2 : W.drew.frozen? ⟨g, cs.length, none⟩ = false := hfz
          have hit4 : W.drew.heap[w.heap.size]? = some (.stringIter s (k + K)) := hit2
          have hbw4 : Below w.heap.size w W.drew := hbw2.drew
          have HO2 : Hid (W.drew.ownsRow (w.heap.size + 1) 9 1 (.slice (some ⟨g, 0, none⟩) (cs.length + 1) cap) (cs.length + 1) (cs.map Value.string ++ [.string x])) := HO.out.drew
          clear hcl hfz hit2 hbw2 HO hn
          generalize W.drew = w2 at *
          have HE : Hid (s.extract k (k + K) = m) := hm
          clear hm
          go_wp2_with fail
          go_roundg (s.size - (k + K))
          case measure => have := HG.out; omega
          case rel =>
            have h1 := HO2.out.stored cs.length (.string (x ++ m))
            refine ⟨k + K, cs ++ [x ++ m], true, rfl, ?_, ?_, hbw4.setCell (p := ⟨g, cs.length, none⟩) (by show w.heap.size ≤ g; omega) _, HV.out, hKs, by simp at hbk ⊢; omega, ?_, by simp, ?_, rfl⟩
            · have h2 := h1.1
              rw [show (cs.map Value.string ++ [Value.string x]).set cs.length (.string (x ++ m)) = (cs ++ [x ++ m]).map Value.string by simp] at h2
              rw [List.length_append]; exact h2
            · rw [Below.heap_setCell _ _ _ _ (by show w.heap.size ≠ g; omega)]; exact hit4
            · rw [HS3.out (cs.map (·.data.toList)) x.data.toList (by rw [HF.out]; simp), HE.out]; simp
            · intro b hb
              rcases List.mem_append.1 hb with hb | hb
              · exact Nat.le_trans (HA.out b (by simp [hb])) (by omega)
              · simp at hb; subst hb; rw [ByteArray.size_append, hmz]; omega
    · have hn := fun ty => Lib.run_next_end_at (P := Tryz.prog) wr w.heap.size s k ty hit hlt
      have hks : k = s.size := by omega
      have HX : Hid (bs.map (·.data.toList) = flds s.data.toList) := by
        show _ = _
        have := HF.out
        rw [take_all s k (by omega)] at this
        unfold flds; rw [this]
      clear hks
      go_wp2
      go_ret
      exact ⟨⟨_, bs, rfl, own_le hown (by omega), HX.out, by omega, fun b hb => Nat.le_trans (HA.out b hb) hk⟩, hbw⟩
end Go.Proofs.YtlldcoldnojbjaaGreatDoor.Cron
