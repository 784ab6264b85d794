/- The steps of the reference's Next and Prev: day by day. -/
import Derived.Test.YtdpaiaeaamokeaaDoorRefMatch
namespace Go.Proofs.YtdpaiaeaamokeaaDoor.Cron
open Go.RowKit Go Go.Proofs.YtdpaiaeaamokeaaDoor.Cal
section
variable {e : Ex} {a b f D y m d : Int} (hb : b % 1440 = 0) (hf0 : 0 ≤ f) (hf : f ≤ 1440) (hD : b / 1440 + 719162 = D) (hd : IsDay D y m d)
include hb hf0 hf hD hd
theorem rnext_skip (hN : NoneTo e a (b + f)) (hk : dayOk e.da e.mo e.wk e.ad e.aw m.toNat d.toNat ((D + 1) % 7).toNat = false) : NoneTo e a (b + 1440) := by
  by_cases h : f = 1440
  · subst h; exact hN
  · have := next_skip (p := b + f) (by omega) hd hN hk
    rwa [show b + f - (b + f) % 1440 + 1440 = b + 1440 by omega] at this
theorem rnext_none (hN : NoneTo e a (b + f)) (hk : IsEarly e.ho e.mi f.toNat (-1)) : NoneTo e a (b + 1440) := by
  by_cases h : f = 1440
  · subst h; exact hN
  · have := next_none (p := b + f) (by omega) hd hN (by rw [show (b + f) % 1440 = f by omega]; exact hk)
    rwa [show b + f - (b + f) % 1440 + 1440 = b + 1440 by omega] at this
theorem rnext_far (hN : NoneTo e a (b + f)) (k : Nat) (hk : IsEarly e.ho e.mi f.toNat k) (hfar : a + 4216320 < b + k) (ha1 : -1035593280 ≤ a) (ha2 : a ≤ 4223371679) : NextIs e a 0 28 := by
  by_cases h : f = 1440
  · subst h
    rcases hk with ⟨hk, -⟩ | ⟨q, hk, h3, h4, -⟩ <;> omega
  · have := next_far (p := b + f) (by omega) hd hN k (by rw [show (b + f) % 1440 = f by omega]; exact hk) (by omega)
    rw [show b + f - (b + f) % 1440 + 1440 = b + 1440 by omega] at this
    refine next_out ha1 ha2 this (.inr ?_)
    rcases hk with ⟨hk, -⟩ | ⟨q, hk, h3, h4, -⟩ <;> omega
theorem rnext_hit (hN : NoneTo e a (b + f)) (hp : a < b + f) (h1 : -1035593280 ≤ b) (h2 : b ≤ 4223371679) (ha1 : -1035593280 ≤ a) (ha2 : a ≤ 4223371679) (hok : dayOk e.da e.mo e.wk e.ad e.aw m.toNat d.toNat ((D + 1) % 7).toNat = true) (k : Nat) (hk : IsEarly e.ho e.mi f.toNat k) (hfar : b + k ≤ a + 4216320) : NextIs e a (b + k) 0 := by
  by_cases h : f = 1440
  · subst h
    rcases hk with ⟨hk, -⟩ | ⟨q, hk, h3, h4, -⟩ <;> omega
  · have := next_hit (p := b + f) hp (by omega) (by omega) (by omega) hd hN ha1 ha2 hok k (by rw [show (b + f) % 1440 = f by omega]; exact hk) (by omega)
    rwa [show b + f - (b + f) % 1440 + k = b + k by omega] at this
end
theorem early_range {ho mi f : Nat} {k : Int} (h : IsEarly ho mi f k) : k = -1 ∨ (0 ≤ k ∧ k < 1440) := by
  rcases h with ⟨h, -⟩ | ⟨n, h, -, h3, -⟩
  · exact .inl h
  · exact .inr (by omega)
theorem late_range {ho mi f : Nat} {k : Int} (hf : f < 1440) (h : IsLate ho mi f k) : k = -1 ∨ (0 ≤ k ∧ k < 1440) := by
  rcases h with ⟨h, -⟩ | ⟨n, h, h3, -⟩
  · exact .inl h
  · exact .inr (by omega)
section
variable {e : Ex} {u l b f D y m d : Int} (hb : b % 1440 = 0) (hf0 : 0 ≤ f) (hf : f < 1440) (hD : b / 1440 + 719162 = D) (hd : IsDay D y m d)
include hb hf0 hf hD hd
theorem rprev_skip (hN : NoneBack e u (b + f) l) (hk : dayOk e.da e.mo e.wk e.ad e.aw m.toNat d.toNat ((D + 1) % 7).toNat = false) : NoneBack e u (b - 1440 + 1439) l := by
  have := prev_skip (p := b + f) (by omega) hd hN hk
  rwa [show b + f - (b + f) % 1440 - 1 = b - 1440 + 1439 by omega] at this
theorem rprev_none (hN : NoneBack e u (b + f) l) (hk : IsLate e.ho e.mi f.toNat (-1)) : NoneBack e u (b - 1440 + 1439) l := by
  have := prev_none (p := b + f) (by omega) hd hN (by rw [show (b + f) % 1440 = f by omega]; exact hk)
  rwa [show b + f - (b + f) % 1440 - 1 = b - 1440 + 1439 by omega] at this
theorem rprev_far (hN : NoneBack e u (b + f) l) (k : Nat) (hk : IsLate e.ho e.mi f.toNat k) (hfar : b + k < l) {c : Int} (hl1 : l = c + 1 ∨ l = u - 4216320) (hl2 : c + 1 ≤ l) (hl3 : u - 4216320 ≤ l) (hc : c < u) (hu1 : -1035593280 ≤ u) (hu2 : u ≤ 4223371679) : PrevIs e u c 0 28 := by
  have h2 := prev_far (p := b + f) (by omega) hd hN k (by rw [show (b + f) % 1440 = f by omega]; exact hk) (by omega)
  rw [show b + f - (b + f) % 1440 - 1 = b - 1440 + 1439 by omega] at h2
  refine prev_out hl1 hl2 hl3 hc hu1 hu2 h2 (.inr ?_)
  omega
theorem rprev_hit (hN : NoneBack e u (b + f) l) (hp : b + f ≤ u) (h1 : -1035593280 ≤ b) (h2 : b ≤ 4223371679) (c : Int) (hl1 : l = c + 1 ∨ l = u - 4216320) (hl2 : c + 1 ≤ l) (hl3 : u - 4216320 ≤ l) (hc : c < u) (hu1 : -1035593280 ≤ u) (hu2 : u ≤ 4223371679) (hok : dayOk e.da e.mo e.wk e.ad e.aw m.toNat d.toNat ((D + 1) % 7).toNat = true) (k : Nat) (hk : IsLate e.ho e.mi f.toNat k) (hfar : l ≤ b + k) : PrevIs e u c (b + k) 0 := by
  have := prev_hit (p := b + f) hp (by omega) (by omega) (by omega) hd hN c hl1 hl2 hl3 hc hu1 hu2 hok k (by rw [show (b + f) % 1440 = f by omega]; exact hk) (by omega)
  rwa [show b + f - (b + f) % 1440 + k = b + k by omega] at this
end
/-- A date is laid over another. -/
theorem set6_cells {w3 : World} {q : Nat} {z0 z1 z2 z3 z4 z5 u0 u1 u2 u3 u4 u5 : Value} (hN : ∀ o, w3.cell? ⟨q, o, none⟩ = (#[z0, z1, z2, z3, z4, z5] : Array Value)[o]?) :
    ∀ w4, w4 = (World.setCell (World.setCell (World.setCell (World.setCell (World.setCell (World.setCell w3 ⟨q, 0, none⟩ u0) ⟨q, 1, none⟩ u1) ⟨q, 2, none⟩ u2) ⟨q, 3, none⟩ u3) ⟨q, 4, none⟩ u4) ⟨q, 5, none⟩ u5) →
    ∀ o, w4.cell? ⟨q, o, none⟩ = (#[u0, u1, u2, u3, u4, u5] : Array Value)[o]? := by
  rintro w4 rfl o
  have hss := isSome_setCell
  have hcs := cell_same
  have hne : ∀ (W : World) (i j : Nat) (v : Value), i ≠ j → (W.setCell ⟨q, i, none⟩ v).cell? ⟨q, j, none⟩ = W.cell? ⟨q, j, none⟩ := fun W i j v h => by
    apply World.cell?_setCell_other
    simp [h]
  by_cases h5 : o = 5
  · subst h5; rw [hcs _ _ _ _ (by simp only [hss, hN]; rfl)]; rfl
  rw [hne _ _ _ _ (Ne.symm h5)]
  by_cases h4 : o = 4
  · subst h4; rw [hcs _ _ _ _ (by simp only [hss, hN]; rfl)]; rfl
  rw [hne _ _ _ _ (Ne.symm h4)]
  by_cases h3 : o = 3
  · subst h3; rw [hcs _ _ _ _ (by simp only [hss, hN]; rfl)]; rfl
  rw [hne _ _ _ _ (Ne.symm h3)]
  by_cases h2 : o = 2
  · subst h2; rw [hcs _ _ _ _ (by simp only [hss, hN]; rfl)]; rfl
  rw [hne _ _ _ _ (Ne.symm h2)]
  by_cases h1 : o = 1
  · subst h1; rw [hcs _ _ _ _ (by simp only [hss, hN]; rfl)]; rfl
  rw [hne _ _ _ _ (Ne.symm h1)]
  by_cases h0 : o = 0
  · subst h0; rw [hcs _ _ _ _ (by simp only [hss, hN]; rfl)]; rfl
  rw [hne _ _ _ _ (Ne.symm h0), hN]
  have : 6 ≤ o := by omega
  rw [Array.getElem?_eq_none (by simpa using this), Array.getElem?_eq_none (by simpa using this)]
theorem set_away (W : World) {q b : Nat} (h : b ≠ q) (i : Nat) (v : Value) (o : Nat) : (W.setCell ⟨q, i, none⟩ v).cell? ⟨b, o, none⟩ = W.cell? ⟨b, o, none⟩ := by
  apply World.cell?_setCell_other
  simp [Ne.symm h]
theorem set6_away {w3 : World} {q b : Nat} {u0 u1 u2 u3 u4 u5 : Value} (h : b ≠ q) :
    ∀ w4, w4 = (World.setCell (World.setCell (World.setCell (World.setCell (World.setCell (World.setCell w3 ⟨q, 0, none⟩ u0) ⟨q, 1, none⟩ u1) ⟨q, 2, none⟩ u2) ⟨q, 3, none⟩ u3) ⟨q, 4, none⟩ u4) ⟨q, 5, none⟩ u5) →
    ∀ o, w4.cell? ⟨b, o, none⟩ = w3.cell? ⟨b, o, none⟩ := by
  rintro w4 rfl o
  simp only [set_away _ h]
theorem set6_frozen {w3 : World} {q : Nat} {u0 u1 u2 u3 u4 u5 : Value} (h : ∀ o, w3.frozen? ⟨q, o, none⟩ = false) :
    ∀ w4, w4 = (World.setCell (World.setCell (World.setCell (World.setCell (World.setCell (World.setCell w3 ⟨q, 0, none⟩ u0) ⟨q, 1, none⟩ u1) ⟨q, 2, none⟩ u2) ⟨q, 3, none⟩ u3) ⟨q, 4, none⟩ u4) ⟨q, 5, none⟩ u5) →
    ∀ o, w4.frozen? ⟨q, o, none⟩ = false := by
  rintro w4 rfl o
  simp only [World.frozen?_setCell]
  exact h o
end Go.Proofs.YtdpaiaeaamokeaaDoor.Cron
