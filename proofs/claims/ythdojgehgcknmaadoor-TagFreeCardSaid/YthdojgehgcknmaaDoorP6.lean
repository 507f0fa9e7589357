/-
  A packet's shape: its side numbers and its bands.
-/
import Derived.Test.YthdojgehgcknmaaDoorP5
namespace Go.Proofs.YthdojgehgcknmaaDoor
open Go Go.Ev
set_option maxRecDepth 1000000

theorem at0_set_eq {l : List Int} {i : Nat} (x : Int) (h : i < l.length) : at0 (l.set i x) i = x := by
  unfold at0
  rw [List.getD_eq_getElem?_getD, List.getElem?_set_self h]
  rfl
theorem at0_set_ne {l : List Int} {i j : Nat} (x : Int) (h : i ≠ j) : at0 (l.set i x) j = at0 l j := by
  unfold at0
  rw [List.getD_eq_getElem?_getD, List.getD_eq_getElem?_getD, List.getElem?_set_ne h]

/-- Its side numbers. -/
def Sides (side p : List Int) : Prop := p.length = 40 ∧ ∀ i, i < 8 → at0 p i = ibit .and .i64 (at0 side i) 15
/-- A band's pulses in it. -/
def BandIs (p : List Int) (b : Nat) (a : Int) : Prop := ∃ v, Shape4 a v ∧ ∀ t, t < 4 → at0 p (8 + (4 * b + t)) = at0 v t

theorem count_pos {a : Int} (h : 0 ≤ a ∧ a ≤ 12) : 0 < at0 pvqT (Int.toNat (4 * 13 + a)) := by
  have h1 : ((List.range 13).all fun a => decide (0 < at0 pvqT (52 + a))) = true := by kernel_rfl
  have h2 := List.all_eq_true.1 h1 a.toNat (List.mem_range.2 (by omega))
  have e : Int.toNat (4 * 13 + a) = 52 + a.toNat := by omega
  rw [e]
  exact of_decide_eq_true h2

theorem first8_eq (k : Nat) (hk : 1000000 ≤ k) (side : List Int) : Ok (iter k
      (fun (x : Int × List Int × Unit) =>
        br (decide (x.1 < 8))
          (chk (decide (0 ≤ x.1))
            (chk (decide (x.1 < 8))
              (lt (at0 side (Int.toNat (x.1))) fun x_1 =>
                lt (ibit BinOp.and IntKind.i64 x_1 15) fun z =>
                  chk (decide (0 ≤ x.1))
                    (chk (decide (x.1 < 8))
                      (lt (List.set (x.2.1) (Int.toNat (x.1)) z) fun l' =>
                        lt (w64 (x.1 + 1)) fun z =>
                          some (Sum.inl (z, l', ())))))))
          (some (Sum.inr (x.2.1, ()))))
      (0, List.replicate 40 (0 : Int), ())) (fun r => Sides side r.1) := by
  obtain ⟨k', rfl⟩ : ∃ k', k = k' + 10 := ⟨k - 10, by omega⟩
  refine ⟨(((List.range 8).map fun i => ibit .and .i64 (at0 side i) 15) ++ List.replicate 32 0, ()), by kernel_rfl, by simp, fun i hi => ?_⟩
  match i, hi with
  | 0, _ => rfl
  | 1, _ => rfl
  | 2, _ => rfl
  | 3, _ => rfl
  | 4, _ => rfl
  | 5, _ => rfl
  | 6, _ => rfl
  | 7, _ => rfl

theorem Shape_ok (k : Nat) (hk : 1000000 ≤ k) (side l : List Int) (n : Int) (hl : ∀ a ∈ l, InR .u32 a) : Ok (f_belfrylaw19_Shape k side l n) (fun r => Sides side r.1.1 ∧ ∃ ks, Eight ks ∧ ∀ b, b < 8 → BandIs r.1.1 b (at0 ks b)) := by
  unfold f_belfrylaw19_Shape
  refine Ok.obind (first8_eq k hk side) fun y hy => ?_
  obtain ⟨s, ⟨⟩⟩ := y
  simp only [lt_eq] at hy ⊢
  refine Ok.obind (Pulses_ok k hk _ _) fun y hks => ?_
  obtain ⟨⟨ks, ⟨⟩⟩, ⟨⟩⟩ := y
  simp only at hks ⊢
  have hkb : ∀ i : Int, 0 ≤ i → i < 8 → 0 ≤ at0 ks i.toNat ∧ at0 ks i.toNat ≤ 12 := fun i h1 h2 => hks.2 _ (at0_mem (by have := hks.1; omega))
  refine Ok.obind (P := fun r => ∃ w p, r = .inr (w, p, ()) ∧ Sides side p ∧ ∀ b, b < 8 → BandIs p b (at0 ks b)) (Ok.iter (fun (x : Int × List Int × List Int × Unit) => 0 ≤ x.1 ∧ x.1 ≤ 8 ∧ Sides side x.2.2.1 ∧ ∀ b : Nat, b < x.1 → BandIs x.2.2.1 b (at0 ks b)) (fun x => (8 - x.1).toNat) (fun x hx => ?_) ⟨by simp, by simp, hy, fun b hb => by simp only at hb; omega⟩ (by simp only; omega)) fun r hr => ?_
  · obtain ⟨i, w, p, ⟨⟩⟩ := x
    obtain ⟨a1, a2, a3, a4⟩ := hx
    simp only at a1 a2 a3 a4 ⊢
    refine Ok.brd (fun hi => ?_) fun hi => Ok.ret ⟨w, p, rfl, a3, fun b hb => a4 b (by omega)⟩
    have hi' := hkb i a1 hi
    have hc := count_pos hi'
    have hc2 := pvqT_small (Int.toNat (4 * 13 + at0 ks i.toNat))
    rw [chk_of _ a1, chk_of _ hi, pvq_Count_4 k hk _ hi', obind_eq]
    have hne : (at0 pvqT (Int.toNat (4 * 13 + at0 ks i.toNat)) == 0) = false := by rw [beq_eq_false_iff_ne]; omega
    simp only [hne]
    show Ok (chk _ _) _
    rw [chk_of _ a1, chk_of _ hi, chk_of _ a1, chk_of _ hi, chk_of _ (by omega)]
    have hu := u32_range.1 (at0_in hl i.toNat)
    have ht := tmod_bounds (at0 l i.toNat) hc
    rw [w64_in (x := at0 l i.toNat) (by omega) (by omega)]
    have ht2 : 0 ≤ Int.tmod (at0 l i.toNat) (at0 pvqT (Int.toNat (4 * 13 + at0 ks i.toNat))) := Int.tmod_nonneg _ hu.1
    refine Ok.obind (pvq_Vector_ok k hk _ _ hi' ⟨ht2, ht.2⟩) fun y hv => ?_
    obtain ⟨⟨v, e, ⟨⟩⟩, ⟨⟩⟩ := y
    obtain ⟨_, hv⟩ := hv
    simp only at hv ⊢
    refine Ok.obind (P := fun r => Sides side r.1 ∧ (∀ b : Nat, b < i → BandIs r.1 b (at0 ks b)) ∧ ∀ t, t < 4 → at0 r.1 (8 + (4 * i.toNat + t)) = at0 v t) (Ok.iter (fun (x : Int × List Int × Unit) => 0 ≤ x.1 ∧ x.1 ≤ 4 ∧ Sides side x.2.1 ∧ (∀ b : Nat, b < i → BandIs x.2.1 b (at0 ks b)) ∧ ∀ t : Nat, t < x.1 → at0 x.2.1 (8 + (4 * i.toNat + t)) = at0 v t) (fun x => (4 - x.1).toNat) (fun x hx => ?_) ⟨by simp, by simp, a3, a4, fun t ht => by simp only at ht; omega⟩ (by simp only; omega)) fun r hr => ?_
    · obtain ⟨j, p, ⟨⟩⟩ := x
      obtain ⟨b1, b2, b3, b4, b5⟩ := hx
      simp only [hv.1] at b1 b2 b3 b4 b5 ⊢
      by_cases hj : j < 4
      · rw [br_of _ _ hj, chk_of _ (by decide), obind_eq]
        show Ok (chk _ _) _
        rw [chk_of _ b1, chk_of _ (by omega), chk_of _ a1, chk_of _ hi, chk_of _ b1, chk_of _ hj, addz_eq]
        rw [w64_in (x := j + 1) (by omega) (by omega)]
        have e1 : Int.toNat (8 + (i * 4 + j)) = 8 + (4 * i.toNat + j.toNat) := by omega
        rw [e1]
        have hlen := b3.1
        refine Ok.ret ⟨⟨by simp only; omega, by simp only; omega, ⟨by simp [hlen], fun q hq => ?_⟩, fun b hb => ?_, fun t ht => ?_⟩, by simp only; omega⟩
        · simp only
          rw [at0_set_ne _ (by omega)]
          exact b3.2 q hq
        · obtain ⟨v', h1, h2⟩ := b4 b hb
          refine ⟨v', h1, fun t ht => ?_⟩
          simp only
          rw [at0_set_ne _ (by omega)]
          exact h2 t ht
        · simp only at ht ⊢
          by_cases htj : t = j.toNat
          · subst htj
            rw [at0_set_eq _ (by omega)]
          · rw [at0_set_ne _ (by omega)]
            exact b5 t (by omega)
      · rw [br_not _ _ hj, obind_eq]
        exact Ok.ret ⟨b3, b4, fun t ht => b5 t (by omega)⟩
    · obtain ⟨h1, h2, h3⟩ := hr
      rw [w64_in (x := i + 1) (by omega) (by omega)]
      refine Ok.ret ⟨⟨by simp only; omega, by simp only; omega, h1, fun b hb => ?_⟩, by simp only; omega⟩
      simp only at hb ⊢
      by_cases hbi : b = i.toNat
      · subst hbi
        exact ⟨v, hv, h3⟩
      · exact h2 b (by omega)
  · obtain ⟨w, p, rfl, h1, h2⟩ := hr
    exact Ok.ret ⟨h1, ks, hks, h2⟩

end Go.Proofs.YthdojgehgcknmaaDoor
