/-
  The pulses of every band, and a packet's shape.
-/
import Derived.Test.YthdojgehgcknmaaDoorP4
namespace Go.Proofs.YthdojgehgcknmaaDoor
open Go Go.Ev
set_option maxRecDepth 1000000

/-- Eight bands' pulses. -/
def Eight (l : List Int) : Prop := l.length = 8 ∧ ∀ a ∈ l, 0 ≤ a ∧ a ≤ 12

theorem at0_mem {l : List Int} {i : Nat} (h : i < l.length) : at0 l i ∈ l := by
  unfold at0
  rw [List.getD_eq_getElem?_getD, List.getElem?_eq_getElem h]
  exact List.getElem_mem h

theorem sum_set (l : List Int) : ∀ (i : Nat) (x : Int), i < l.length → (l.set i x).sum = l.sum - at0 l i + x := by
  induction l with
  | nil => intro i x h; cases h
  | cons a l ih =>
    intro i x h
    cases i with
    | zero => show (x :: l).sum = _; simp [at0]; omega
    | succ i =>
      have := ih i x (by simpa using h)
      simp only [List.set_cons_succ, List.sum_cons, this]
      have : at0 (a :: l) (i + 1) = at0 l i := rfl
      rw [this]; omega

theorem sum_le : ∀ (l : List Int), (∀ a ∈ l, a ≤ 12) → l.sum ≤ 12 * l.length := by
  intro l
  induction l with
  | nil => intro _; simp
  | cons a l ih =>
    intro h
    have h1 := h a (by simp)
    have h2 := ih fun b hb => h b (by simp [hb])
    simp only [List.sum_cons, List.length_cons]
    omega

theorem Pulses_ok (k : Nat) (hk : 1000000 ≤ k) (u : List Int) (n : Int) : Ok (f_belfryref18_Pulses k u n) (fun r => Eight r.1.1) := by
  unfold f_belfryref18_Pulses
  refine Ok.obind (P := fun _ => True) ?_ fun y _ => ?_
  · obtain ⟨k', rfl⟩ : ∃ k', k = k' + 20 := ⟨k - 20, by omega⟩
    exact isSome_of (by kernel_rfl)
  · refine Ok.obind (P := fun r => Eight r.1) (Ok.iter (fun (x : Int × List Int × List Int × Unit) => Eight x.2.2.1) (fun x => (96 - x.2.2.1.sum).toNat) (fun x hx => ?_) ⟨by simp, by simp⟩ (by simp; omega)) fun r hr => Ok.ret hr
    obtain ⟨z, w, l, ⟨⟩⟩ := x
    obtain ⟨a1, a2⟩ := hx
    simp only at a1 a2 ⊢
    have hb : ∀ i : Int, 0 ≤ i → i < 8 → 0 ≤ at0 l i.toNat ∧ at0 l i.toNat ≤ 12 := fun i h1 h2 => a2 _ (at0_mem (by omega))
    refine Ok.obind (P := fun r => r.1 < 0 ∨ 0 ≤ r.1 ∧ r.1 < 8 ∧ at0 l r.1.toNat < 12) (Ok.iter (fun (x : Int × Int × Unit) => 0 ≤ x.2.1 ∧ x.2.1 ≤ 8 ∧ (x.1 < 0 ∨ 0 ≤ x.1 ∧ x.1 < 8 ∧ at0 l x.1.toNat < 12)) (fun x => (8 - x.2.1).toNat) (fun x hx => ?_) ⟨by simp, by simp, .inl (by simp)⟩ (by simp only; omega)) fun r hr => ?_
    · obtain ⟨best, i, ⟨⟩⟩ := x
      obtain ⟨b1, b2, b3⟩ := hx
      simp only at b1 b2 b3 ⊢
      refine Ok.brd (fun hi => ?_) fun hi => Ok.ret b3
      have hi' := hb i b1 hi
      refine Ok.obind (P := fun r => r.1 = true → at0 l i.toNat < 12) ?_ fun r hr => ?_
      · rw [chk_of _ b1, chk_of _ hi]
        simp only [lt_eq]
        refine Ok.brd (fun h12 => ?_) fun h12 => Ok.ret (fun h => by cases h)
        rw [w64_in (x := at0 l i.toNat + 1) (by omega) (by omega)]
        rw [chk_of _ b1, chk_of _ hi, chk_of _ (by omega), chk_of _ (by omega), chk_of _ b1, chk_of _ hi, chk_of _ (by omega), chk_of _ (by omega)]
        refine Ok.brd (fun hc => ?_) fun hc => Ok.ret (fun _ => h12)
        refine Ok.brd (fun hn => Ok.ret (fun _ => h12)) fun hn => ?_
        rcases b3 with b3 | ⟨b3, b4, b5⟩
        · omega
        · rw [chk_of _ b1, chk_of _ hi, chk_of _ b1, chk_of _ hi, chk_of _ b3, chk_of _ b4, chk_of _ b3, chk_of _ b4]
          exact Ok.ret fun _ => h12
      · refine Ok.obind (P := fun q => q.1 < 0 ∨ 0 ≤ q.1 ∧ q.1 < 8 ∧ at0 l q.1.toNat < 12) (Ok.br (fun h => Ok.ret (.inr ⟨b1, hi, hr h⟩)) fun _ => Ok.ret b3) fun q hq => ?_
        rw [lt_eq, w64_in (x := i + 1) (by omega) (by omega)]
        exact Ok.ret ⟨⟨by simp only; omega, by simp only; omega, hq⟩, by simp only; omega⟩
    · obtain ⟨best, ⟨⟩⟩ := r
      simp only at hr ⊢
      refine Ok.brd (fun _ => Ok.ret ⟨a1, a2⟩) fun hn => ?_
      rcases hr with hr | ⟨c1, c2, c3⟩
      · omega
      · have hi' := hb best c1 c2
        simp only [lt_eq]
        rw [w64_in (x := at0 l best.toNat + 1) (by omega) (by omega)]
        rw [chk_of _ c1, chk_of _ c2, chk_of _ (by omega), chk_of _ (by omega), chk_of _ c1, chk_of _ c2, chk_of _ (by omega), chk_of _ (by omega), chk_of _ c1, chk_of _ c2, chk_of _ c1, chk_of _ c2]
        refine Ok.ret ⟨⟨by simp [a1], fun a ha => ?_⟩, ?_⟩
        · rcases List.mem_or_eq_of_mem_set ha with h | h
          · exact a2 a h
          · omega
        · have h1 := sum_set l best.toNat (at0 l best.toNat + 1) (by omega)
          have h2 := sum_le (l.set best.toNat (at0 l best.toNat + 1)) (fun a ha => by
            rcases List.mem_or_eq_of_mem_set ha with h | h
            · exact (a2 a h).2
            · omega)
          simp only [List.length_set, a1] at h2
          simp only
          omega

end Go.Proofs.YthdojgehgcknmaaDoor
