/-
  The keyed sum: it answers, whatever it is asked.
-/
import Derived.Test.YthdojgehgcknmaaDoorM11
import Derived.Test.YthdojgehgcknmaaDoorSh
namespace Go.Proofs.YthdojgehgcknmaaDoor
open Go Go.Ev

theorem sip_Turn_ok (k : Nat) (x n : Int) (hx : InR .u64 x) : ∃ v, f_sip_Turn k x n = some ((v, ()), ()) ∧ InR .u64 v := by
  have h1 := tmod_bounds n (b := 64) (by decide)
  unfold f_sip_Turn
  simp only [lt_eq]
  rw [w64_in (x := Int.tmod n 64 + 64) (by omega) (by omega)]
  have h2 := tmod_pos (a := Int.tmod n 64 + 64) (b := 64) (by omega)
  rw [h2]
  have h3 : 0 ≤ (Int.tmod n 64 + 64) % 64 := Int.emod_nonneg _ (by decide)
  have h4 : (Int.tmod n 64 + 64) % 64 < 64 := Int.emod_lt_of_pos _ (by decide)
  rw [chk_of _ h3, w64_in (x := 64 - (Int.tmod n 64 + 64) % 64) (by omega) (by omega), chk_of _ (by omega)]
  exact ⟨_, rfl, ibit_mem _ _ _ _⟩

/-- Four words. -/
def Words4 (l : List Int) : Prop := l.length = 4 ∧ ∀ a ∈ l, InR .u64 a

theorem Words4.set {l : List Int} (h : Words4 l) {x : Int} (hx : InR .u64 x) (i : Nat) : Words4 (l.set i x) := ⟨by rw [List.length_set]; exact h.1, set_mem h.2 hx i⟩
theorem Words4.at {l : List Int} (h : Words4 l) (i : Nat) : InR .u64 (at0 l i) := at0_in h.2 i

theorem sip_mix_ok (k : Nat) (l : List Int) (a b n : Int) (hl : Words4 l) (ha : 0 ≤ a ∧ a < 4) (hb : 0 ≤ b ∧ b < 4) : ∃ l', f_sip_state_mix k l a b n = some ((), l', ()) ∧ Words4 l' := by
  unfold f_sip_state_mix
  simp only [lt_eq, chk_of _ ha.1, chk_of _ ha.2, chk_of _ hb.1, chk_of _ hb.2]
  have h1 : Words4 (List.set l a.toNat (wu64 (at0 l a.toNat + at0 l b.toNat))) := hl.set (wu64_mem _) _
  obtain ⟨v, e, _⟩ := sip_Turn_ok k (at0 (List.set l a.toNat (wu64 (at0 l a.toNat + at0 l b.toNat))) b.toNat) n (h1.at _)
  rw [e]
  exact ⟨_, rfl, h1.set (ibit_mem _ _ _ _) _⟩

theorem sip_round_ok (k : Nat) (l : List Int) (hl : Words4 l) : ∃ l', f_sip_state_round k l = some ((), l', ()) ∧ Words4 l' := by
  unfold f_sip_state_round
  obtain ⟨l1, e1, h1⟩ := sip_mix_ok k l 0 1 13 hl (by decide) (by decide)
  rw [e1]
  simp only [obind_eq, lt_eq]
  obtain ⟨v2, e2, h2⟩ := sip_Turn_ok k (at0 l1 0) 32 (h1.at _)
  rw [e2]
  simp only [obind_eq]
  obtain ⟨l3, e3, h3⟩ := sip_mix_ok k (List.set l1 0 v2) 2 3 16 (h1.set h2 _) (by decide) (by decide)
  rw [e3]
  simp only [obind_eq]
  obtain ⟨l4, e4, h4⟩ := sip_mix_ok k l3 0 3 21 h3 (by decide) (by decide)
  rw [e4]
  simp only [obind_eq]
  obtain ⟨l5, e5, h5⟩ := sip_mix_ok k l4 2 1 17 h4 (by decide) (by decide)
  rw [e5]
  simp only [obind_eq]
  obtain ⟨v6, e6, h6⟩ := sip_Turn_ok k (at0 l5 2) 32 (h5.at _)
  rw [e6]
  exact ⟨_, rfl, h5.set h6 _⟩

theorem sip_number_ok (k : Nat) (hk : 1000000 ≤ k) (s : List Int) (hs : s.length ≤ 8) : ∃ v, f_sip_number k s = some ((v, ()), ()) ∧ InR .u64 v := by
  unfold f_sip_number
  rw [chk_of _ (by omega), lt_eq]
  obtain ⟨r, e, hr⟩ := iter_rule (f := fun (x : Int × Int × Unit) =>
            br (decide (x.2.1 < (↑(List.length s) : Int)))
              (chk (decide (0 ≤ x.2.1))
                (chk (decide (x.2.1 < (↑(List.length s) : Int)))
                  (lt (at0 s (Int.toNat (x.2.1))) fun z_1 =>
                    lt (wu64 z_1) fun z_2 =>
                      lt (w64 (8 * x.2.1)) fun z_3 =>
                        chk (decide (0 ≤ z_3))
                          (lt (ishl IntKind.u64 z_2 z_3) fun z_4 =>
                            lt (ibit BinOp.or IntKind.u64 (x.1) z_4) fun z_5 =>
                              lt (w64 (x.2.1 + 1)) fun z =>
                                some (Sum.inl (z_5, z, ()))))))
              (some (Sum.inr (x.1, ())))) (fun x => InR .u64 x.1 ∧ 0 ≤ x.2.1 ∧ x.2.1 ≤ s.length) (fun r => InR .u64 r.1) (fun x => (s.length - x.2.1).toNat) (fun x hx => by
      obtain ⟨a, i, ⟨⟩⟩ := x
      obtain ⟨h1, h2, h3⟩ := hx
      simp only at h1 h2 h3 ⊢
      by_cases hi : i < (↑(List.length s) : Int)
      · left
        rw [br_of _ _ hi, chk_of _ h2, chk_of _ hi]
        simp only [lt_eq]
        rw [w64_in (x := 8 * i) (by omega) (by omega), chk_of _ (by omega), w64_in (x := i + 1) (by omega) (by omega)]
        exact ⟨_, rfl, ⟨by simp only; exact ibit_mem _ _ _ _, by simp only; omega, by simp only; omega⟩, by simp only; omega⟩
      · right
        rw [br_not _ _ hi]
        exact ⟨_, rfl, h1⟩) k (0, 0, ()) ⟨u64_range.2 (by simp), by simp, by simp⟩ (by simp only; omega)
  rw [e]
  exact ⟨_, rfl, hr⟩

theorem sip_Words_ok (k : Nat) (hk : 1000000 ≤ k) (s : List Int) (hs : s.length ≤ 100000) : ∃ l, f_sip_Words k s = some ((l, ()), ()) ∧ (∀ a ∈ l, InR .u64 a) ∧ l.length ≤ s.length + 1 := by
  unfold f_sip_Words
  rw [chk_of _ (by omega)]
  simp only [lt_eq]
  obtain ⟨r, e, h1, h2, h3⟩ := iter_rule (f := fun (x : List Int × List Int × Unit) =>
                chk (decide (List.length (x.1) ≤ 4611686018427387904))
                    (br (decide ((↑(List.length (x.1)) : Int) ≥ 8))
                      (chk (decide (8 ≤ (↑(List.length (x.1)) : Int)))
                          (obind (f_sip_number k (List.take 8 (x.1))) fun (y : (Int × Unit) × Unit) =>
                            chk
                              (decide
                                (List.length (x.2.1) + List.length [y.1.1] ≤
                                  10000000000))
                                (chk (decide (8 ≤ (↑(List.length (x.1)) : Int)))
                                  (chk
                                    (decide ((↑(List.length (x.1)) : Int) ≤ (↑(List.length (x.1)) : Int)))
                                    (some (Sum.inl (List.drop 8 (x.1), x.2.1 ++ [y.1.1], ())))))))
                      (some (Sum.inr (x.1, x.2.1, ())))))
      (fun x => (∀ a ∈ x.2.1, InR .u64 a) ∧ x.1.length + x.2.1.length ≤ s.length) (fun r => r.1.length < 8 ∧ (∀ a ∈ r.2.1, InR .u64 a) ∧ r.2.1.length ≤ s.length) (fun x => x.1.length) (fun x hx => by
      obtain ⟨a, l, ⟨⟩⟩ := x
      obtain ⟨h1, h2⟩ := hx
      simp only at h1 h2 ⊢
      rw [chk_of _ (by omega)]
      by_cases hi : (↑(List.length a) : Int) ≥ 8
      · left
        rw [br_of _ _ hi, chk_of _ (by omega)]
        obtain ⟨v, e, hv⟩ := sip_number_ok k hk (List.take 8 a) (by rw [List.length_take]; omega)
        rw [e]
        simp only [obind_eq]
        rw [chk_of _ (by simp only [List.length_cons, List.length_nil]; omega), chk_of _ (by omega), chk_of _ (by omega)]
        refine ⟨_, rfl, ⟨append_mem h1 (by simpa using hv), ?_⟩, ?_⟩
        · simp only [List.length_append, List.length_drop, List.length_cons, List.length_nil]; omega
        · simp only [List.length_drop]; omega
      · right
        rw [br_not _ _ hi]
        exact ⟨_, rfl, by simp only; omega, h1, by simp only; omega⟩) k (s, [], ()) ⟨by simp, by simp⟩ (by simp only; omega)
  rw [e]
  simp only [obind_eq]
  obtain ⟨v, e2, hv⟩ := sip_number_ok k hk r.1 (by omega)
  rw [e2]
  simp only [obind_eq]
  rw [chk_of _ (by simp only [List.length_cons, List.length_nil]; omega)]
  exact ⟨_, rfl, append_mem h2 (by simpa using ibit_mem _ _ _ _), by simp only [List.length_append, List.length_cons, List.length_nil]; omega⟩

end Go.Proofs.YthdojgehgcknmaaDoor
