/-
  What a key makes of a frame's number.
-/
import Derived.Test.YthdojgehgcknmaaDoorP1
namespace Go.Proofs.YthdojgehgcknmaaDoor
open Go Go.Ev

theorem sip_Sum_ok (k : Nat) (hk : 1000000 ≤ k) (key s : List Int) (hs : s.length ≤ 100000) : Ok (f_sip_Sum k key s) (fun r => InR .u64 r.1.1) := by
  unfold f_sip_Sum
  obtain ⟨v1, e1, h1⟩ := sip_number_ok k hk (List.take 8 key) (by rw [List.length_take]; omega)
  rw [e1]
  simp only [obind_eq, lt_eq]
  obtain ⟨v2, e2, h2⟩ := sip_number_ok k hk (cut key 8 (Int.toNat 8)) (by unfold cut; rw [List.length_take]; simp; omega)
  obtain ⟨l, e3, h3, h4⟩ := sip_Words_ok k hk s hs
  have hw : ∀ z1 z2 z3 z4, InR .u64 z1 → InR .u64 z2 → InR .u64 z3 → InR .u64 z4 → Words4 ((((List.replicate 4 (0 : Int)).set 0 z1).set 1 z2).set 2 z3 |>.set 3 z4) := fun z1 z2 z3 z4 a b c d => by
    refine ⟨by simp, fun x hx => ?_⟩
    simp [List.replicate] at hx
    rcases hx with rfl | rfl | rfl | rfl <;> assumption
  rw [e2]
  simp only [obind_eq, lt_eq]
  rw [e3]
  simp only [obind_eq, lt_eq]
  rw [chk_of _ (by omega)]
  refine Ok.obind (P := fun r => Words4 r.1) (Ok.iter (fun (x : Int × List Int × Unit) => Words4 x.2.1 ∧ 0 ≤ x.1 ∧ x.1 ≤ l.length) (fun x => (l.length - x.1).toNat) (fun x hx => ?_) ⟨hw _ _ _ _ (ibit_mem _ _ _ _) (ibit_mem _ _ _ _) (ibit_mem _ _ _ _) (ibit_mem _ _ _ _), by simp, by simp⟩ (by simp only; omega)) fun r hr => ?_
  · obtain ⟨i, w, ⟨⟩⟩ := x
    obtain ⟨a1, a2, a3⟩ := hx
    simp only at a1 a2 a3 ⊢
    refine Ok.brd (fun hi => ?_) fun hi => Ok.ret a1
    rw [chk_of _ a2, chk_of _ hi]
    refine Ok.obind (P := fun r => Words4 r.1) (Ok.iter (fun (x : Int × List Int × Unit) => Words4 x.2.1 ∧ 0 ≤ x.1 ∧ x.1 ≤ 2) (fun x => (2 - x.1).toNat) (fun x hx => ?_) ⟨a1.set (ibit_mem _ _ _ _) _, by simp, by simp⟩ (by simp only; omega)) fun r hr => ?_
    · obtain ⟨j, u, ⟨⟩⟩ := x
      obtain ⟨b1, b2, b3⟩ := hx
      simp only at b1 b2 b3 ⊢
      refine Ok.brd (fun hj => ?_) fun hj => Ok.ret b1
      obtain ⟨u', e, hu⟩ := sip_round_ok k u b1
      rw [e]
      simp only [obind_eq]
      rw [w64_in (by omega) (by omega)]
      exact Ok.ret ⟨⟨hu, by simp only; omega, by simp only; omega⟩, by simp only; omega⟩
    · rw [w64_in (x := i + 1) (by omega) (by omega)]
      exact Ok.ret ⟨⟨hr.set (ibit_mem _ _ _ _) _, by simp only; omega, by simp only; omega⟩, by simp only; omega⟩
  · refine Ok.obind (P := fun r => Words4 r.1) (Ok.iter (fun (x : Int × List Int × Unit) => Words4 x.2.1 ∧ 0 ≤ x.1 ∧ x.1 ≤ 4) (fun x => (4 - x.1).toNat) (fun x hx => ?_) ⟨hr.set (ibit_mem _ _ _ _) _, by simp, by simp⟩ (by simp only; omega)) fun r hr => ?_
    · obtain ⟨j, u, ⟨⟩⟩ := x
      obtain ⟨b1, b2, b3⟩ := hx
      simp only at b1 b2 b3 ⊢
      refine Ok.brd (fun hj => ?_) fun hj => Ok.ret b1
      obtain ⟨u', e, hu⟩ := sip_round_ok k u b1
      rw [e]
      simp only [obind_eq]
      rw [w64_in (by omega) (by omega)]
      exact Ok.ret ⟨⟨hu, by simp only; omega, by simp only; omega⟩, by simp only; omega⟩
    · exact Ok.ret (by simp only; exact ibit_mem _ _ _ _)

theorem keyed_Frame_eq (k : Nat) (a : Int) (ha : InR .i64 a) : f_keyed_Frame k a = some ((a % 1016, ()), ()) := by
  rw [i64_range] at ha
  have h1 := tmod_bounds a (b := 1016) (by decide)
  unfold f_keyed_Frame
  simp only [lt_eq]
  rw [w64_in (by omega) (by omega), tmod_pos (by omega)]
  have : (Int.tmod a 1016 + 1016) % 1016 = a % 1016 := by
    rw [Int.add_emod_right]
    rw [Int.tmod_def, Int.sub_emod, Int.mul_emod_right]
    simp
  rw [this]

theorem keyed_Num_ok (k : Nat) (hk : 1000000 ≤ k) (key : List Int) (sign n : Int) : Ok (f_keyed_Num k key sign n) (fun r => InR .u64 r.1.1) := by
  unfold f_keyed_Num
  refine Ok.obind (P := fun r => r.1.length ≤ 9) (Ok.iter (fun (x : List Int × Int × Unit) => 0 ≤ x.2.1 ∧ x.2.1 ≤ 8 ∧ x.1.length = (x.2.1 + 1).toNat) (fun x => (8 - x.2.1).toNat) (fun x hx => ?_) ⟨by simp, by simp, by simp⟩ (by simp only; omega)) fun r hr => ?_
  · obtain ⟨l, i, ⟨⟩⟩ := x
    obtain ⟨a1, a2, a3⟩ := hx
    simp only at a1 a2 a3 ⊢
    refine Ok.brd (fun hi => ?_) fun hi => Ok.ret (by show l.length ≤ 9; omega)
    simp only [lt_eq]
    rw [w64_in (x := 8 * i) (by omega) (by omega), chk_of _ (by omega), chk_of _ (by simp only [List.length_cons, List.length_nil]; omega), w64_in (x := i + 1) (by omega) (by omega)]
    exact Ok.ret ⟨⟨by simp only; omega, by simp only; omega, by simp only [List.length_append, List.length_cons, List.length_nil]; omega⟩, by simp only; omega⟩
  · exact Ok.obind (sip_Sum_ok k hk key r.1 (by omega)) fun r hr => Ok.ret hr

/-- so many things, each a number below n -/
def Things (n : Int) (l : List Int) : Prop := (l.length : Int) = n ∧ ∀ a ∈ l, 0 ≤ a ∧ a < n

theorem Things.at {n : Int} {l : List Int} (h : Things n l) {i : Nat} (hi : (i : Int) < n) : 0 ≤ at0 l i ∧ at0 l i < n := by
  have hl : i < l.length := by have := h.1; omega
  unfold at0
  rw [List.getD_eq_getElem?_getD, List.getElem?_eq_getElem hl]
  exact h.2 _ (List.getElem_mem hl)
theorem Things.set {n : Int} {l : List Int} (h : Things n l) {x : Int} (hx : 0 ≤ x ∧ x < n) (i : Nat) : Things n (l.set i x) := by
  refine ⟨by rw [List.length_set]; exact h.1, fun a ha => ?_⟩
  rcases List.mem_or_eq_of_mem_set ha with h1 | h1
  · exact h.2 a h1
  · rw [h1]; exact hx

theorem keyed_Order_ok (k : Nat) (hk : 1000000 ≤ k) (key : List Int) (sign n : Int) (hn : 1 ≤ n ∧ n ≤ 256) : Ok (f_keyed_Order k key sign n) (fun r => Things n r.1.1) := by
  unfold f_keyed_Order
  rw [br_not _ _ (by omega), obind_eq]
  rw [show decide (n > 256) = false from decide_eq_false (by omega)]
  have hl : (List.length (List.replicate (Int.toNat n) (0 : Int)) : Int) = n := by simp; omega
  refine Ok.chk (by omega) (Ok.chk (by omega) (Ok.chk (by omega) (Ok.lt ?_)))
  rw [hl]
  refine Ok.obind (P := fun r => Things n r.1) (Ok.iter (fun (x : Int × List Int × Unit) => Things n x.2.1 ∧ 0 ≤ x.1 ∧ x.1 ≤ n) (fun x => (n - x.1).toNat) (fun x hx => ?_) ⟨⟨hl, fun a ha => ?_⟩, by simp, by simp only; omega⟩ (by simp only; omega)) fun r hr => ?_
  · obtain ⟨i, l, ⟨⟩⟩ := x
    obtain ⟨a1, a2, a3⟩ := hx
    simp only at a1 a2 a3 ⊢
    refine Ok.brd (fun hi => Ok.chk a2 (Ok.chk (by rw [a1.1]; exact hi) (Ok.lt ?_))) fun hi => Ok.ret a1
    rw [lt_eq, w64_in (by omega) (by omega)]
    exact Ok.ret ⟨⟨a1.set ⟨a2, hi⟩ _, by simp only; omega, by simp only; omega⟩, by simp only; omega⟩
  · rw [List.mem_replicate] at ha
    omega
  · rw [lt_eq, w64_in (by omega) (by omega)]
    refine Ok.obind (P := fun r => Things n r.1) (Ok.iter (fun (x : Int × List Int × Unit) => Things n x.2.1 ∧ 0 ≤ x.1 ∧ x.1 < n) (fun x => x.1.toNat) (fun x hx => ?_) ⟨hr, by simp only; omega, by simp only; omega⟩ (by simp only; omega)) fun r hr => Ok.ret hr
    obtain ⟨i, l, ⟨⟩⟩ := x
    obtain ⟨a1, a2, a3⟩ := hx
    simp only at a1 a2 a3 ⊢
    refine Ok.brd (fun hi => Ok.obind (keyed_Num_ok k hk key sign i) fun v hv => ?_) fun hi => Ok.ret a1
    rw [u64_range] at hv
    simp only [lt_eq]
    rw [w64_in (x := i + 1) (by omega) (by omega), wu64_in (x := i + 1) (by omega) (by omega), tmod_pos (a := v.1.1) (by omega)]
    have h1 : 0 ≤ v.1.1 % (i + 1) := Int.emod_nonneg _ (by omega)
    have h2 : v.1.1 % (i + 1) < i + 1 := Int.emod_lt_of_pos _ (by omega)
    rw [w64_in (x := v.1.1 % (i + 1)) (by omega) (by omega), w64_in (x := i - 1) (by omega) (by omega)]
    have e1 := a1.1
    have hx1 := a1.at (i := (v.1.1 % (i + 1)).toNat) (by omega)
    have hx2 := a1.at (i := i.toNat) (by omega)
    have s1 := a1.set hx1 i.toNat
    have s2 := s1.set hx2 (v.1.1 % (i + 1)).toNat
    refine Ok.chk (by omega) (Ok.chk h1 (Ok.chk (by omega) (Ok.chk a2 (Ok.chk (by omega) (Ok.chk a2 (Ok.chk (by omega) (Ok.chk h1 (Ok.chk (by rw [s1.1]; omega) (Ok.ret ?_)))))))))
    exact ⟨⟨s2, by simp only; omega, by simp only; omega⟩, by simp only; omega⟩

theorem keyed_Band_ok (k : Nat) (hk : 1000000 ≤ k) (key : List Int) (frame : Int) (hf : InR .i64 frame) : Ok (f_keyed_Band k key frame) (fun r => 0 ≤ r.1.1 ∧ r.1.1 < 8) := by
  unfold f_keyed_Band
  rw [keyed_Frame_eq k frame hf, obind_eq]
  have h1 : 0 ≤ frame % 1016 := Int.emod_nonneg _ (by decide)
  simp only [lt_eq]
  refine Ok.obind (keyed_Order_ok k hk key _ 8 (by decide)) fun r hr => ?_
  rw [tmod_pos h1]
  refine Ok.chk (by omega) (Ok.chk (by rw [hr.1]; omega) (Ok.ret ?_))
  exact hr.at (by omega)

end Go.Proofs.YthdojgehgcknmaaDoor
