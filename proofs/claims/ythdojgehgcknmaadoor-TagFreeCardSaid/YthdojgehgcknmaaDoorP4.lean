/-
  Pulses of a band, and the shapes that they can be.
-/
import Derived.Test.YthdojgehgcknmaaDoorP3
namespace Go.Proofs.YthdojgehgcknmaaDoor
open Go Go.Ev
set_option maxRecDepth 1000000

def nextRow (r : List Int) : List Int := (List.range 13).map fun k => at0 r k + 2 * ((List.range k).map (at0 r)).sum
def rowOf : Nat → List Int
  | 0 => 1 :: List.replicate 12 0
  | n + 1 => nextRow (rowOf n)
def pvqT : List Int := ((List.range 9).map rowOf).flatten
/-- How many the numbers from p on count. -/
def rest (n left p : Nat) : Int := (((List.range 25).filter fun q => decide (p ≤ q ∧ q ≤ 2 * left)).map fun q => at0 pvqT (n * 13 + (left - (q + 1) / 2))).sum

theorem addz_eq (a b : Int) : addz a b = a + b := by
  unfold addz
  split
  · simp
  · rfl

theorem may_true (k : Nat) (n a : Int) (hn : 0 ≤ n ∧ n ≤ 8) (h : 0 ≤ a ∧ a ≤ 12) : f_pvq_may k n a = some ((true, ()), ()) := by
  unfold f_pvq_may
  rw [br_of _ _ (by omega), br_of _ _ (by omega), br_of _ _ (by omega), decide_eq_true (by omega)]
  rfl

theorem isSome_of {α : Type} {m : Option α} (h : m.isSome = true) : Ok m fun _ => True := by
  cases m with
  | none => cases h
  | some x => exact ⟨x, rfl, trivial⟩

def countOk (n a : Int) (m : Option ((Int × Unit) × Unit)) : Bool :=
  match m with
  | some ((x, ()), ()) => decide (x = at0 pvqT (Int.toNat (n * 13 + a)))
  | none => false
theorem countOk_eq {n a : Int} {m : Option ((Int × Unit) × Unit)} (h : countOk n a m = true) : m = some ((at0 pvqT (Int.toNat (n * 13 + a)), ()), ()) := by
  unfold countOk at h
  split at h
  · simp at h; rw [h]
  · cases h

theorem pvq_Count_4 (k : Nat) (hk : 1000000 ≤ k) (a : Int) (h : 0 ≤ a ∧ a ≤ 12) : f_pvq_Count k 4 a = some ((at0 pvqT (Int.toNat (4 * 13 + a)), ()), ()) := by
  obtain ⟨k', rfl⟩ : ∃ k', k = k' + 20 := ⟨k - 20, by omega⟩
  have : a = 0 ∨ a = 1 ∨ a = 2 ∨ a = 3 ∨ a = 4 ∨ a = 5 ∨ a = 6 ∨ a = 7 ∨ a = 8 ∨ a = 9 ∨ a = 10 ∨ a = 11 ∨ a = 12 := by omega
  rcases this with rfl | rfl | rfl | rfl | rfl | rfl | rfl | rfl | rfl | rfl | rfl | rfl | rfl <;> exact countOk_eq (by kernel_rfl)


def restOk : Bool := (List.range 4).all fun n => (List.range 13).all fun left =>
  decide (at0 pvqT ((n + 1) * 13 + left) = rest n left 0) && (decide (rest n left (2 * left + 1) = 0) &&
  (List.range (2 * left + 1)).all fun p => decide (rest n left p = at0 pvqT (n * 13 + (left - (p + 1) / 2)) + rest n left (p + 1)))
theorem restOk_true : restOk = true := by kernel_rfl
theorem rest_facts {n left : Nat} (hn : n < 4) (hl : left < 13) : at0 pvqT ((n + 1) * 13 + left) = rest n left 0 ∧ rest n left (2 * left + 1) = 0 ∧ ∀ p, p < 2 * left + 1 → rest n left p = at0 pvqT (n * 13 + (left - (p + 1) / 2)) + rest n left (p + 1) := by
  have h := restOk_true
  unfold restOk at h
  have h1 := List.all_eq_true.1 (List.all_eq_true.1 h n (List.mem_range.2 hn)) left (List.mem_range.2 hl)
  simp only [Bool.and_eq_true, decide_eq_true_eq] at h1
  refine ⟨h1.1, h1.2.1, fun p hp => ?_⟩
  have h2 := List.all_eq_true.1 h1.2.2 p (List.mem_range.2 hp)
  exact of_decide_eq_true h2

/-- The numbers, nearest to zero first. -/
def nums (n : Nat) : List Int := 0 :: ((List.range n).map fun (i : Nat) => [(i : Int) + 1, -((i : Int) + 1)]).flatten
theorem pvq_numbers_eq (k : Nat) (hk : 1000000 ≤ k) (a : Int) (h : 0 ≤ a ∧ a ≤ 12) : f_pvq_numbers k a = some ((nums a.toNat, ()), ()) := by
  obtain ⟨k', rfl⟩ : ∃ k', k = k' + 20 := ⟨k - 20, by omega⟩
  have : a = 0 ∨ a = 1 ∨ a = 2 ∨ a = 3 ∨ a = 4 ∨ a = 5 ∨ a = 6 ∨ a = 7 ∨ a = 8 ∨ a = 9 ∨ a = 10 ∨ a = 11 ∨ a = 12 := by omega
  rcases this with rfl | rfl | rfl | rfl | rfl | rfl | rfl | rfl | rfl | rfl | rfl | rfl | rfl <;> exact Eq.symm (by kernel_rfl)
def numsOk : Bool := (List.range 13).all fun n => decide ((nums n).length = 2 * n + 1) && (List.range (2 * n + 1)).all fun p => decide ((at0 (nums n) p).natAbs = (p + 1) / 2)
theorem numsOk_true : numsOk = true := by kernel_rfl
theorem nums_facts {n : Nat} (hn : n < 13) : (nums n).length = 2 * n + 1 ∧ ∀ p, p < 2 * n + 1 → (at0 (nums n) p).natAbs = (p + 1) / 2 := by
  have h := numsOk_true
  unfold numsOk at h
  have h1 := List.all_eq_true.1 h n (List.mem_range.2 hn)
  simp only [Bool.and_eq_true, decide_eq_true_eq] at h1
  exact ⟨h1.1, fun p hp => of_decide_eq_true (List.all_eq_true.1 h1.2 p (List.mem_range.2 hp))⟩

theorem pvq_size_eq (k : Nat) (x : Int) (h : x.natAbs ≤ 12) : f_pvq_size k x = some (((x.natAbs : Int), ()), ()) := by
  unfold f_pvq_size
  simp only [lt_eq]
  rw [br_not _ _ (by omega), decide_eq_false (by omega), w64_in (by omega) (by omega)]
  by_cases h1 : 0 - x > x
  · rw [if_pos h1]
    have : 0 - x = (x.natAbs : Int) := by omega
    rw [this]; rfl
  · rw [if_neg h1]
    have : x = (x.natAbs : Int) := by omega
    rw [← this]; rfl

/-- What a band's shape says. -/
def Shape4 (a : Int) (l : List Int) : Prop := l.length = 4 ∧ ((l.map Int.natAbs).sum : Int) = a

theorem pvqT_nn (i : Nat) : 0 ≤ at0 pvqT i := by
  have h : (pvqT.all fun x => decide (0 ≤ x)) = true := by kernel_rfl
  unfold at0
  rw [List.getD_eq_getElem?_getD]
  cases hi : pvqT[i]? with
  | none => exact Int.le_refl _
  | some x => exact of_decide_eq_true (List.all_eq_true.1 h x (List.mem_of_getElem? hi))

theorem pvqT_small (i : Nat) : at0 pvqT i ≤ 1000000000 := by
  have h : (pvqT.all fun x => decide (x ≤ 1000000000)) = true := by kernel_rfl
  unfold at0
  rw [List.getD_eq_getElem?_getD]
  cases hi : pvqT[i]? with
  | none => decide
  | some x => exact of_decide_eq_true (List.all_eq_true.1 h x (List.mem_of_getElem? hi))

theorem pvqT_zero {a : Nat} (h : a < 13) (h0 : 0 < at0 pvqT a) : a = 0 := by
  have h1 : ((List.range 13).all fun a => a == 0 || decide (at0 pvqT a ≤ 0)) = true := by kernel_rfl
  have h2 := List.all_eq_true.1 h1 a (List.mem_range.2 h)
  simp only [Bool.or_eq_true, beq_iff_eq, decide_eq_true_eq] at h2
  omega

theorem pvq_Vector_ok (k : Nat) (hk : 1000000 ≤ k) (a i : Int) (h : 0 ≤ a ∧ a ≤ 12) (hi : 0 ≤ i ∧ i < at0 pvqT (Int.toNat (4 * 13 + a))) : Ok (f_pvq_Vector k 4 a i) (fun r => r.1.2.1 = 0 ∧ Shape4 a r.1.1) := by
  unfold f_pvq_Vector
  rw [may_true k 4 a (by decide) h, obind_eq, br_not _ _ (by omega), pvq_Count_4 k hk a h, obind_eq, obind_eq, decide_eq_false (by simp only; omega)]
  show Ok (Go.Ev.lt _ _) _
  rw [lt_eq]
  refine Ok.obind (P := fun r => r.1 = pvqT) ?_ fun r hr => ?_
  · obtain ⟨k', rfl⟩ : ∃ k', k = k' + 20 := ⟨k - 20, by omega⟩
    exact ⟨(pvqT, ()), by kernel_rfl, rfl⟩
  · obtain ⟨t, ⟨⟩⟩ := r
    simp only at hr
    subst hr
    refine Ok.obind (P := fun r => Shape4 a r.1) (Ok.iter (fun (x : List Int × Int × Int × Int × Unit) => 0 ≤ x.2.1 ∧ x.2.1 ≤ 4 ∧ 0 ≤ x.2.2.1 ∧ x.2.2.1 ≤ 12 ∧ (x.1.length : Int) = x.2.1 ∧ ((x.1.map Int.natAbs).sum : Int) + x.2.2.1 = a ∧ 0 ≤ x.2.2.2.1 ∧ x.2.2.2.1 < at0 pvqT (Int.toNat ((4 - x.2.1) * 13 + x.2.2.1))) (fun x => (4 - x.2.1).toNat) (fun x hx => ?_) ⟨by simp, by simp, h.1, h.2, by simp, by simp, hi.1, hi.2⟩ (by simp only; omega)) fun r hr => Ok.ret ⟨rfl, hr⟩
    obtain ⟨l, at_, left, idx, ⟨⟩⟩ := x
    obtain ⟨a1, a2, a3, a4, a5, a6, a7, a8⟩ := hx
    simp only at a1 a2 a3 a4 a5 a6 a7 a8 ⊢
    refine Ok.brd (fun hat => ?_) fun hat => ?_
    · rw [pvq_numbers_eq k hk left ⟨a3, a4⟩, obind_eq]
      obtain ⟨n, hn⟩ : ∃ n : Nat, left = n := ⟨left.toNat, by omega⟩
      obtain ⟨m, hm⟩ : ∃ m : Nat, at_ = 3 - (m : Int) := ⟨(3 - at_).toNat, by omega⟩
      subst hn
      subst hm
      obtain ⟨f1, f2, f3⟩ := rest_facts (n := m) (left := n) (by omega) (by omega)
      obtain ⟨g1, g2⟩ := nums_facts (n := n) (by omega)
      have e1 : Int.toNat ((4 - (3 - (m : Int))) * 13 + (n : Int)) = (m + 1) * 13 + n := by omega
      rw [e1, f1] at a8
      have e2 : (n : Int).toNat = n := rfl
      simp only [e2, g1, lt_eq]
      rw [chk_of _ (by omega)]
      refine Ok.obind (P := fun r => ∃ p idx', r = .inl (p, idx', ()) ∧ 0 ≤ p ∧ p < 2 * (n : Int) + 1 ∧ 0 ≤ idx' ∧ idx' < at0 pvqT (m * 13 + (n - (p.toNat + 1) / 2))) (Ok.iter (fun (x : Int × Int × Unit) => 0 ≤ x.1 ∧ x.1 ≤ 2 * (n : Int) + 1 ∧ 0 ≤ x.2.1 ∧ x.2.1 < rest m n x.1.toNat ∧ x.2.1 ≤ 1000000000) (fun x => (2 * (n : Int) + 1 - x.1).toNat) (fun x hx => ?_) ⟨by simp, by simp only; omega, a7, a8, by simp only; have := pvqT_small ((m + 1) * 13 + n); omega⟩ (by simp only; omega)) fun r hr => ?_
      · obtain ⟨p, idx, ⟨⟩⟩ := x
        obtain ⟨b1, b2, b3, b4, b5⟩ := hx
        simp only at b1 b2 b3 b4 b5 ⊢
        refine Ok.brd (fun hp => ?_) fun hp => ?_
        · have g3 := g2 p.toNat (by omega)
          have f4 := f3 p.toNat (by omega)
          rw [chk_of _ b1, chk_of _ (by omega), pvq_size_eq k _ (by omega)]
          simp only [obind_eq]
          rw [w64_in (x := 4 - (3 - (m : Int))) (by omega) (by omega), w64_in (x := 4 - (3 - (m : Int)) - 1) (by omega) (by omega), w64_in (x := (n : Int) - ((at0 (nums n) p.toNat).natAbs : Int)) (by omega) (by omega), g3]
          rw [chk_of _ (by omega), chk_of _ (by omega), chk_of _ (by omega), chk_of _ (by omega)]
          have e3 : Int.toNat (addz ((4 - (3 - (m : Int)) - 1) * 13) ((n : Int) - ((p.toNat + 1) / 2 : Nat))) = m * 13 + (n - (p.toNat + 1) / 2) := by
            rw [addz_eq]
            omega
          rw [e3]
          have h5 := pvqT_nn (m * 13 + (n - (p.toNat + 1) / 2))
          have h6 := pvqT_small (m * 13 + (n - (p.toNat + 1) / 2))
          refine Ok.brd (fun hc => Ok.ret ⟨p, idx, rfl, b1, by omega, b3, hc⟩) fun hc => ?_
          rw [w64_in (x := p + 1) (by omega) (by omega), w64_in (x := idx - _) (by omega) (by omega)]
          have e4 : (p + 1).toNat = p.toNat + 1 := by omega
          exact Ok.ret ⟨⟨by simp only; omega, by simp only; omega, by simp only; omega, by simp only [e4]; omega, by simp only; omega⟩, by simp only; omega⟩
        · exfalso
          have : p.toNat = 2 * n + 1 := by omega
          rw [this, f2] at b4
          omega
      · obtain ⟨p, idx', rfl, c1, c2, c3, c4⟩ := hr
        have g3 := g2 p.toNat (by omega)
        show Ok (Go.Ev.chk _ _) _
        simp only [g1]
        rw [chk_of _ (by omega), chk_of _ (by omega), chk_of _ (by simp only [List.length_cons, List.length_nil]; omega), chk_of _ (by omega), chk_of _ (by omega), pvq_size_eq k _ (by omega)]
        simp only [obind_eq, g3]
        rw [w64_in (x := 3 - (m : Int) + 1) (by omega) (by omega), w64_in (x := (n : Int) - (((p.toNat + 1) / 2 : Nat) : Int)) (by omega) (by omega)]
        have e5 : Int.toNat ((4 - (3 - (m : Int) + 1)) * 13 + ((n : Int) - (((p.toNat + 1) / 2 : Nat) : Int))) = m * 13 + (n - (p.toNat + 1) / 2) := by omega
        refine Ok.ret ⟨⟨by simp only; omega, by simp only; omega, by simp only; omega, by simp only; omega, by simp only [List.length_append, List.length_cons, List.length_nil]; omega, ?_, c3, by simp only [e5]; exact c4⟩, by simp only; omega⟩
        simp only [List.map_append, List.map_cons, List.map_nil, List.sum_append, List.sum_cons, List.sum_nil, g3]
        omega
    · have h1 : at_ = 4 := by omega
      subst h1
      have h3 : l.length = 4 := by omega
      refine Ok.ret ⟨h3, ?_⟩
      have h2 := pvqT_zero (a := left.toNat) (by omega) (by
        have : Int.toNat ((4 - 4) * 13 + left) = left.toNat := by omega
        rw [this] at a8
        omega)
      show ((l.map Int.natAbs).sum : Int) = a
      omega

end Go.Proofs.YthdojgehgcknmaaDoor
