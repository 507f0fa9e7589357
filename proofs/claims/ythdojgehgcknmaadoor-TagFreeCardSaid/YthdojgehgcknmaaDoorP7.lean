/-
  A packet's tags hang on its own band and on its free band alone.
-/
import Derived.Test.YthdojgehgcknmaaDoorP6
namespace Go.Proofs.YthdojgehgcknmaaDoor
open Go Go.Ev
set_option maxRecDepth 1000000

theorem at0_eq {l : List Int} {i : Nat} (h : i < l.length) : at0 l i = l[i] := by
  unfold at0
  rw [List.getD_eq_getElem?_getD, List.getElem?_eq_getElem h]
  rfl
theorem ext_at0 {l r : List Int} (h : l.length = r.length) (he : ∀ i, i < l.length → at0 l i = at0 r i) : l = r := by
  refine List.ext_getElem h fun i h1 h2 => ?_
  rw [← at0_eq h1, ← at0_eq h2]
  exact he i h1
theorem paste_length {l r : List Int} {i : Nat} (h : i + r.length ≤ l.length) : (paste l i r).length = l.length := by
  unfold paste
  simp only [List.length_append, List.length_take, List.length_drop]
  omega
theorem at0_append_left {l r : List Int} {j : Nat} (h : j < l.length) : at0 (l ++ r) j = at0 l j := by
  unfold at0
  rw [List.getD_eq_getElem?_getD, List.getD_eq_getElem?_getD, List.getElem?_append_left h]
theorem at0_append_right {l r : List Int} {j : Nat} (h : l.length ≤ j) : at0 (l ++ r) j = at0 r (j - l.length) := by
  unfold at0
  rw [List.getD_eq_getElem?_getD, List.getD_eq_getElem?_getD, List.getElem?_append_right h]
theorem at0_take {l : List Int} {n j : Nat} (h : j < n) : at0 (l.take n) j = at0 l j := by
  unfold at0
  rw [List.getD_eq_getElem?_getD, List.getD_eq_getElem?_getD, List.getElem?_take_of_lt h]
theorem at0_drop {l : List Int} {n j : Nat} : at0 (l.drop n) j = at0 l (n + j) := by
  unfold at0
  rw [List.getD_eq_getElem?_getD, List.getD_eq_getElem?_getD, List.getElem?_drop]
theorem at0_paste_in {l r : List Int} {i j : Nat} (h : i + r.length ≤ l.length) (h1 : i ≤ j) (h2 : j < i + r.length) : at0 (paste l i r) j = at0 r (j - i) := by
  unfold paste
  have e : (l.take i).length = i := by rw [List.length_take]; omega
  rw [at0_append_left (by simp only [List.length_append, e]; omega), at0_append_right (by omega), e]
theorem at0_paste_out {l r : List Int} {i j : Nat} (h : i + r.length ≤ l.length) (h1 : j < i ∨ i + r.length ≤ j) : at0 (paste l i r) j = at0 l j := by
  unfold paste
  have e : (l.take i).length = i := by rw [List.length_take]; omega
  by_cases h2 : j < i
  · rw [at0_append_left (by simp only [List.length_append, e]; omega), at0_append_left (by omega), at0_take h2]
  · rw [at0_append_right (by simp only [List.length_append, e]; omega), at0_drop]
    simp only [List.length_append, e]
    have : i + r.length + (j - (i + r.length)) = j := by omega
    rw [this]
theorem at0_cut {l : List Int} {i n j : Nat} (h : j < n) : at0 (cut l i n) j = at0 l (i + j) := by
  unfold cut
  rw [at0_take h, at0_drop]
theorem cut_length {l : List Int} {i n : Nat} (h : i + n ≤ l.length) : (cut l i n).length = n := by
  unfold cut
  rw [List.length_take, List.length_drop]
  omega

/-- q is p where the bands in S are r's -/
def Mixed (p r q : List Int) (S : List Int) : Prop := q.length = 41 ∧ (∀ j, j < 9 → at0 q j = at0 p j) ∧ ∀ c : Nat, c < 8 → ∀ t, t < 4 → at0 q (9 + (4 * c + t)) = if (c : Int) ∈ S then at0 r (9 + (4 * c + t)) else at0 p (9 + (4 * c + t))

theorem Mixed.step {p r q S} (h : Mixed p r q S) (hr : r.length = 41) {c : Int} (hc : 0 ≤ c ∧ c < 8) : Mixed p r (paste q (Int.toNat (9 + c * 4)) (cut r (Int.toNat (9 + c * 4)) 4)) (S ++ [c]) := by
  obtain ⟨h1, h2, h3⟩ := h
  obtain ⟨n, rfl⟩ : ∃ n : Nat, c = n := ⟨c.toNat, by omega⟩
  have e : Int.toNat (9 + (n : Int) * 4) = 9 + 4 * n := by omega
  have el : (cut r (9 + 4 * n) 4).length = 4 := cut_length (by omega)
  rw [e]
  refine ⟨?_, fun j hj => ?_, fun d hd t ht => ?_⟩
  · rw [paste_length (by omega), h1]
  · rw [at0_paste_out (by omega) (by omega), h2 j hj]
  · by_cases hdn : d = n
    · subst hdn
      rw [at0_paste_in (by omega) (by omega) (by omega), if_pos (by simp), at0_cut (by omega)]
      congr 1
      omega
    · rw [at0_paste_out (by omega) (by omega), h3 d hd t ht]
      have : ((d : Int) ∈ S ++ [(n : Int)]) ↔ (d : Int) ∈ S := by
        simp; intro h; omega
      simp only [this]

theorem Mixed.all {p r q S} (h : Mixed p r q S) (hr : r.length = 41) (hp : ∀ j, j < 9 → at0 p j = at0 r j) (hS : ∀ c : Nat, c < 8 → (c : Int) ∈ S) : q = r := by
  obtain ⟨h1, h2, h3⟩ := h
  refine ext_at0 (by omega) fun i hi => ?_
  by_cases h9 : i < 9
  · rw [h2 i h9, hp i h9]
  · have h4 := h3 ((i - 9) / 4) (by omega) ((i - 9) % 4) (by omega)
    rw [if_pos (hS _ (by omega))] at h4
    have : 9 + (4 * ((i - 9) / 4) + (i - 9) % 4) = i := by omega
    rw [this] at h4
    exact h4

theorem Mixed.side {p r q S} (h : Mixed p r q S) (hp : p.length = 41) : cut q 1 8 = cut p 1 8 := by
  obtain ⟨h1, h2, h3⟩ := h
  refine ext_at0 (by rw [cut_length (by omega), cut_length (by omega)]) fun i hi => ?_
  rw [cut_length (by omega)] at hi
  rw [at0_cut hi, at0_cut hi, h2 _ (by omega)]
theorem Mixed.band {p r q S} (h : Mixed p r q S) (hp : p.length = 41) {c : Int} (hc : 0 ≤ c ∧ c < 8) (hn : c ∉ S) : cut q (Int.toNat (9 + c * 4)) 4 = cut p (Int.toNat (9 + c * 4)) 4 := by
  obtain ⟨h1, h2, h3⟩ := h
  obtain ⟨n, rfl⟩ : ∃ n : Nat, c = n := ⟨c.toNat, by omega⟩
  have e : Int.toNat (9 + (n : Int) * 4) = 9 + 4 * n := by omega
  rw [e]
  refine ext_at0 (by rw [cut_length (by omega), cut_length (by omega)]) fun i hi => ?_
  rw [cut_length (by omega)] at hi
  rw [at0_cut hi, at0_cut hi]
  have h4 := h3 n (by omega) i hi
  rw [if_neg hn] at h4
  have : 9 + 4 * n + i = 9 + (4 * n + i) := by omega
  rw [this]
  exact h4

/-- A packet: its frame, its sides, its bands. -/
def packet (f : Int) (s : List Int) : List Int := paste ((List.replicate 41 (0 : Int)).set 0 f) 1 s
theorem packet_length (f : Int) {s : List Int} (h : s.length = 40) : (packet f s).length = 41 := by
  unfold packet
  rw [paste_length (by simp [h])]
  simp
theorem packet_0 (f : Int) {s : List Int} (h : s.length = 40) : at0 (packet f s) 0 = f := by
  unfold packet
  rw [at0_paste_out (by simp [h]) (by omega), at0_set_eq _ (by simp)]
theorem packet_at (f : Int) {s : List Int} (h : s.length = 40) {i : Nat} (hi : i < 40) : at0 (packet f s) (1 + i) = at0 s i := by
  unfold packet
  rw [at0_paste_in (by simp [h]) (by omega) (by omega)]
  congr 1
  omega

end Go.Proofs.YthdojgehgcknmaaDoor
