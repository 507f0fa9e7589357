/-
  The law of the free band: whatever the other bands hold, a packet's own tag is the same.
-/
import Derived.Test.YthdojgehgcknmaaDoorP7
namespace Go.Proofs.YthdojgehgcknmaaDoor
open Go Go.Ev
set_option maxRecDepth 1000000

theorem own_small (x : Int) : 0 ≤ w64 (ibit .and .u64 x 7) ∧ w64 (ibit .and .u64 x 7) ≤ 7 := by
  have h : ((BitVec.ofInt IntKind.u64.bits x &&& BitVec.ofInt IntKind.u64.bits 7).toNat : Nat) ≤ 7 := by
    rw [BitVec.toNat_and]
    exact Nat.le_trans Nat.and_le_right (by decide)
  have e : ibit .and .u64 x 7 = ((BitVec.ofInt IntKind.u64.bits x &&& BitVec.ofInt IntKind.u64.bits 7).toNat : Int) := by
    show wu64 _ = _
    exact wu64_in (by omega) (by omega)
  rw [e, w64_in (by omega) (by omega)]
  omega

theorem br_f {α : Type} (x y : α) : br false x y = y := rfl

theorem low7 {c : Int} (h : 0 ≤ c ∧ c < 8) : ibit .and .i64 c 7 = c := by
  rcases others_cases h with rfl | rfl | rfl | rfl | rfl | rfl | rfl | rfl <;> decide

theorem awake_eq : f_belfrylaw23_awake 1000000 = some ((true, ()), ()) := by kernel_rfl

theorem others_take {b : Int} (hb : 0 ≤ b ∧ b < 8) (i : Nat) (hi : i < 6) : (others b).take (i + 1) = (others b).take i ++ [at0 (others b) i] := by
  rcases others_cases hb with rfl | rfl | rfl | rfl | rfl | rfl | rfl | rfl <;>
    (match i, hi with
     | 0, _ => decide
     | 1, _ => decide
     | 2, _ => decide
     | 3, _ => decide
     | 4, _ => decide
     | 5, _ => decide)
theorem others_6 {b : Int} (hb : 0 ≤ b ∧ b < 8) : b ∉ (others b).take 6 ∧ at0 (others b) 6 ∉ (others b).take 6 := by
  rcases others_cases hb with rfl | rfl | rfl | rfl | rfl | rfl | rfl | rfl <;> decide
theorem others_all {b : Int} (hb : 0 ≤ b ∧ b < 8) (c : Nat) (hc : c < 8) : (c : Int) ∈ (others b).take 6 ++ [b] ++ [at0 (others b) 6] := by
  rcases others_cases hb with rfl | rfl | rfl | rfl | rfl | rfl | rfl | rfl <;>
    (match c, hc with
     | 0, _ => decide
     | 1, _ => decide
     | 2, _ => decide
     | 3, _ => decide
     | 4, _ => decide
     | 5, _ => decide
     | 6, _ => decide
     | 7, _ => decide)

theorem true_belfrylaw23_TagFree (a0 : List Int) (a1 : Int) (a2 a3 a4 : List Int) (a5 : Int) (n0 : a0.length = 16) (w0 : ∀ a ∈ a0, InR .u8 a) (w1 : InR .u16 a1) (n2 : a2.length = 8) (w2 : ∀ a ∈ a2, InR .i64 a) (n3 : a3.length = 8) (w3 : ∀ a ∈ a3, InR .u32 a) (n4 : a4.length = 8) (w4 : ∀ a ∈ a4, InR .u32 a) (w5 : InR .u8 a5) : f_belfrylaw23_TagFree 1000000 a0 a1 a2 a3 a4 a5 = some ((true, ()), ()) := by
  have key : ∀ k, 1000000 ≤ k → f_belfrylaw23_awake k = some ((true, ()), ()) → Ok (f_belfrylaw23_TagFree k a0 a1 a2 a3 a4 a5) (fun r => r.1.1 = true) := by
    intro k hk haw
    unfold f_belfrylaw23_TagFree
    rw [haw, obind_eq]
    simp only [lt_eq, Bool.not_true, br_f]
    have u1 := u16_range.1 w1
    rw [w64_in (x := a1) (by omega) (by omega)]
    obtain ⟨⟨⟨s1, ⟨⟩⟩, ⟨⟩⟩, es1, hs1, _⟩ := Shape_ok k hk a2 a3 (w64 (12 + Int.tmod (w64 a5) 13)) w3
    obtain ⟨⟨⟨s2, ⟨⟩⟩, ⟨⟩⟩, es2, hs2, _⟩ := Shape_ok k hk a2 a4 (w64 (12 + Int.tmod (w64 a5) 13)) w4
    rw [es1, obind_eq, es2, obind_eq]
    obtain ⟨b, eb, hb⟩ := band_ex k hk a0 a1 (i64_range.2 (by omega))
    rw [tag_Bands_eq k hk a0 a1 b eb hb, obind_eq, eb]
    simp only [obind_eq]
    show Ok (obind (f_tag_Own k a0 (packet a1 s1)) _) _
    have hl1 := packet_length a1 hs1.1
    have hl2 := packet_length a1 hs2.1
    have hz1 := packet_0 a1 hs1.1
    have h9 : ∀ j, j < 9 → at0 (packet a1 s1) j = at0 (packet a1 s2) j := fun j hj => by
      match j with
      | 0 => rw [packet_0 a1 hs1.1, packet_0 a1 hs2.1]
      | j + 1 => rw [Nat.add_comm j 1, packet_at a1 hs1.1 (by omega), packet_at a1 hs2.1 (by omega), hs1.2 j (by omega), hs2.2 j (by omega)]
    have hown := tag_Own_eq k hk a0 (packet a1 s1) b (by rw [hz1]; exact eb) hb
    obtain ⟨⟨⟨sum, ⟨⟩⟩, ⟨⟩⟩, esum, _⟩ := sip_Sum_ok k hk a0 (ownText (at0 (packet a1 s1) 0) (cut (packet a1 s1) 1 8) (cut (packet a1 s1) (Int.toNat (9 + b * 4)) 4) (cut (packet a1 s1) (Int.toNat (9 + at0 (others b) 6 * 4)) 4)) (by rw [ownText_length]; omega)
    rw [esum, obind_eq] at hown
    rw [hown, obind_eq]
    refine Ok.obind (P := fun r => Mixed (packet a1 s1) (packet a1 s2) r.1 ((others b).take 6)) (Ok.iter (fun (x : Int × List Int × Unit) => 0 ≤ x.1 ∧ x.1 ≤ 6 ∧ Mixed (packet a1 s1) (packet a1 s2) x.2.1 ((others b).take x.1.toNat)) (fun x => (6 - x.1).toNat) (fun x hx => ?_) ⟨by simp, by simp, hl1, fun _ _ => rfl, fun c _ t _ => by rw [if_neg (by simp)]; rfl⟩ (by simp only; omega)) fun r hr => ?_
    · obtain ⟨i, q, ⟨⟩⟩ := x
      obtain ⟨b1, b2, b3⟩ := hx
      simp only at b1 b2 b3 ⊢
      refine Ok.brd (fun hi => ?_) fun hi => ?_
      · obtain ⟨o1, _⟩ := others_get hb i.toNat (by omega)
        rw [chk_of _ b1, chk_of _ (by omega), low7 o1, chk_of _ b1, chk_of _ (by omega), chk_of _ o1.1, chk_of _ o1.2, chk_of _ o1.1, chk_of _ o1.2, w64_in (x := i + 1) (by omega) (by omega)]
        refine Ok.ret ⟨⟨by simp only; omega, by simp only; omega, ?_⟩, by simp only; omega⟩
        have e : (i + 1).toNat = i.toNat + 1 := by omega
        simp only [e]
        rw [others_take hb _ (by omega)]
        exact b3.step hl2 o1
      · have : i.toNat = 6 := by omega
        rw [this] at b3
        exact Ok.ret b3
    · obtain ⟨q, ⟨⟩⟩ := r
      simp only at hr ⊢
      obtain ⟨o1, _⟩ := others_get hb 6 (by decide)
      obtain ⟨o2, o3⟩ := others_6 hb
      have hq0 : at0 q 0 = a1 := by rw [hr.2.1 0 (by omega), hz1]
      have hown' := tag_Own_eq k hk a0 q b (by rw [hq0]; exact eb) hb
      rw [hr.2.1 0 (by omega), hr.side hl1, hr.band hl1 hb o2, hr.band hl1 o1 o3, esum, obind_eq] at hown'
      rw [hown', obind_eq, chk_of _ hb.1, chk_of _ hb.2, chk_of _ hb.1, chk_of _ hb.2, low7 o1, chk_of _ o1.1, chk_of _ o1.2, chk_of _ o1.1, chk_of _ o1.2]
      have hall := ((hr.step hl2 hb).step hl2 o1).all hl2 h9 (others_all hb)
      obtain ⟨g1, g2⟩ := own_small sum
      rw [show paste (List.set (List.replicate 41 0) 0 a1) 1 s2 = packet a1 s2 from rfl, hall]
      simp only [beq_self_eq_true]
      show Ok (obind (br (decide (w64 (ibit .and .u64 sum 7) ≥ 0)) _ _) _) _
      rw [br_of _ _ g1, obind_eq]
      exact Ok.ret (by simp only [decide_eq_true_eq]; exact g2)
  obtain ⟨⟨⟨r, ⟨⟩⟩, ⟨⟩⟩, e, hr⟩ := key 1000000 (Nat.le_refl _) awake_eq
  simp only at hr
  rw [e, hr]

end Go.Proofs.YthdojgehgcknmaaDoor
