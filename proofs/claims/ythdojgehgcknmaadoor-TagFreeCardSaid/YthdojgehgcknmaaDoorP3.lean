/-
  The tags' bands, and the tags of a packet itself.
-/
import Derived.Test.YthdojgehgcknmaaDoorP2
namespace Go.Proofs.YthdojgehgcknmaaDoor
open Go Go.Ev

/-- The bands that aren't a frame's own, in order. -/
def others (b : Int) : List Int := [0, 1, 2, 3, 4, 5, 6, 7].filter (· != b)

theorem others_cases {b : Int} (h : 0 ≤ b ∧ b < 8) : b = 0 ∨ b = 1 ∨ b = 2 ∨ b = 3 ∨ b = 4 ∨ b = 5 ∨ b = 6 ∨ b = 7 := by omega

/-- The band that a key gives a frame. -/
theorem band_ex (k : Nat) (hk : 1000000 ≤ k) (key : List Int) (frame : Int) (hf : InR .i64 frame) : ∃ b, f_keyed_Band k key frame = some ((b, ()), ()) ∧ 0 ≤ b ∧ b < 8 := by
  obtain ⟨r, e, h⟩ := keyed_Band_ok k hk key frame hf
  exact ⟨r.1.1, e, h⟩

theorem tag_Bands_eq (k : Nat) (hk : 1000000 ≤ k) (key : List Int) (frame b : Int) (he : f_keyed_Band k key frame = some ((b, ()), ())) (hb : 0 ≤ b ∧ b < 8) :
    f_tag_Bands k key frame = some ((others b, ()), ()) := by
  unfold f_tag_Bands
  rw [he, obind_eq]
  have key : ∀ (b : Int), 0 ≤ b ∧ b < 8 → iter k (fun (x : Int × Int × List Int × Unit) =>
          br (decide (x.2.1 < 8))
            (obind
              (br (x.2.1 != b)
                (chk (decide (0 ≤ x.1))
                  (chk (decide (x.1 < 7))
                    (lt (List.set (x.2.2.1) (Int.toNat (x.1)) (x.2.1)) fun l' =>
                      lt (w64 (x.1 + 1)) fun z =>
                        some (z, l', ()))))
                (some (x.1, x.2.2.1, ())))
              fun (y_1 : Int × List Int × Unit) =>
              lt (w64 (x.2.1 + 1)) fun z =>
                some (Sum.inl (y_1.1, z, y_1.2.1, ())))
            (some (Sum.inr (x.2.2.1, ())))) (0, 0, List.replicate 7 (0 : Int), ()) = some (others b, ()) := by
    intro b hb
    obtain ⟨k', rfl⟩ : ∃ k', k = k' + 10 := ⟨k - 10, by omega⟩
    rcases others_cases hb with rfl | rfl | rfl | rfl | rfl | rfl | rfl | rfl <;> rfl
  rw [key b hb]
  rfl

theorem others_get {b : Int} (hb : 0 ≤ b ∧ b < 8) (i : Nat) (hi : i < 7) : (0 ≤ at0 (others b) i ∧ at0 (others b) i < 8) ∧ at0 (others b) i ≠ b := by
  rcases others_cases hb with rfl | rfl | rfl | rfl | rfl | rfl | rfl | rfl <;>
    (match i, hi with
     | 0, _ => decide
     | 1, _ => decide
     | 2, _ => decide
     | 3, _ => decide
     | 4, _ => decide
     | 5, _ => decide
     | 6, _ => decide)

/-- A band's pulses' bytes. -/
def pulseBytes (y : List Int) : List Int := (List.range 4).map fun i => IntKind.u8.wrap (w64 (at0 y i + 128))

theorem tag_bytes_eq (k : Nat) (hk : 1000000 ≤ k) (y : List Int) : f_tag_bytes k y = some ((pulseBytes y, ()), ()) := by
  unfold f_tag_bytes
  obtain ⟨k', rfl⟩ : ∃ k', k = k' + 10 := ⟨k - 10, by omega⟩
  rfl

/-- What a packet's own tags hang on. -/
def ownText (frame : Int) (side ya yb : List Int) : List Int :=
  [111] ++ [IntKind.u8.wrap (ishr .i64 frame 8), IntKind.u8.wrap frame] ++ ((List.range 8).map fun i => IntKind.u8.wrap (at0 side i)) ++ (pulseBytes ya ++ pulseBytes yb)

theorem ownText_length (frame : Int) (side ya yb : List Int) : (ownText frame side ya yb).length = 19 := by
  simp [ownText, pulseBytes]

theorem tag_Own_eq (k : Nat) (hk : 1000000 ≤ k) (key p : List Int) (b : Int) (he : f_keyed_Band k key (at0 p 0) = some ((b, ()), ())) (hb : 0 ≤ b ∧ b < 8) :
    f_tag_Own k key p = obind (f_sip_Sum k key (ownText (at0 p 0) (cut p 1 8) (cut p (Int.toNat (9 + b * 4)) 4) (cut p (Int.toNat (9 + at0 (others b) 6 * 4)) 4)))
      fun y => some ((w64 (ibit .and .u64 y.1.1 7), ()), ()) := by
  unfold f_tag_Own
  simp only [lt_eq]
  have h1 : iter k (fun (x_3 : List Int × Int × Unit) =>
                      br (decide (x_3.2.1 < 8))
                        (chk (decide (0 ≤ x_3.2.1))
                          (chk (decide (x_3.2.1 < 8))
                            (chk (decide (List.length (x_3.1) + List.length [IntKind.wrap IntKind.u8 (at0 (cut p 1 8) (Int.toNat (x_3.2.1)))] ≤ 10000000000))
                                      (some (Sum.inl (x_3.1 ++ [IntKind.wrap IntKind.u8 (at0 (cut p 1 8) (Int.toNat (x_3.2.1)))], w64 (x_3.2.1 + 1), ()))))))
                        (some (Sum.inr (x_3.1, ())))) ([111] ++ [IntKind.u8.wrap (ishr .i64 (at0 p 0) 8), IntKind.u8.wrap (at0 p 0)], 0, ()) =
      some ([111] ++ [IntKind.u8.wrap (ishr .i64 (at0 p 0) 8), IntKind.u8.wrap (at0 p 0)] ++ ((List.range 8).map fun i => IntKind.u8.wrap (at0 (cut p 1 8) i)), ()) := by
    obtain ⟨k', rfl⟩ : ∃ k', k = k' + 10 := ⟨k - 10, by omega⟩
    rfl
  rw [h1, obind_eq, tag_Bands_eq k hk key _ b he hb, obind_eq, he, obind_eq, chk_of _ hb.1, chk_of _ hb.2, tag_bytes_eq k hk, obind_eq]
  obtain ⟨⟨o1, o2⟩, _⟩ := others_get hb 6 (by decide)
  simp only [o1, o2, decide_true, chk_true]
  rw [tag_bytes_eq k hk, obind_eq, chk_of _ (by simp [pulseBytes]), chk_of _ (by simp [pulseBytes])]
  rfl

end Go.Proofs.YthdojgehgcknmaaDoor
