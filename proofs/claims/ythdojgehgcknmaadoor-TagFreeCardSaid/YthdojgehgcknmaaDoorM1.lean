/-
  A part written into a block's content.
-/
import Derived.Test.YthdojgehgcknmaaDoorM0
import Derived.Laws.NewBlocks
import Derived.Laws.AppendOwn
import Derived.Laws.Strings
namespace Go.Ev

theorem VR_cells {ρ : Ren} {v : V} {x : Value} (hf : v.flat = true) (h : VR ρ v x) : Cells ρ v x.cells.toList := by
  cases v <;> first
    | (simp [V.flat] at hf; done)
    | (obtain ⟨cs, rfl, hc⟩ := h; simpa [Value.cells] using hc)
    | (have hc := (VR_scal (ρ := ρ) (x := x) rfl).1 h
       have h1 := Cells.one _ _ (by intro vs; simp) hc x (by simp)
       cases x <;> first | exact hc | (simp [Value.oneCell'] at h1))

/-- How many elements a content has. -/
def EOK (c : V) (p : Info) : Prop :=
  match c with
  | .row _ l => p.n = l.length ∧ p.es = 1
  | .brow l => p.n = l.length ∧ p.es = 1
  | .srow l => p.n = l.length ∧ p.es = 1
  | .rows _ n l => p.n = l.length ∧ p.es = n
  | .ints _ n _ => p.n = n ∧ p.es = 1
  | .bools n _ => p.n = n ∧ p.es = 1
  | _ => True

def Like (c c' : V) : Prop := (∀ p, EOK c p → EOK c' p) ∧ c'.size = c.size ∧ (c.flat = true → c'.flat = true)

theorem Like.refl (c : V) : Like c c := ⟨fun _ h => h, rfl, fun h => h⟩

section
variable {R : Type} {ρ : Ren}

theorem paste_length {α : Type} (l : List α) (i : Nat) (x : List α) (h : i + x.length ≤ l.length) : (paste l i x).length = l.length := by simp [paste]; omega
theorem paste_one {α : Type} (l : List α) (i : Nat) (x : α) (h : i < l.length) : paste l i [x] = l.set i x := by
  rw [List.set_eq_take_append_cons_drop, if_pos h]; simp [paste]
theorem paste_map {α β : Type} (f : α → β) (l : List α) (i : Nat) (x : List α) : paste (l.map f) i (x.map f) = (paste l i x).map f := by
  simp [paste, List.map_take, List.map_drop]
theorem paste_all {α : Type} (l x : List α) (h : x.length = l.length) : paste l 0 x = x := by simp [paste, h]
theorem paste_left {α : Type} (c1 c2 : List α) (i : Nat) (x : List α) (h : i + x.length ≤ c1.length) : paste (c1 ++ c2) i x = paste c1 i x ++ c2 := by
  simp only [paste]
  rw [List.take_append_of_le_length (by omega), List.drop_append_of_le_length (by omega)]
  simp
theorem paste_right {α : Type} (c1 c2 : List α) (i : Nat) (x : List α) : paste (c1 ++ c2) (c1.length + i) x = c1 ++ paste c2 i x := by
  simp only [paste, List.take_length_add_append, Nat.add_assoc, List.drop_length_add_append, List.append_assoc]
theorem paste_mem {α : Type} {l : List α} {i : Nat} {x : List α} {y : α} (h : y ∈ paste l i x) : y ∈ l ∨ y ∈ x := by
  simp only [paste, List.mem_append] at h
  rcases h with (h | h) | h
  · exact .inl (List.mem_of_mem_take h)
  · exact .inr h
  · exact .inl (List.mem_of_mem_drop h)

theorem int_cells {k : IntKind} {z : Int} {xs : List Value} (h : Cells ρ (.int k z) xs) : xs = [.int k z] ∧ InR k z := h

theorem upd_scal {c x : V} {base ext : Nat} {off : Int} {K : V → Option R} {r : R} {cs xs : List Value} (hs : c.scal = true) (hxs : x.scal = true)
    (h : K x = some r) (hc : Cells ρ c cs) (hx : Cells ρ x xs) (h1 : off.toNat + xs.length ≤ ext) (h2 : base + ext ≤ cs.length) :
    ∃ c', K c' = some r ∧ Cells ρ c' (paste cs (base + off.toNat) xs) ∧ Like c c' := by
  obtain ⟨y, rfl, _⟩ := Cells_scal hs hc
  obtain ⟨z, rfl, _⟩ := Cells_scal hxs hx
  simp at h1 h2
  refine ⟨x, h, ?_, ?_, by rw [V.scal_size hs, V.scal_size hxs], fun _ => V.scal_flat hxs⟩
  · rw [show base + off.toNat = 0 by omega]
    simpa [paste] using hx
  · intro p _
    cases x <;> simp_all [EOK, V.scal]

theorem upd_scal' {c x : V} {base ext : Nat} {off : Int} {K : V → Option R} {r : R} {cs xs : List Value} (hs : c.scal = true)
    (he : x.scal = true → c.upd base ext off x K = K x) (hn : x.scal = false → c.upd base ext off x K = none)
    (h : c.upd base ext off x K = some r) (hc : Cells ρ c cs) (hx : Cells ρ x xs) (h1 : off.toNat + xs.length ≤ ext) (h2 : base + ext ≤ cs.length) :
    ∃ c', K c' = some r ∧ Cells ρ c' (paste cs (base + off.toNat) xs) ∧ Like c c' := by
  cases hxs : x.scal with
  | true => rw [he hxs] at h; exact upd_scal hs hxs h hc hx h1 h2
  | false => rw [hn hxs] at h; cases h

theorem set_cells {k : IntKind} {l : List Int} {p : Nat} {z : Int} (h : p < l.length) :
    paste (l.map (Value.int k)) p [.int k z] = (l.set p z).map (Value.int k) := by
  rw [paste_one _ _ _ (by simpa using h), List.map_set]
theorem set_range {k : IntKind} {l : List Int} {p : Nat} {z : Int} (hr : ∀ x ∈ l, InR k x) (hz : InR k z) : ∀ x ∈ l.set p z, InR k x := by
  intro x hx
  rcases List.mem_or_eq_of_mem_set hx with h | h
  · exact hr x h
  · exact h ▸ hz

mutual
theorem upd_bind : ∀ (c : V) {R : Type} (base ext : Nat) (off : Int) (x : V) (K : V → Option R), c.upd base ext off x K = obind (c.upd base ext off x some) K
  | .ints k n l, R, base, ext, off, x, K => by
    cases x <;> simp only [V.upd, lt, obind] <;> (repeat' split) <;> first | rfl | simp_all
  | .bools n l, R, base, ext, off, x, K => by
    cases x <;> simp only [V.upd, lt, obind] <;> (repeat' split) <;> first | rfl | simp_all
  | .agg vs, R, base, ext, off, x, K => by
    have key : ∀ x, (V.updL vs base ext off x fun vs' => K (.agg vs')) = obind (V.updL vs base ext off x fun vs' => some (V.agg vs')) K := fun x => by
      rw [updL_bind vs base ext off x fun vs' => K (.agg vs'), updL_bind vs base ext off x fun vs' => some (V.agg vs')]
      cases V.updL vs base ext off x some <;> rfl
    cases x <;> simp only [V.upd] <;> first | exact key _ | (split <;> first | rfl | exact key _)
  | .row _ _, R, base, ext, off, x, K => by
    cases x <;> simp only [V.upd, lt, obind] <;> (repeat' split) <;> first | rfl | simp_all
  | .brow _, R, base, ext, off, x, K => by
    cases x <;> rfl
  | .srow _, R, base, ext, off, x, K => by
    cases x <;> rfl
  | .rows _ _ _, R, _, _, _, _, _ => rfl
  | .dead, R, _, _, _, _, _ => rfl
  | .tuple _, R, _, _, _, _, _ => rfl
  | .bool _, R, _, _, _, x, _ => by cases x <;> rfl
  | .int _ _, R, _, _, _, x, _ => by cases x <;> rfl
  | .str _, R, _, _, _, x, _ => by cases x <;> rfl
  | .nilptr, R, _, _, _, x, _ => by cases x <;> rfl
  | .ptr _ _ _ _ _, R, _, _, _, x, _ => by cases x <;> rfl
  | .rptr _ _ _ _, R, _, _, _, x, _ => by cases x <;> rfl
  | .nilsl, R, _, _, _, x, _ => by cases x <;> rfl
  | .own _, R, _, _, _, x, _ => by cases x <;> rfl
  | .sl _ _ _, R, _, _, _, x, _ => by cases x <;> rfl
  | .nilfn, R, _, _, _, x, _ => by cases x <;> rfl
  | .fn _ _ _, R, _, _, _, x, _ => by cases x <;> rfl
  | .niliface, R, _, _, _, x, _ => by cases x <;> rfl
  | .iface _ _, R, _, _, _, x, _ => by cases x <;> rfl
theorem updL_bind : ∀ (vs : List V) {R : Type} (base ext : Nat) (off : Int) (x : V) (K : List V → Option R), V.updL vs base ext off x K = obind (V.updL vs base ext off x some) K
  | [], R, _, _, _, _, _ => rfl
  | v :: vs, R, base, ext, off, x, K => by
    have k1 : ∀ b e o, (V.upd v b e o x fun v' => K (v' :: vs)) = obind (V.upd v b e o x fun v' => some (v' :: vs)) K := fun b e o => by
      rw [upd_bind v b e o x fun v' => K (v' :: vs), upd_bind v b e o x fun v' => some (v' :: vs)]
      cases V.upd v b e o x some <;> rfl
    have k2 : ∀ b e o, (V.updL vs b e o x fun vs' => K (v :: vs')) = obind (V.updL vs b e o x fun vs' => some (v :: vs')) K := fun b e o => by
      rw [updL_bind vs b e o x fun vs' => K (v :: vs'), updL_bind vs b e o x fun vs' => some (v :: vs')]
      cases V.updL vs b e o x some <;> rfl
    simp only [V.updL]
    split
    · split
      · exact k1 _ _ _
      · split
        · cases decide (off = 0)
          · exact k2 _ _ _
          · exact k1 _ _ _
        · rfl
    · exact k2 _ _ _
end

mutual
theorem upd_ok : ∀ (c : V) (base ext : Nat) (off : Int) (x : V) (K : V → Option R) (r : R) (cs xs : List Value),
    c.upd base ext off x K = some r → Cells ρ c cs → Cells ρ x xs → x.flat = true → 0 ≤ off → off.toNat + xs.length ≤ ext → base + ext ≤ cs.length → 0 < xs.length →
    ∃ c', K c' = some r ∧ Cells ρ c' (paste cs (base + off.toNat) xs) ∧ Like c c'
  | .ints k n l, base, ext, off, x, K, r, cs, xs, h, hc, hx, hf, h0, h1, h2, h3 => by
    simp only [Cells] at hc
    obtain ⟨rfl, hl, hr⟩ := hc
    simp only [List.length_map] at h2
    simp only [V.upd, posn_eq h0, lt] at h
    split at h
    · rename_i k' z
      split at h
      · rename_i e
        subst e
        obtain ⟨rfl, hz⟩ := int_cells hx
        simp at h1
        refine ⟨_, h, ?_, fun _ hp => hp, rfl, fun _ => rfl⟩
        rw [set_cells (by omega)]
        exact ⟨rfl, by simpa using hl, set_range hr hz⟩
      · cases h
    · rename_i k' m l'
      split at h
      · rename_i e
        subst e
        simp only [Cells] at hx
        obtain ⟨rfl, hl', hr'⟩ := hx
        simp only [List.length_map] at h1 h3
        split at h
        · rename_i e
          refine ⟨_, h, ?_, fun _ hp => hp, rfl, fun _ => rfl⟩
          rw [show base + off.toNat = 0 by omega, paste_all _ _ (by simp; omega)]
          exact ⟨rfl, by omega, hr'⟩
        · refine ⟨_, h, ?_, fun _ hp => hp, rfl, fun _ => rfl⟩
          rw [paste_map]
          refine ⟨rfl, by rw [paste_length _ _ _ (by omega)]; exact hl, fun y hy => ?_⟩
          rcases paste_mem hy with hy | hy
          · exact hr y hy
          · exact hr' y hy
      · cases h
    · cases h
  | .bools n l, base, ext, off, x, K, r, cs, xs, h, hc, hx, hf, h0, h1, h2, h3 => by
    simp only [Cells] at hc
    obtain ⟨rfl, hl⟩ := hc
    simp only [List.length_map] at h2
    simp only [V.upd, posn_eq h0, lt] at h
    split at h
    · rename_i z
      simp only [Cells] at hx
      subst hx
      simp at h1
      refine ⟨_, h, ?_, fun _ hp => hp, rfl, fun _ => rfl⟩
      rw [paste_one _ _ _ (by simp; omega), ← List.map_set]
      exact ⟨rfl, by simpa using hl⟩
    · rename_i m l'
      simp only [Cells] at hx
      obtain ⟨rfl, hl'⟩ := hx
      simp only [List.length_map] at h1 h3
      split at h
      · rename_i e
        refine ⟨_, h, ?_, fun _ hp => hp, rfl, fun _ => rfl⟩
        rw [show base + off.toNat = 0 by omega, paste_all _ _ (by simp; omega)]
        exact ⟨rfl, by omega⟩
      · refine ⟨_, h, ?_, fun _ hp => hp, rfl, fun _ => rfl⟩
        rw [paste_map]
        exact ⟨rfl, by rw [paste_length _ _ _ (by omega)]; exact hl⟩
    · cases h
  | .agg vs, base, ext, off, x, K, r, cs, xs, h, hc, hx, hf, h0, h1, h2, h3 => by
    simp only [Cells] at hc
    have hl := CellsL.length vs cs hc
    have key : ∀ K', V.updL vs base ext off x K' = some r → (K' = fun vs' => K (.agg vs')) → ∃ c', K c' = some r ∧ Cells ρ c' (paste cs (base + off.toNat) xs) ∧ Like (.agg vs) c' := by
      intro K' h e
      obtain ⟨vs', hk, hc', hs'⟩ := updL_ok vs base ext off x K' r cs xs h hc hx hf h0 h1 h2 h3
      subst e
      exact ⟨_, hk, hc', fun _ _ => trivial, by simp [V.size, hs'], fun _ => rfl⟩
    simp only [V.upd] at h
    split at h
    · rename_i ws
      split at h
      · rename_i e
        have hl' := CellsL.length ws xs hx
        refine ⟨_, h, ?_, fun _ _ => trivial, by simp [V.size, e], fun _ => rfl⟩
        rw [show base + off.toNat = 0 by omega, paste_all _ _ (by omega)]
        exact hx
      · exact key _ h rfl
    · exact key _ h rfl
  | .row k l, base, ext, off, x, K, r, cs, xs, h, hc, hx, hf, h0, h1, h2, h3 => by
    simp only [Cells] at hc
    obtain ⟨rfl, hr⟩ := hc
    simp only [List.length_map] at h2
    simp only [V.upd, posn_eq h0, lt] at h
    split at h
    · rename_i k' z
      split at h
      · rename_i e
        subst e
        obtain ⟨rfl, hz⟩ := int_cells hx
        simp at h1
        refine ⟨_, h, ?_, fun p hp => by simpa [EOK] using hp, rfl, fun h => h⟩
        rw [set_cells (by omega)]
        exact ⟨rfl, set_range hr hz⟩
      · cases h
    · cases h
  | .brow l, base, ext, off, x, K, r, cs, xs, h, hc, hx, hf, h0, h1, h2, h3 => by
    simp only [Cells] at hc
    subst hc
    simp only [List.length_map] at h2
    simp only [V.upd, posn_eq h0, lt] at h
    split at h
    · simp only [Cells] at hx
      subst hx
      simp at h1
      refine ⟨_, h, ?_, fun p hp => by simpa [EOK] using hp, rfl, fun h => h⟩
      rw [paste_one _ _ _ (by simp; omega), ← List.map_set]
      rfl
    · cases h
  | .srow l, base, ext, off, x, K, r, cs, xs, h, hc, hx, hf, h0, h1, h2, h3 => by
    simp only [Cells] at hc
    obtain ⟨ss, rfl, hl, hs⟩ := hc
    simp only [List.length_map] at h2
    simp only [V.upd, posn_eq h0, lt] at h
    split at h
    · rename_i z
      simp only [Cells] at hx
      obtain ⟨s, rfl, hb⟩ := hx
      simp at h1
      refine ⟨_, h, ?_, fun p hp => by simpa [EOK] using hp, rfl, fun h => h⟩
      rw [paste_one _ _ _ (by simp; omega), ← List.map_set]
      refine ⟨_, rfl, by simpa using hl, fun i t ht => ?_⟩
      rw [List.getElem?_set] at ht ⊢
      split at ht
      · rename_i e
        rw [if_pos e]
        split at ht
        · cases ht; exact ⟨z, by rw [if_pos (by omega)], hb⟩
        · cases ht
      · rename_i e
        rw [if_neg e]
        exact hs i t ht
    · cases h
  | .rows _ _ _, _, _, _, _, _, _, _, _, h, _, _, _, _, _, _, _ => by simp [V.upd] at h
  | .dead, _, _, _, _, _, _, _, _, h, _, _, _, _, _, _, _ => by simp [V.upd] at h
  | .tuple _, _, _, _, _, _, _, _, _, h, _, _, _, _, _, _, _ => by simp [V.upd] at h
  | .bool _, _, _, _, x, _, _, _, _, h, hc, hx, _, _, h1, h2, _ => upd_scal' rfl (fun e => by cases x <;> first | rfl | simp [V.scal] at e) (fun e => by cases x <;> first | rfl | simp [V.scal] at e) h hc hx h1 h2
  | .int _ _, _, _, _, x, _, _, _, _, h, hc, hx, _, _, h1, h2, _ => upd_scal' rfl (fun e => by cases x <;> first | rfl | simp [V.scal] at e) (fun e => by cases x <;> first | rfl | simp [V.scal] at e) h hc hx h1 h2
  | .str _, _, _, _, x, _, _, _, _, h, hc, hx, _, _, h1, h2, _ => upd_scal' rfl (fun e => by cases x <;> first | rfl | simp [V.scal] at e) (fun e => by cases x <;> first | rfl | simp [V.scal] at e) h hc hx h1 h2
  | .nilptr, _, _, _, x, _, _, _, _, h, hc, hx, _, _, h1, h2, _ => upd_scal' rfl (fun e => by cases x <;> first | rfl | simp [V.scal] at e) (fun e => by cases x <;> first | rfl | simp [V.scal] at e) h hc hx h1 h2
  | .ptr _ _ _ _ _, _, _, _, x, _, _, _, _, h, hc, hx, _, _, h1, h2, _ => upd_scal' rfl (fun e => by cases x <;> first | rfl | simp [V.scal] at e) (fun e => by cases x <;> first | rfl | simp [V.scal] at e) h hc hx h1 h2
  | .rptr _ _ _ _, _, _, _, x, _, _, _, _, h, hc, hx, _, _, h1, h2, _ => upd_scal' rfl (fun e => by cases x <;> first | rfl | simp [V.scal] at e) (fun e => by cases x <;> first | rfl | simp [V.scal] at e) h hc hx h1 h2
  | .nilsl, _, _, _, x, _, _, _, _, h, hc, hx, _, _, h1, h2, _ => upd_scal' rfl (fun e => by cases x <;> first | rfl | simp [V.scal] at e) (fun e => by cases x <;> first | rfl | simp [V.scal] at e) h hc hx h1 h2
  | .own _, _, _, _, x, _, _, _, _, h, hc, hx, _, _, h1, h2, _ => upd_scal' rfl (fun e => by cases x <;> first | rfl | simp [V.scal] at e) (fun e => by cases x <;> first | rfl | simp [V.scal] at e) h hc hx h1 h2
  | .sl _ _ _, _, _, _, x, _, _, _, _, h, hc, hx, _, _, h1, h2, _ => upd_scal' rfl (fun e => by cases x <;> first | rfl | simp [V.scal] at e) (fun e => by cases x <;> first | rfl | simp [V.scal] at e) h hc hx h1 h2
  | .nilfn, _, _, _, x, _, _, _, _, h, hc, hx, _, _, h1, h2, _ => upd_scal' rfl (fun e => by cases x <;> first | rfl | simp [V.scal] at e) (fun e => by cases x <;> first | rfl | simp [V.scal] at e) h hc hx h1 h2
  | .fn _ _ _, _, _, _, x, _, _, _, _, h, hc, hx, _, _, h1, h2, _ => upd_scal' rfl (fun e => by cases x <;> first | rfl | simp [V.scal] at e) (fun e => by cases x <;> first | rfl | simp [V.scal] at e) h hc hx h1 h2
  | .niliface, _, _, _, x, _, _, _, _, h, hc, hx, _, _, h1, h2, _ => upd_scal' rfl (fun e => by cases x <;> first | rfl | simp [V.scal] at e) (fun e => by cases x <;> first | rfl | simp [V.scal] at e) h hc hx h1 h2
  | .iface _ _, _, _, _, x, _, _, _, _, h, hc, hx, _, _, h1, h2, _ => upd_scal' rfl (fun e => by cases x <;> first | rfl | simp [V.scal] at e) (fun e => by cases x <;> first | rfl | simp [V.scal] at e) h hc hx h1 h2
theorem updL_ok : ∀ (vs : List V) (base ext : Nat) (off : Int) (x : V) (K : List V → Option R) (r : R) (cs xs : List Value),
    V.updL vs base ext off x K = some r → CellsL ρ vs cs → Cells ρ x xs → x.flat = true → 0 ≤ off → off.toNat + xs.length ≤ ext → base + ext ≤ cs.length → 0 < xs.length →
    ∃ vs', K vs' = some r ∧ CellsL ρ vs' (paste cs (base + off.toNat) xs) ∧ V.sizeL vs' = V.sizeL vs
  | [], _, _, _, _, _, _, _, _, h, _, _, _, _, _, _, _ => by simp [V.updL] at h
  | v :: vs, base, ext, off, x, K, r, cs, xs, h, hc, hx, hf, h0, h1, h2, h3 => by
    simp only [CellsL] at hc
    obtain ⟨c1, c2, rfl, ⟨hl, hfl⟩, hc1, hc2⟩ := hc
    simp only [List.length_append] at h2
    simp only [V.updL] at h
    split at h
    · split at h
      · obtain ⟨v', hk, hc', hk1, hk2, hk3⟩ := upd_ok v base ext off x _ r c1 xs h hc1 hx hf h0 h1 (by omega) h3
        refine ⟨_, hk, ⟨_, _, paste_left _ _ _ _ (by omega), ⟨?_, hk3 hfl⟩, hc', hc2⟩, by simp [V.sizeL, hk2]⟩
        rw [paste_length _ _ _ (by omega), hl, hk2]
      · split at h
        · rename_i hb _ hs
          have hb0 : base = 0 := by omega
          subst hb0
          simp only [br_match] at h
          by_cases ho : off = 0
          · subst ho
            simp at h
            obtain ⟨y, hy⟩ : ∃ y, c1 = [y] := by
              match c1, (show c1.length = 1 by omega) with
              | [y], _ => exact ⟨y, rfl⟩
            have hx1 : xs.length = 1 := by rw [Cells.length x xs hf hx, hs.2]
            obtain ⟨v', hk, hc', hk1, hk2, hk3⟩ := upd_ok v 0 1 0 x _ r c1 xs h hc1 hx hf (by omega) (by simp; omega) (by omega) h3
            refine ⟨_, hk, ⟨_, _, paste_left _ _ _ _ (by simp; omega), ⟨?_, hk3 hfl⟩, hc', hc2⟩, by simp [V.sizeL, hk2]⟩
            rw [paste_length _ _ _ (by simp; omega), hl, hk2]
          · simp [ho] at h
            obtain ⟨vs', hk, hc', hs'⟩ := updL_ok vs 0 (ext - 1) (off - 1) x _ r c2 xs h hc2 hx hf (by omega) (by omega) (by omega) h3
            refine ⟨_, hk, ⟨c1, _, ?_, ⟨hl, hfl⟩, hc1, hc'⟩, by simp [V.sizeL, hs']⟩
            have := paste_right c1 c2 (0 + (off - 1).toNat) xs
            rwa [show c1.length + (0 + (off - 1).toNat) = 0 + off.toNat by omega] at this
        · cases h
    · obtain ⟨vs', hk, hc', hs'⟩ := updL_ok vs (base - v.size) ext off x _ r c2 xs h hc2 hx hf h0 h1 (by omega) h3
      refine ⟨_, hk, ⟨c1, _, ?_, ⟨hl, hfl⟩, hc1, hc'⟩, by simp [V.sizeL, hs']⟩
      have := paste_right c1 c2 (base - v.size + off.toNat) xs
      rwa [show c1.length + (base - v.size + off.toNat) = base + off.toNat by omega] at this
end

theorem upd_ok' {c : V} {base ext : Nat} {off : Int} {x : V} {K : V → Option R} {r : R} (h : c.upd base ext off x K = some r) :
    ∃ c', K c' = some r ∧ ∀ (ρ : Ren) (cs xs : List Value), Cells ρ c cs → Cells ρ x xs → x.flat = true → 0 ≤ off → off.toNat + xs.length ≤ ext → base + ext ≤ cs.length → 0 < xs.length →
      Cells ρ c' (paste cs (base + off.toNat) xs) ∧ Like c c' := by
  rw [upd_bind] at h
  obtain ⟨v, hv, hk⟩ := obind_some h
  refine ⟨v, hk, fun ρ cs xs hc hx hf h0 h1 h2 h3 => ?_⟩
  obtain ⟨v', hv', hp⟩ := upd_ok c base ext off x some v cs xs hv hc hx hf h0 h1 h2 h3
  cases hv'
  exact hp
end
end Go.Ev

/-
  Memory: what it is that a world holds an abstract memory; how it stays when a world changes.
-/
namespace Go.Ev

def HeldAt (w : World) (p : Info) (cs : List Value) : Prop := ∀ (j : Nat) (v : Value), cs[j]? = some v → w.cell? ⟨p.blk, p.base + j, none⟩ = some v

/-- all cells of the block are there, and may be written -/
def Owned (w : World) (p : Info) : Prop := p.base = 0 ∧ p.cn ≤ p.psz ∧ ∀ j, j < p.psz → (w.cell? ⟨p.blk, j, none⟩).isSome = true ∧ w.frozen? ⟨p.blk, j, none⟩ = false

def Held (ρ : Ren) (p : Info) (wr : Bool) (c : V) (w : World) : Prop :=
  (∃ cs, Cells ρ c cs ∧ cs.length = p.cn ∧ (p.nil = false → HeldAt w p cs)) ∧ EOK c p ∧ (p.nil = true → p.cn = 0 ∧ p.n = 0) ∧ (p.nil = false → (p.blk < w.heap.size ∧ p.base + p.cn ≤ p.psz) ∧ (wr = true → Owned w p))

structure RM (ρ : Ren) (m : Mem) (w : World) : Prop where
  held : ∀ b wr c, m b = some (wr, c) → ∃ p, ρ b = some p ∧ Held ρ p wr c w
  excl : ∀ b c b' x p p', m b = some (true, c) → m b' = some x → b ≠ b' → ρ b = some p → ρ b' = some p' → p.nil = false → p'.nil = false → p.blk ≠ p'.blk

/-- Is block k one that may be written? -/
def Mine (ρ : Ren) (m : Mem) (k : Nat) : Prop := ∃ b c p, m b = some (true, c) ∧ ρ b = some p ∧ p.nil = false ∧ p.blk = k

structure Ext (ρ : Ren) (m : Mem) (w : World) (ρ' : Ren) (m' : Mem) (w' : World) : Prop where
  sub : Sub ρ ρ'
  size : w.heap.size ≤ w'.heap.size
  os : w'.os = w.os
  output : w'.output = w.output
  tape : w'.tape = w.tape
  keep : ∀ k, k < w.heap.size → ¬ Mine ρ m k → w'.heap[k]? = w.heap[k]?
  own : ∀ k, Mine ρ' m' k → w.heap.size ≤ k ∨ Mine ρ m k

theorem Ext.refl (ρ : Ren) (m : Mem) (w : World) : Ext ρ m w ρ m w := ⟨Sub.refl _, Nat.le_refl _, rfl, rfl, rfl, fun _ _ _ => rfl, fun _ h => .inr h⟩

theorem Ext.trans {ρ ρ1 ρ2 : Ren} {m m1 m2 : Mem} {w w1 w2 : World} (h : Ext ρ m w ρ1 m1 w1) (h' : Ext ρ1 m1 w1 ρ2 m2 w2) : Ext ρ m w ρ2 m2 w2 where
  sub := h.sub.trans h'.sub
  size := Nat.le_trans h.size h'.size
  os := h'.os.trans h.os
  output := h'.output.trans h.output
  tape := h'.tape.trans h.tape
  keep := fun k hk hn => by
    rw [h'.keep k (Nat.lt_of_lt_of_le hk h.size) (fun hm => ?_), h.keep k hk hn]
    rcases h.own k hm with h1 | h1
    · omega
    · exact hn h1
  own := fun k hk => by
    rcases h'.own k hk with h1 | h1
    · exact .inl (Nat.le_trans h.size h1)
    · rcases h.own k h1 with h2 | h2
      · exact .inl h2
      · exact .inr h2

/-- Only the count of draws, or nothing, has moved. -/
theorem Ext.same {ρ : Ren} {m : Mem} {w w' : World} (h : w'.heap = w.heap) (ho : w'.os = w.os) (hp : w'.output = w.output) (ht : w'.tape = w.tape) : Ext ρ m w ρ m w' :=
  ⟨Sub.refl _, by rw [h]; exact Nat.le_refl _, ho, hp, ht, fun _ _ _ => by rw [h], fun _ h => .inr h⟩

theorem cell_same {w w' : World} {b : Nat} (h : w'.heap[b]? = w.heap[b]?) (o : Nat) : w'.cell? ⟨b, o, none⟩ = w.cell? ⟨b, o, none⟩ := World.cell?_of_block h
theorem frozen_same {w w' : World} {b : Nat} (h : w'.heap[b]? = w.heap[b]?) (o : Nat) : w'.frozen? ⟨b, o, none⟩ = w.frozen? ⟨b, o, none⟩ := World.frozen?_of_block h

theorem HeldAt.same {w w' : World} {p : Info} {cs : List Value} (h : HeldAt w p cs) (e : w'.heap[p.blk]? = w.heap[p.blk]?) : HeldAt w' p cs :=
  fun j v hv => by rw [cell_same e]; exact h j v hv
theorem Owned.same {w w' : World} {p : Info} (h : Owned w p) (e : w'.heap[p.blk]? = w.heap[p.blk]?) : Owned w' p :=
  ⟨h.1, h.2.1, fun j hj => by rw [cell_same e, frozen_same e]; exact h.2.2 j hj⟩

theorem Held.same {ρ ρ' : Ren} {p : Info} {wr : Bool} {c : V} {w w' : World} (hs : Sub ρ ρ') (h : Held ρ p wr c w) (hz : w.heap.size ≤ w'.heap.size)
    (e : p.nil = false → w'.heap[p.blk]? = w.heap[p.blk]?) : Held ρ' p wr c w' := by
  obtain ⟨⟨cs, hc, hl, hh⟩, h1, h2, h3⟩ := h
  exact ⟨⟨cs, Cells.mono hs c cs hc, hl, fun hn => (hh hn).same (e hn)⟩, h1, h2, fun hn => ⟨⟨Nat.lt_of_lt_of_le (h3 hn).1.1 hz, (h3 hn).1.2⟩, fun hw => ((h3 hn).2 hw).same (e hn)⟩⟩

theorem Held.lock {ρ : Ren} {p : Info} {wr : Bool} {c : V} {w : World} (h : Held ρ p wr c w) : Held ρ p false c w :=
  ⟨h.1, h.2.1, h.2.2.1, fun hn => ⟨(h.2.2.2 hn).1, fun hw => by cases hw⟩⟩

/-- Less of the memory, or less of it to be written, is held too. -/
theorem RM.less {ρ : Ren} {m m' : Mem} {w : World} (h : RM ρ m w) (hm : ∀ b x, m' b = some x → ∃ wr, m b = some (wr, x.2) ∧ (x.1 = true → wr = true)) : RM ρ m' w where
  held := fun b wr c hb => by
    obtain ⟨wr', h1, h2⟩ := hm b _ hb
    obtain ⟨p, hp, hh⟩ := h.held b wr' c h1
    refine ⟨p, hp, ?_⟩
    cases wr with
    | true => rw [h2 rfl] at hh; exact hh
    | false => exact hh.lock
  excl := fun b c b' x p p' hb hb' hne hp hp' hn hn' => by
    obtain ⟨wr1, h1, h2⟩ := hm b _ hb
    obtain ⟨wr2, h3, _⟩ := hm b' _ hb'
    rw [h2 rfl] at h1
    exact h.excl b _ b' _ p p' h1 h3 hne hp hp' hn hn'

/-- The world changed where nothing of this memory lies. -/
theorem RM.same {ρ ρ' : Ren} {m : Mem} {w w' : World} (h : RM ρ m w) (hs : Sub ρ ρ') (hz : w.heap.size ≤ w'.heap.size)
    (e : ∀ b x p, m b = some x → ρ b = some p → p.nil = false → w'.heap[p.blk]? = w.heap[p.blk]?) : RM ρ' m w' where
  held := fun b wr c hb => by
    obtain ⟨p, hp, hh⟩ := h.held b wr c hb
    exact ⟨p, hs b p hp, hh.same hs hz (e b _ p hb hp)⟩
  excl := fun b c b' x p p' hb hb' hne hp hp' hn hn' => by
    obtain ⟨q, hq, _⟩ := h.held b true c hb
    obtain ⟨q', hq', _⟩ := h.held b' x.1 x.2 hb'
    have e1 := hs b q hq
    have e2 := hs b' q' hq'
    rw [hp] at e1; rw [hp'] at e2
    cases e1; cases e2
    exact h.excl b c b' x p p' hb hb' hne hq hq' hn hn'

/-- A new block. -/
theorem RM.push {ρ : Ren} {m : Mem} {w w' : World} (h : RM ρ m w) (b : Nat) (hb : m b = none) (hr : ρ b = none) (c : V) (p : Info)
    (hz : w.heap.size ≤ w'.heap.size) (hk : ∀ k, k < w.heap.size → w'.heap[k]? = w.heap[k]?) (hp : p.nil = false → w.heap.size ≤ p.blk)
    (hh : Held (fun x => if x = b then some p else ρ x) p true c w') :
    RM (fun x => if x = b then some p else ρ x) (fun x => if x = b then some (true, c) else m x) w' := by
  have hs : Sub ρ (fun x => if x = b then some p else ρ x) := fun x q hq => by
    have : x ≠ b := fun e => by rw [e, hr] at hq; cases hq
    simp [this, hq]
  have old : ∀ x y q, m x = some y → ρ x = some q → q.nil = false → q.blk < w.heap.size := fun x y q hx hq hn => by
    obtain ⟨q', hq', hh'⟩ := h.held x y.1 y.2 hx
    rw [hq] at hq'; cases hq'
    exact (hh'.2.2.2 hn).1.1
  have h' := h.same hs hz (fun x y q hx hq hn => hk _ (old x y q hx hq hn))
  have nb : ∀ x y, m x = some y → x ≠ b := fun x y hx e => by rw [e, hb] at hx; cases hx
  refine ⟨fun x wr d hx => ?_, fun x d x' y q q' hx hx' hne hq hq' hn hn' => ?_⟩
  · by_cases e : x = b
    · subst e
      simp at hx
      obtain ⟨rfl, rfl⟩ := hx
      exact ⟨p, by simp, hh⟩
    · simp [e] at hx
      exact h'.held x wr d hx
  · by_cases e : x = b
    · subst e
      have e' : x' ≠ x := fun e => hne e.symm
      simp at hq
      subst hq
      simp [e'] at hx' hq'
      have := old x' y q' hx' hq' hn'
      have := hp hn
      omega
    · simp [e] at hx hq
      by_cases e' : x' = b
      · subst e'
        simp at hq'
        subst hq'
        have := old x _ q hx hq hn
        have := hp hn'
        omega
      · simp [e'] at hx' hq'
        exact h.excl x d x' y q q' hx hx' hne hq hq' hn hn'

theorem cell_setCells {w : World} {p : Info} (h : Owned w p) (o : Nat) (vs : List Value) (ho : o + vs.length ≤ p.psz) (j : Nat) :
    (w.setCells p.blk o vs).cell? ⟨p.blk, j, none⟩ = if o ≤ j ∧ j < o + vs.length then vs[j - o]? else w.cell? ⟨p.blk, j, none⟩ := by
  split
  · rename_i hj
    have := World.cell?_setCells_in p.blk vs o w (fun i hi => (h.2.2 (o + i) (by omega)).1) (j - o) (by omega)
    rw [show o + (j - o) = j by omega] at this
    rw [this, List.getElem?_eq_getElem (by omega)]
  · rename_i hj
    exact World.cell?_setCells_out p.blk vs o w _ (fun _ _ => by simp; omega)

theorem Owned.setCells {w : World} {p : Info} (h : Owned w p) (o : Nat) (vs : List Value) (ho : o + vs.length ≤ p.psz) : Owned (w.setCells p.blk o vs) p := by
  refine ⟨h.1, h.2.1, fun j hj => ⟨?_, by rw [World.frozen?_setCells]; exact (h.2.2 j hj).2⟩⟩
  rw [cell_setCells h o vs ho]
  split
  · rename_i e
    rw [List.getElem?_eq_getElem (by omega)]; rfl
  · exact (h.2.2 j hj).1

theorem heap_setCells_size (b : Nat) : ∀ (vs : List Value) (o : Nat) (w : World), (w.setCells b o vs).heap.size = w.heap.size
  | [], _, _ => rfl
  | v :: r, o, w => by rw [World.setCells, heap_setCells_size b r]; simp [World.setCell]
theorem heap_setCells_other (b : Nat) {k : Nat} (hk : k ≠ b) : ∀ (vs : List Value) (o : Nat) (w : World), (w.setCells b o vs).heap[k]? = w.heap[k]?
  | [], _, _ => rfl
  | v :: r, o, w => by rw [World.setCells, heap_setCells_other b hk r]; simp [World.setCell, Array.getElem?_modify, Ne.symm hk]
theorem setCells_rest (b : Nat) : ∀ (vs : List Value) (o : Nat) (w : World), (w.setCells b o vs).os = w.os ∧ (w.setCells b o vs).output = w.output ∧ (w.setCells b o vs).tape = w.tape
  | [], _, _ => ⟨rfl, rfl, rfl⟩
  | v :: r, o, w => by rw [World.setCells]; exact setCells_rest b r (o + 1) _

/-- A block's content written anew, in a part of it. -/
theorem RM.write {ρ : Ren} {m : Mem} {w : World} (h : RM ρ m w) (b : Nat) (c c' : V) (p : Info) (cs : List Value) (pos : Nat) (xs : List Value)
    (hb : m b = some (true, c)) (hp : ρ b = some p) (hn : p.nil = false) (hl : cs.length = p.cn) (hh : HeldAt w p cs)
    (hpos : pos + xs.length ≤ cs.length) (hc' : Cells ρ c' (paste cs pos xs)) (hlike : EOK c p → EOK c' p) :
    RM ρ (fun x => if x = b then some (true, c') else m x) (w.setCells p.blk pos xs) := by
  obtain ⟨q, hq, hd⟩ := h.held b true c hb
  rw [hp] at hq; cases hq
  have ho := (hd.2.2.2 hn).2 rfl
  have hpsz := ho.2.1
  have hb0 := ho.1
  refine ⟨fun x wr d hx => ?_, fun x d x' y q q' hx hx' hne hq hq' hn1 hn2 => ?_⟩
  · by_cases e : x = b
    · subst e
      simp at hx
      obtain ⟨rfl, rfl⟩ := hx
      refine ⟨p, hp, ⟨_, hc', by rw [paste_length _ _ _ hpos, hl], fun _ j v hv => ?_⟩, hlike hd.2.1, hd.2.2.1, fun _ => ⟨⟨by rw [heap_setCells_size]; exact (hd.2.2.2 hn).1.1, (hd.2.2.2 hn).1.2⟩, fun _ => ho.setCells pos xs (by omega)⟩⟩
      rw [hb0, Nat.zero_add, cell_setCells ho pos xs (by omega)]
      have hg : (paste cs pos xs)[j]? = if pos ≤ j ∧ j < pos + xs.length then xs[j - pos]? else cs[j]? := by
        simp only [paste]
        split
        · rename_i hj
          rw [List.append_assoc, List.getElem?_append_right (by simp; omega), List.getElem?_append_left (by simp; omega)]
          congr 1
          simp
          omega
        · rename_i hj
          by_cases h1 : j < pos
          · rw [List.append_assoc, List.getElem?_append_left (by simp; omega), List.getElem?_take_of_lt h1]
          · rw [List.getElem?_append_right (by simp; omega), List.getElem?_drop]
            congr 1
            simp
            omega
      rw [hg] at hv
      split at hv
      · rename_i hj
        rw [if_pos hj]; exact hv
      · rename_i hj
        rw [if_neg hj]
        have := hh j v hv
        rwa [hb0, Nat.zero_add] at this
    · simp [e] at hx
      obtain ⟨q, hq, hd'⟩ := h.held x wr d hx
      refine ⟨q, hq, hd'.same (Sub.refl ρ) (by rw [heap_setCells_size]; exact Nat.le_refl _) fun hn' => heap_setCells_other p.blk ?_ xs pos w⟩
      exact fun e' => h.excl b c x _ p q hb hx (Ne.symm e) hp hq hn hn' e'.symm
  · have f : ∀ z y', (if z = b then some (true, c') else m z) = some y' → ∃ y'', m z = some (y'.1, y'') := by
      intro z y' hz
      by_cases e : z = b
      · subst e; simp at hz; subst hz; exact ⟨c, hb⟩
      · simp [e] at hz; exact ⟨y'.2, hz⟩
    obtain ⟨d1, hd1⟩ := f x _ hx
    obtain ⟨d2, hd2⟩ := f x' _ hx'
    exact h.excl x d1 x' _ q q' hd1 hd2 hne hq hq' hn1 hn2

theorem Ext.write {ρ : Ren} {m : Mem} {w : World} (b : Nat) (c c' : V) (p : Info) (pos : Nat) (xs : List Value)
    (hb : m b = some (true, c)) (hp : ρ b = some p) (hn : p.nil = false) :
    Ext ρ m w ρ (fun x => if x = b then some (true, c') else m x) (w.setCells p.blk pos xs) := by
  obtain ⟨h1, h2, h3⟩ := setCells_rest p.blk xs pos w
  refine ⟨Sub.refl ρ, by rw [heap_setCells_size]; exact Nat.le_refl _, h1, h2, h3, fun k hk hm => heap_setCells_other p.blk (fun e => hm ⟨b, c, p, hb, hp, hn, e.symm⟩) xs pos w, fun k hk => .inr ?_⟩
  obtain ⟨x, d, q, hx, hq, hqn, hqk⟩ := hk
  by_cases e : x = b
  · subst e
    rw [hp] at hq; cases hq
    exact ⟨x, c, p, hb, hp, hn, hqk⟩
  · simp [e] at hx
    exact ⟨x, d, q, hx, hq, hqn, hqk⟩

theorem Ext.push {ρ : Ren} {m : Mem} {w w' : World} (b : Nat) (hr : ρ b = none) (c : V) (p : Info)
    (hz : w.heap.size ≤ w'.heap.size) (hk : ∀ k, k < w.heap.size → w'.heap[k]? = w.heap[k]?) (hp : p.nil = false → w.heap.size ≤ p.blk)
    (ho : w'.os = w.os) (hu : w'.output = w.output) (ht : w'.tape = w.tape) :
    Ext ρ m w (fun x => if x = b then some p else ρ x) (fun x => if x = b then some (true, c) else m x) w' := by
  refine ⟨fun x q hq => ?_, hz, ho, hu, ht, fun k hk' _ => hk k hk', fun k hk' => ?_⟩
  · have : x ≠ b := fun e => by rw [e, hr] at hq; cases hq
    simp [this, hq]
  · obtain ⟨x, d, q, hx, hq, hqn, hqk⟩ := hk'
    by_cases e : x = b
    · subst e
      simp at hq
      subst hq
      exact .inl (hqk ▸ hp hqn)
    · simp [e] at hx hq
      exact .inr ⟨x, d, q, hx, hq, hqn, hqk⟩

end Go.Ev

/-
  Operations that touch no memory.
-/
namespace Go.Ev

theorem InR.wrap (k : IntKind) (n : Int) : InR k (k.wrap n) := wrap_within k n

/-- What is asked of an environment. -/
structure EnvOK (E : Env) : Prop where
  zero : ∀ t z, E.zero t = some z → z.flat = true ∧ ∃ x, (∀ w, (zeroValue t).run E.P w = .ok x w) ∧ ∀ ρ, VR ρ z x
  eqi : ∀ t k n, E.eqi t = some (k, n) → ∀ (X Y : Operand) (a b : List Int) (w : World), a.length = n → b.length = n → (∀ x ∈ a, InR k x) → (∀ x ∈ b, InR k x) →
    (eqGuard .eql t X Y (.agg (a.map (Value.int k)).toArray) (.agg (b.map (Value.int k)).toArray)).run E.P w = .ok () w ∧
    (eqGuard .neq t X Y (.agg (a.map (Value.int k)).toArray) (.agg (b.map (Value.int k)).toArray)).run E.P w = .ok () w ∧
    (Op.equal t (.agg (a.map (Value.int k)).toArray) (.agg (b.map (Value.int k)).toArray)).run E.P w = .ok (a == b) w
  eqb : ∀ t n, E.eqb t = some n → ∀ (X Y : Operand) (a b : List Bool) (w : World), a.length = n → b.length = n →
    (eqGuard .eql t X Y (.agg (a.map Value.bool).toArray) (.agg (b.map Value.bool).toArray)).run E.P w = .ok () w ∧
    (eqGuard .neq t X Y (.agg (a.map Value.bool).toArray) (.agg (b.map Value.bool).toArray)).run E.P w = .ok () w ∧
    (Op.equal t (.agg (a.map Value.bool).toArray) (.agg (b.map Value.bool).toArray)).run E.P w = .ok (a == b) w
  places : ∀ t z fs, E.zero t = some z → E.P.underlying t = some (.struct fs) → ∃ pl, fs.toList.mapM (fun f => (E.P.info? f.type).map fun i => (f.offset, i.size)) = some pl
  mixed : E.P.follows .mixedOrders = true
  gn : ∀ g, E.gsz g ≠ 0 → g < E.gn
  gl : E.gl.length = E.gn
  names : ∀ (f : Nat) (fn : Func), E.P.funcs[f]? = some fn → fn.name ≠ "runtime.NumGoroutine"

section
variable {E : Env} {R : Type}

theorem und_some {t : TypeId} {d : TypeDesc} (h : E.und t = d) (hd : d ≠ .invalid) : E.P.underlying t = some d := by
  unfold Env.und at h
  split at h
  · rename_i d' hd'; rw [hd', h]
  · exact absurd h.symm hd

theorem run_und {t : TypeId} {d : TypeDesc} (h : E.P.underlying t = some d) (w : World) : (underlying t).run E.P w = .ok d w := by
  simp [underlying, h]

theorem size_pos {t : TypeId} (h : 0 < E.size t) : ∃ i d, E.P.info? t = some i ∧ E.P.underlying t = some d ∧ E.size t = i.size := by
  unfold Env.size at h ⊢
  split at h
  · rename_i i hi
    split at h
    · rename_i d hd
      exact ⟨i, d, hi, hd, rfl⟩
    · cases h
  · cases h

theorem run_size {t : TypeId} (h : 0 < E.size t) (w : World) : (sizeOf t).run E.P w = .ok (E.size t) w := by
  obtain ⟨i, d, h1, _, h3⟩ := size_pos h
  simp [sizeOf, typeInfo, h1, h3]

theorem run_agg {t : TypeId} (h : 0 < E.size t) (w : World) : (isAgg t).run E.P w = .ok (E.agg t) w := by
  obtain ⟨i, d, _, h2, _⟩ := size_pos h
  unfold isAgg
  rw [Sem.run_bind, run_und h2]
  simp only [Result.andThen, Env.agg, Env.und, h2]
  cases d <;> rfl

theorem chk_some {b : Bool} {x : Option R} {r : R} (h : chk b x = some r) : b = true ∧ x = some r := by
  cases b <;> simp_all [chk_true, chk_false]

theorem vr_int {ρ : Ren} {k : IntKind} {n : Int} {x : Value} (h : VR ρ (.int k n) x) : x = .int k n ∧ InR k n := by
  simpa [VR, wrapR, Cells] using h
theorem vr_bool {ρ : Ren} {b : Bool} {x : Value} (h : VR ρ (.bool b) x) : x = .bool b := by
  simpa [VR, wrapR, Cells] using h
theorem vr_str {ρ : Ren} {l : List Int} {x : Value} (h : VR ρ (.str l) x) : ∃ s, x = .string s ∧ bytesOf l s := by
  simpa [VR, wrapR, Cells] using h
theorem vr_ints {ρ : Ren} {k : IntKind} {n : Nat} {l : List Int} {x : Value} (h : VR ρ (.ints k n l) x) : x = .agg (l.map (Value.int k)).toArray ∧ l.length = n ∧ ∀ y ∈ l, InR k y := by
  obtain ⟨cs, rfl, rfl, h1, h2⟩ := h
  exact ⟨rfl, h1, h2⟩
theorem vr_bools {ρ : Ren} {n : Nat} {l : List Bool} {x : Value} (h : VR ρ (.bools n l) x) : x = .agg (l.map Value.bool).toArray ∧ l.length = n := by
  obtain ⟨cs, rfl, rfl, h1⟩ := h
  exact ⟨rfl, h1⟩

theorem bytes_inj {l l' : List Int} {s s' : ByteArray} (h : bytesOf l s) (h' : bytesOf l' s') : (l == l') = (s.toList == s'.toList) := by
  unfold bytesOf at h h'
  have e1 : ∀ s : ByteArray, s.toList = s.data.toList := ByteArray.toList_eq
  subst h; subst h'
  rw [e1, e1, Bool.eq_iff_iff]
  simp only [beq_iff_eq]
  refine ⟨fun h => ?_, fun h => by rw [h]⟩
  exact (List.map_inj_right (fun a b hab => UInt8.toNat_inj.1 (by omega))).1 h

theorem kmin_le (k : IntKind) : k.min ≤ 0 ∧ 0 ≤ k.max := by cases k <;> decide

theorem inR_tmod {k : IntKind} {a b : Int} (h : InR k a) : InR k (a.tmod b) := by
  obtain ⟨h1, h2⟩ := h
  obtain ⟨h3, h4⟩ := kmin_le k
  have h5 : (a.tmod b).natAbs = a.natAbs % b.natAbs := Int.natAbs_tmod a b
  have h6 : a.natAbs % b.natAbs ≤ a.natAbs := Nat.mod_le _ _
  by_cases ha : 0 ≤ a
  · have := Int.tmod_nonneg b ha
    exact ⟨by omega, by omega⟩
  · have : a.tmod b ≤ 0 := by
      have h7 := Int.tmod_nonneg b (show 0 ≤ -a by omega)
      rw [Int.neg_tmod] at h7
      omega
    exact ⟨by omega, by omega⟩

theorem inR_shr {k : IntKind} {a : Int} {n : Nat} (h : InR k a) : InR k (a.fdiv (2 ^ n)) := by
  obtain ⟨h1, h2⟩ := h
  obtain ⟨h3, h4⟩ := kmin_le k
  have hp : (0 : Int) < 2 ^ n := Int.pow_pos (by decide)
  rw [Int.fdiv_eq_ediv_of_nonneg a (Int.le_of_lt hp)]
  by_cases ha : 0 ≤ a
  · have h5 : 0 ≤ a / 2 ^ n := Int.ediv_nonneg ha (Int.le_of_lt hp)
    have h6 : a / 2 ^ n ≤ a := Int.ediv_le_self _ ha
    exact ⟨by omega, by omega⟩
  · have h5 : a / 2 ^ n < 0 := Int.ediv_neg_of_neg_of_pos (by omega) hp
    have h6 : a ≤ a / 2 ^ n := by
      refine Int.le_ediv_of_mul_le hp ?_
      have : a * 2 ^ n ≤ a * 1 := Int.mul_le_mul_of_nonpos_left (by omega) (by omega)
      omega
    exact ⟨by omega, by omega⟩

theorem binOp_int (op : BinOp) (t : TypeId) (X Y : Operand) (k : IntKind) (a b : Int) (w : World) (z : Value)
    (h : (binOp op t (.int k a) (.int k b)).run E.P w = .ok z w) :
    (do eqGuard op t X Y (.int k a) (.int k b); binOp op t (.int k a) (.int k b) : Sem Value).run E.P w = .ok z w := by
  have hg : (eqGuard op t X Y (.int k a) (.int k b)).run E.P w = .ok () w := by
    cases op <;> simp [eqGuard]
  rw [Sem.run_bind, hg]
  exact h

theorem run_equal_bool {t : TypeId} (hu : E.P.underlying t = some .bool) (a b : Bool) (w : World) : (Op.equal t (.bool a) (.bool b)).run E.P w = .ok (a == b) w := by
  show (Op.equalIn (9999 + 1) t _ _).run E.P w = _
  unfold Op.equalIn
  rw [Sem.run_bind, run_und hu]
  rfl
theorem run_equal_ptr {t e : TypeId} (hu : E.P.underlying t = some (.pointer e)) (a : Addr) (w : World) : (Op.equal t (.pointer (some a)) (.pointer none)).run E.P w = .ok false w := by
  show (Op.equalIn (9999 + 1) t _ _).run E.P w = _
  unfold Op.equalIn
  rw [Sem.run_bind, run_und hu]
  rfl
theorem run_equal_nil {t e : TypeId} (hu : E.P.underlying t = some (.pointer e)) (w : World) : (Op.equal t (.pointer none) (.pointer none)).run E.P w = .ok true w := by
  show (Op.equalIn (9999 + 1) t _ _).run E.P w = _
  unfold Op.equalIn
  rw [Sem.run_bind, run_und hu]
  rfl
/-- == and != by way of 'equal', where the guard lets the values by -/
theorem bin_eql {t : TypeId} {X Y : Operand} {x y : Value} {b : Bool} {w : World} (hg : (eqGuard .eql t X Y x y).run E.P w = .ok () w)
    (hb : binOp .eql t x y = do pure (.bool (← Op.equal t x y))) (h : (Op.equal t x y).run E.P w = .ok b w) :
    (do eqGuard .eql t X Y x y; binOp .eql t x y : Sem Value).run E.P w = .ok (.bool b) w := by
  rw [Sem.run_bind, hg, Result.andThen_ok, hb, Sem.run_bind, h]
  rfl
theorem bin_neq {t : TypeId} {X Y : Operand} {x y : Value} {b : Bool} {w : World} (hg : (eqGuard .neq t X Y x y).run E.P w = .ok () w)
    (hb : binOp .neq t x y = do pure (.bool (!(← Op.equal t x y)))) (h : (Op.equal t x y).run E.P w = .ok b w) :
    (do eqGuard .neq t X Y x y; binOp .neq t x y : Sem Value).run E.P w = .ok (.bool (!b)) w := by
  rw [Sem.run_bind, hg, Result.andThen_ok, hb, Sem.run_bind, h]
  rfl

theorem eBin_ok (hE : EnvOK E) {t : TypeId} {op : BinOp} {x y : V} {K : V → Option R} {r : R} (h : eBin E t op x y K = some r) :
    ∃ v, K v = some r ∧ ∀ (ρ : Ren) (X Y : Operand) (xv yv : Value) (w : World), VR ρ x xv → VR ρ y yv →
      ∃ z, (do eqGuard op t X Y xv yv; binOp op t xv yv : Sem Value).run E.P w = .ok z w ∧ VR ρ v z := by
  unfold eBin at h
  split at h
  · rename_i k a k' b
    cases op <;> simp only at h
    case shl =>
      obtain ⟨h1, h2⟩ := chk_some h
      refine ⟨_, h2, fun ρ X Y xv yv w hx hy => ?_⟩
      obtain ⟨rfl, ra⟩ := vr_int hx
      obtain ⟨rfl, rb⟩ := vr_int hy
      have h1 : 0 ≤ b := by simpa using h1
      refine ⟨_, ?_, VR_int (InR.wrap k _)⟩
      simp [eqGuard, binOp, Op.shift, show ¬ b < 0 by omega, ishl]
    case shr =>
      obtain ⟨h1, h2⟩ := chk_some h
      refine ⟨_, h2, fun ρ X Y xv yv w hx hy => ?_⟩
      obtain ⟨rfl, ra⟩ := vr_int hx
      obtain ⟨rfl, rb⟩ := vr_int hy
      have h1 : 0 ≤ b := by simpa using h1
      refine ⟨_, ?_, VR_int (inR_shr (n := min b.toNat k.bits) ra)⟩
      simp [eqGuard, binOp, Op.shift, show ¬ b < 0 by omega, ishr]
    case quo =>
      split at h
      · rename_i e
        subst e
        obtain ⟨hb, h⟩ := chk_some h
        refine ⟨_, h, fun ρ X Y xv yv w hx hy => ?_⟩
        obtain ⟨rfl, ra⟩ := vr_int hx
        obtain ⟨rfl, rb⟩ := vr_int hy
        have hb : b ≠ 0 := by simpa using hb
        exact ⟨_, binOp_int _ _ X Y _ _ _ _ _ (by simp [binOp, Op.intDiv, hb]), VR_int (InR.wrap k _)⟩
      · cases h
    case rem =>
      split at h
      · rename_i e
        subst e
        obtain ⟨hb, h⟩ := chk_some h
        refine ⟨_, h, fun ρ X Y xv yv w hx hy => ?_⟩
        obtain ⟨rfl, ra⟩ := vr_int hx
        obtain ⟨rfl, rb⟩ := vr_int hy
        have hb : b ≠ 0 := by simpa using hb
        exact ⟨_, binOp_int _ _ X Y _ _ _ _ _ (by simp [binOp, Op.intDiv, hb]), VR_int (inR_tmod ra)⟩
      · cases h
    all_goals
      split at h
      · rename_i e
        subst e
        refine ⟨_, h, fun ρ X Y xv yv w hx hy => ?_⟩
        obtain ⟨rfl, ra⟩ := vr_int hx
        obtain ⟨rfl, rb⟩ := vr_int hy
        refine ⟨_, ?_, (by first | exact VR_bool | exact VR_int (InR.wrap k _))⟩
        exact binOp_int _ _ X Y _ _ _ _ _ (by first | (simp [binOp, Op.intArith, Op.intCmp]; done) | (simp only [binOp, ne_eq, not_true_eq_false, if_false]; rfl))
      · cases h
  · rename_i a b
    cases op <;> simp only at h
    case add =>
      obtain ⟨h1, h2⟩ := chk_some h
      refine ⟨_, h2, fun ρ X Y xv yv w hx hy => ?_⟩
      obtain ⟨s, rfl, ha⟩ := vr_str hx
      obtain ⟨s', rfl, hb⟩ := vr_str hy
      have hl : a.length = s.size := by rw [ha, List.length_map, Array.length_toList]; rfl
      have hl' : b.length = s'.size := by rw [hb, List.length_map, Array.length_toList]; rfl
      have h1 : a.length + b.length ≤ 10000000000 := by have := of_decide_eq_true h1; simpa [maxLength] using this
      refine ⟨.string (s ++ s'), ?_, ⟨_, rfl, ?_⟩⟩
      · have : ¬ ((s.size + s'.size : Nat) : Int) > IntKind.i64.max := by
          have : IntKind.i64.max = 9223372036854775807 := by decide
          omega
        show (Op.stringOp .add s s').run E.P w = _
        unfold Op.stringOp
        simp only [this, if_false]
        rfl
      · simp only [bytesOf] at *
        rw [ha, hb]
        simp
    case eql =>
      refine ⟨_, h, fun ρ X Y xv yv w hx hy => ?_⟩
      obtain ⟨s, rfl, ha⟩ := vr_str hx
      obtain ⟨s', rfl, hb⟩ := vr_str hy
      exact ⟨_, by rw [bytes_inj ha hb]; rfl, VR_bool⟩
    case neq =>
      refine ⟨_, h, fun ρ X Y xv yv w hx hy => ?_⟩
      obtain ⟨s, rfl, ha⟩ := vr_str hx
      obtain ⟨s', rfl, hb⟩ := vr_str hy
      exact ⟨_, by rw [bytes_inj ha hb]; rfl, VR_bool⟩
    all_goals cases h
  · rename_i a b
    split at h
    · rename_i hu
      have hu := und_some hu (by simp)
      cases op <;> simp only at h
      case eql =>
        refine ⟨_, h, fun ρ X Y xv yv w hx hy => ?_⟩
        obtain rfl := vr_bool hx
        obtain rfl := vr_bool hy
        exact ⟨_, bin_eql rfl rfl (run_equal_bool hu a b w), VR_bool⟩
      case neq =>
        refine ⟨_, h, fun ρ X Y xv yv w hx hy => ?_⟩
        obtain rfl := vr_bool hx
        obtain rfl := vr_bool hy
        exact ⟨_, bin_neq rfl rfl (run_equal_bool hu a b w), VR_bool⟩
      all_goals cases h
    · cases h
  · rename_i k n a k' n' b
    split at h
    · rename_i k'' n'' he
      split at h
      · rename_i e
        obtain ⟨rfl, rfl, rfl, rfl⟩ := e
        cases op <;> simp only at h
        case eql =>
          refine ⟨_, h, fun ρ X Y xv yv w hx hy => ?_⟩
          obtain ⟨rfl, l1, r1⟩ := vr_ints hx
          obtain ⟨rfl, l2, r2⟩ := vr_ints hy
          obtain ⟨g1, g2, g3⟩ := hE.eqi _ _ _ he X Y a b w l1 l2 r1 r2
          exact ⟨_, bin_eql g1 rfl g3, VR_bool⟩
        case neq =>
          refine ⟨_, h, fun ρ X Y xv yv w hx hy => ?_⟩
          obtain ⟨rfl, l1, r1⟩ := vr_ints hx
          obtain ⟨rfl, l2, r2⟩ := vr_ints hy
          obtain ⟨g1, g2, g3⟩ := hE.eqi _ _ _ he X Y a b w l1 l2 r1 r2
          exact ⟨_, bin_neq g2 rfl g3, VR_bool⟩
        all_goals cases h
      · cases h
    · cases h
  · rename_i n a n' b
    split at h
    · rename_i n'' he
      split at h
      · rename_i e
        obtain ⟨rfl, rfl⟩ := e
        cases op <;> simp only at h
        case eql =>
          refine ⟨_, h, fun ρ X Y xv yv w hx hy => ?_⟩
          obtain ⟨rfl, l1⟩ := vr_bools hx
          obtain ⟨rfl, l2⟩ := vr_bools hy
          obtain ⟨g1, g2, g3⟩ := hE.eqb _ _ he X Y a b w l1 l2
          exact ⟨_, bin_eql g1 rfl g3, VR_bool⟩
        case neq =>
          refine ⟨_, h, fun ρ X Y xv yv w hx hy => ?_⟩
          obtain ⟨rfl, l1⟩ := vr_bools hx
          obtain ⟨rfl, l2⟩ := vr_bools hy
          obtain ⟨g1, g2, g3⟩ := hE.eqb _ _ he X Y a b w l1 l2
          exact ⟨_, bin_neq g2 rfl g3, VR_bool⟩
        all_goals cases h
      · cases h
    · cases h
  · split at h
    · rename_i e hu
      have hu := und_some hu (by simp)
      have hp : ∀ {ρ : Ren} {b base ext : Nat} {off : Int} {sz : Nat} {x : Value}, VR ρ (.ptr b base ext off sz) x → ∃ a, x = .pointer (some a) := by
        intro ρ b base ext off sz x hx
        obtain ⟨p, _, _, _, _, e⟩ := hx
        simp at e
        exact ⟨_, e⟩
      cases op <;> simp only at h
      case eql =>
        refine ⟨_, h, fun ρ X Y xv yv w hx hy => ?_⟩
        obtain ⟨a, rfl⟩ := hp hx
        obtain rfl : yv = .pointer none := by simpa [VR, wrapR, Cells] using hy
        exact ⟨_, bin_eql rfl rfl (run_equal_ptr hu a w), VR_bool⟩
      case neq =>
        refine ⟨_, h, fun ρ X Y xv yv w hx hy => ?_⟩
        obtain ⟨a, rfl⟩ := hp hx
        obtain rfl : yv = .pointer none := by simpa [VR, wrapR, Cells] using hy
        exact ⟨_, bin_neq rfl rfl (run_equal_ptr hu a w), VR_bool⟩
      all_goals cases h
    · cases h
  · split at h
    · rename_i e hu
      have hu := und_some hu (by simp)
      cases op <;> simp only at h
      case eql =>
        refine ⟨_, h, fun ρ X Y xv yv w hx hy => ?_⟩
        obtain rfl : xv = .pointer none := by simpa [VR, wrapR, Cells] using hx
        obtain rfl : yv = .pointer none := by simpa [VR, wrapR, Cells] using hy
        exact ⟨_, bin_eql rfl rfl (run_equal_nil hu w), VR_bool⟩
      case neq =>
        refine ⟨_, h, fun ρ X Y xv yv w hx hy => ?_⟩
        obtain rfl : xv = .pointer none := by simpa [VR, wrapR, Cells] using hx
        obtain rfl : yv = .pointer none := by simpa [VR, wrapR, Cells] using hy
        exact ⟨_, bin_neq rfl rfl (run_equal_nil hu w), VR_bool⟩
      all_goals cases h
    · cases h
  · cases h
end
end Go.Ev

/-
  More operations that touch no memory: one by one.
-/
namespace Go.Ev

section
variable {E : Env} {R : Type}

theorem eUn_ok {op : UnOp} {x : V} {K : V → Option R} {r : R} (h : eUn op x K = some r) :
    ∃ v, K v = some r ∧ ∀ (ρ : Ren) (xv : Value) (w : World), VR ρ x xv → ∃ z, (Op.unary op xv).run E.P w = .ok z w ∧ VR ρ v z := by
  unfold eUn at h
  split at h
  · refine ⟨_, h, fun ρ xv w hx => ?_⟩
    obtain ⟨rfl, ra⟩ := vr_int hx
    exact ⟨_, rfl, VR_int (InR.wrap _ _)⟩
  · refine ⟨_, h, fun ρ xv w hx => ?_⟩
    obtain ⟨rfl, ra⟩ := vr_int hx
    exact ⟨_, rfl, VR_int (InR.wrap _ _)⟩
  · refine ⟨_, h, fun ρ xv w hx => ?_⟩
    obtain rfl := vr_bool hx
    exact ⟨_, rfl, VR_bool⟩
  · cases h

theorem ePick_ok {c a b : V} {K : V → Option R} {r : R} (h : ePick c a b K = some r) :
    ∃ v, K v = some r ∧ ∀ (ρ : Ren) (cv av bv : Value) (w : World), VR ρ c cv → VR ρ a av → VR ρ b bv →
      ∃ z, (do pure (Next.value (if ← asBool cv then av else bv)) : Sem Next).run E.P w = .ok (.value z) w ∧ VR ρ v z := by
  unfold ePick at h
  split at h
  · rename_i c
    split at h
    · refine ⟨_, h, fun ρ cv av bv w hc ha hb => ?_⟩
      obtain rfl := vr_bool hc
      obtain rfl := vr_bool ha
      obtain rfl := vr_bool hb
      cases c <;> exact ⟨_, rfl, VR_bool⟩
    · cases c
      · refine ⟨_, h, fun ρ cv av bv w hc ha hb => ?_⟩
        obtain rfl := vr_bool hc
        exact ⟨_, rfl, hb⟩
      · refine ⟨_, h, fun ρ cv av bv w hc ha hb => ?_⟩
        obtain rfl := vr_bool hc
        exact ⟨_, rfl, ha⟩
  · cases h

theorem addz_eq (a b : Int) : addz a b = a + b := by
  unfold addz
  split
  · simp
  · rfl

theorem addr_add (b o n : Nat) : (⟨b, o, none⟩ : Addr).add n = ⟨b, o + n, none⟩ := by unfold Addr.add; split <;> simp_all

theorem vr_ptr {ρ : Ren} {b base ext : Nat} {off : Int} {sz : Nat} {x : Value} (h : VR ρ (.ptr b base ext off sz) x) :
    ∃ p, ρ b = some p ∧ p.nil = false ∧ 0 ≤ off ∧ (off.toNat + sz ≤ ext ∧ base + ext ≤ p.cn) ∧ x = .pointer (some ⟨p.blk, p.base + (base + off.toNat), none⟩) := by
  simpa [VR, wrapR, Cells] using h
theorem vr_rptr {ρ : Ren} {b : Nat} {i off : Int} {sz : Nat} {x : Value} (h : VR ρ (.rptr b i off sz) x) :
    ∃ p, ρ b = some p ∧ p.nil = false ∧ 0 ≤ i ∧ i.toNat < p.n ∧ 0 ≤ off ∧ off.toNat + sz ≤ p.es ∧ x = .pointer (some ⟨p.blk, p.base + (i.toNat * p.es + off.toNat), none⟩) := by
  simpa [VR, wrapR, Cells] using h
theorem VR_ptr {ρ : Ren} {b base ext : Nat} {off : Int} {sz : Nat} {p : Info} (h1 : ρ b = some p) (h2 : p.nil = false) (h3 : 0 ≤ off) (h4 : off.toNat + sz ≤ ext) (h5 : base + ext ≤ p.cn)
    {a : Nat} (h6 : a = p.base + (base + off.toNat)) : VR ρ (.ptr b base ext off sz) (.pointer (some ⟨p.blk, a, none⟩)) := ⟨p, h1, h2, h3, ⟨h4, h5⟩, by rw [h6]⟩
theorem VR_rptr {ρ : Ren} {b : Nat} {i off : Int} {sz : Nat} {p : Info} (h1 : ρ b = some p) (h2 : p.nil = false) (h3 : 0 ≤ i) (h4 : i.toNat < p.n) (h5 : 0 ≤ off) (h6 : off.toNat + sz ≤ p.es)
    {a : Nat} (h7 : a = p.base + (i.toNat * p.es + off.toNat)) : VR ρ (.rptr b i off sz) (.pointer (some ⟨p.blk, a, none⟩)) := ⟨p, h1, h2, h3, h4, h5, h6, by rw [h7]⟩

theorem eFieldAddr_ok {t : TypeId} {x : V} {f : Nat} {K : V → Option R} {r : R} (h : eFieldAddr E t x f K = some r) :
    ∃ v, K v = some r ∧ ∀ (ρ : Ren) (xv : Value) (w : World), VR ρ x xv → ∃ z, (Instr.fieldAt t xv f).run E.P w = .ok z w ∧ VR ρ v z := by
  unfold eFieldAddr at h
  split at h
  · rename_i fs hu
    have hu := und_some hu (by simp)
    split at h
    · rename_i fd hf
      simp only at h
      split at h
      · cases h
      · rename_i hz
        have hz : 0 < E.size fd.type := by omega
        have run : ∀ (a : Addr) (w : World), (Instr.fieldAt t (.pointer (some a)) f).run E.P w = .ok (.pointer (some (a.add fd.offset))) w := fun a w => by
          unfold Instr.fieldAt
          rw [Sem.run_bind, run_und hu]
          simp only [Result.andThen, hf]
          simp [Instr.sureAddr, fieldPlace, run_size hz, show ¬ E.size fd.type = 0 by omega]
        split at h
        · rename_i b base ext off sz
          split at h
          · rename_i hle
            split at h
            · refine ⟨_, h, fun ρ xv w hx => ?_⟩
              obtain ⟨p, h1, h2, h3, h4, rfl⟩ := vr_ptr hx
              refine ⟨_, by rw [run, addr_add], VR_ptr h1 h2 (by omega) (by simp) ?_ ?_⟩
              · simp at h4; omega
              · simp; omega
            · refine ⟨_, h, fun ρ xv w hx => ?_⟩
              obtain ⟨p, h1, h2, h3, h4, rfl⟩ := vr_ptr hx
              exact ⟨_, by rw [run, addr_add], VR_ptr h1 h2 h3 (by omega) (by omega) (by omega)⟩
          · cases h
        · rename_i b i off sz
          split at h
          · rename_i hle
            refine ⟨_, h, fun ρ xv w hx => ?_⟩
            obtain ⟨p, h1, h2, h3, h4, h5, h6, rfl⟩ := vr_rptr hx
            refine ⟨_, by rw [run, addr_add], VR_rptr h1 h2 h3 h4 ?_ ?_ ?_⟩ <;> rw [addz_eq] <;> omega
          · cases h
        · cases h
    · cases h
  · cases h

theorem scale_eq (i : Int) (es : Nat) : scale i es = i * es := by
  unfold scale
  split <;> simp

theorem run_part {ρ : Ren} {t : TypeId} {cs : List Value} {off : Nat} {v : V} (hz : 0 < E.size t) (h : SubPost ρ cs off (E.agg t) (E.size t) v) (w : World) :
    ∃ z, (part t cs.toArray off).run E.P w = .ok z w ∧ VR ρ v z := by
  unfold part
  rw [Sem.run_bind, run_agg hz]
  cases ha : E.agg t with
  | true =>
    rw [ha] at h
    refine ⟨_, ?_, h.1 rfl⟩
    simp only [Result.andThen, if_true]
    rw [Sem.run_bind, run_size hz]
    simp only [Result.andThen, Sem.run_pure]
    congr 2
    apply Array.ext'
    simp [cut]
  | false =>
    rw [ha] at h
    obtain ⟨x, hx, hv⟩ := h.2 rfl
    exact ⟨x, by simp [hx], hv⟩

theorem VR_isAgg {ρ : Ren} {v : V} {x : Value} (ha : v.isAgg = true) (h : VR ρ v x) : ∃ cs : List Value, x = .agg cs.toArray ∧ Cells ρ v cs ∧ cs.length = v.size := by
  cases v <;> first
    | (simp [V.isAgg] at ha; done)
    | (obtain ⟨cs, rfl, hc⟩ := h; exact ⟨cs, rfl, hc, Cells.length _ _ rfl hc⟩)

/-- (the value that 'sub' hands on hangs on no names' places) -/
theorem eField_ok {t : TypeId} {x : V} {f : Nat} {K : V → Option R} {r : R} (h : eField E t x f K = some r) :
    ∃ v, K v = some r ∧ ∀ (ρ : Ren) (xv : Value) (w : World), VR ρ x xv → ∃ z, (Instr.field t xv f).run E.P w = .ok z w ∧ VR ρ v z := by
  unfold eField at h
  split at h
  · rename_i fs hu
    have hu := und_some hu (by simp)
    split at h
    · rename_i fd hf
      split at h
      · rename_i hc
        obtain ⟨h1, h2, h3⟩ := hc
        obtain ⟨v, hk, hs⟩ := sub_ok' h
        refine ⟨v, hk, fun ρ xv w hx => ?_⟩
        obtain ⟨cs, rfl, hcs, hl⟩ := VR_isAgg h3 hx
        have hs := hs ρ cs hcs (by omega) (by simp) (by omega) h2
        obtain ⟨z, hz, hv⟩ := run_part (E := E) h2 hs w
        refine ⟨z, ?_, hv⟩
        unfold Instr.field
        rw [Sem.run_bind, run_und hu]
        simp only [Result.andThen, hf]
        rw [Sem.run_bind]
        simpa [asAgg] using hz
      · cases h
    · cases h
  · cases h

theorem eIndex_ok {t : TypeId} {x i : V} {K : V → Option R} {r : R} (h : eIndex E t x i K = some r) :
    ∃ v, K v = some r ∧ ∀ (ρ : Ren) (xv iv : Value) (w : World), VR ρ x xv → VR ρ i iv → ∃ z, (Instr.index t xv iv).run E.P w = .ok z w ∧ VR ρ v z := by
  unfold eIndex at h
  split at h
  · rename_i k i
    split at h
    · rename_i x len elem hu
      have hu := und_some hu (by simp)
      split at h
      · rename_i hc
        obtain ⟨hz, hle, ha⟩ := hc
        obtain ⟨h0, h⟩ := chk_some h
        obtain ⟨h1, h⟩ := chk_some h
        have h0 : 0 ≤ i := by simpa using h0
        have h1 : i < len := by simpa using h1
        have hn : (scale i (E.size elem)).toNat = i.toNat * E.size elem := by
          rw [scale_eq]
          obtain ⟨j, rfl⟩ := Int.eq_ofNat_of_zero_le h0
          rw [← Int.natCast_mul, Int.toNat_natCast, Int.toNat_natCast]
        have hlt : (i.toNat + 1) * E.size elem ≤ len * E.size elem := Nat.mul_le_mul_right _ (by omega)
        rw [Nat.add_mul, Nat.one_mul] at hlt
        obtain ⟨v, hk, hs⟩ := sub_ok' h
        refine ⟨v, hk, fun ρ xv iv w hx hi => ?_⟩
        obtain ⟨rfl, _⟩ := vr_int hi
        obtain ⟨cs, rfl, hcs, hl⟩ := VR_isAgg ha hx
        have hs := hs ρ cs hcs (by rw [scale_eq]; exact Int.mul_nonneg h0 (by omega)) (by omega) (by omega) hz
        rw [hn, Nat.zero_add] at hs
        obtain ⟨z, hzr, hv⟩ := run_part (E := E) hz hs w
        refine ⟨z, ?_, hv⟩
        unfold Instr.index
        rw [Sem.run_bind]
        simp only [asIntOf, Sem.run_pure, Result.andThen]
        rw [Sem.run_bind, run_und hu]
        simp only [Result.andThen, h0, h1, and_self, if_true]
        rw [Sem.run_bind, run_size hz]
        exact hzr
      · cases h
    · rename_i l hu
      have hu := und_some hu (by simp)
      obtain ⟨h0, h⟩ := chk_some h
      obtain ⟨h1, h⟩ := chk_some h
      have h0 : 0 ≤ i := by simpa using h0
      have h1 : i < l.length := by simpa using h1
      refine ⟨_, h, fun ρ xv iv w hx hi => ?_⟩
      obtain ⟨s, rfl, hb⟩ := vr_str hx
      obtain ⟨rfl, _⟩ := vr_int hi
      have hlt : i.toNat < s.data.toList.length := by
        have : l.length = s.data.toList.length := by rw [hb, List.length_map]
        omega
      have hz : at0 l i.toNat = (s.data.toList[i.toNat].toNat : Int) := by
        have := at0_some (l := l) (i := i.toNat) (by omega)
        rw [hb] at this ⊢
        rw [List.getElem?_map, List.getElem?_eq_getElem hlt] at this
        simpa using this.symm
      refine ⟨.int .u8 (at0 l i.toNat), ?_, VR_int ?_⟩
      · unfold Instr.index
        have hs : s[i.toNat]? = some s.data.toList[i.toNat] := by
          have : i.toNat < s.size := by simpa using hlt
          rw [getElem?_pos s i.toNat this]
          rfl
        simp [asIntOf, run_und hu, h0, hs, hz]
      · rw [hz]
        have := UInt8.toNat_lt (s.data.toList[i.toNat])
        have e1 : IntKind.u8.min = 0 := by decide
        have e2 : IntKind.u8.max = 255 := by decide
        constructor <;> omega
    · cases h
  · cases h
end
end Go.Ev
