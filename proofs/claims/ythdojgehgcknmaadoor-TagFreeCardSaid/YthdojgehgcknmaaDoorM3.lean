/-
  Addresses, lengths, parts of slices.
-/
import Derived.Test.YthdojgehgcknmaaDoorM2
import Derived.Laws.MakeOwn
import Derived.Great.FillDense
import Derived.Laws.Tables
import Derived.DataReads
namespace Go.Ev

section
variable {E : Env} {R : Type}

theorem elems_ok {c : V} {n : Int} {k : Option Nat} (h : c.elems = some (n, k)) {p : Info} (he : EOK c p) {ρ : Ren} {cs : List Value} (hc : Cells ρ c cs) :
    n = p.n ∧ p.es = k.getD 1 ∧ cs.length = p.n * p.es := by
  unfold V.elems at h
  split at h <;> simp only [Option.some.injEq, Prod.mk.injEq, reduceCtorEq] at h <;> obtain ⟨rfl, rfl⟩ := h
  · obtain ⟨rfl, _⟩ := hc; simp [he.1, he.2]
  · simp only [Cells] at hc; subst hc; simp [he.1, he.2]
  · obtain ⟨ss, rfl, hl, _⟩ := hc; simp [he.1, he.2, hl]
  · obtain ⟨rfl, hn, _⟩ := hc; exact ⟨by rw [he.1], by simp [he.2], by rw [List.length_map, sum_len _ hn, he.1, he.2]⟩
  · obtain ⟨rfl, hl, _⟩ := hc; simp [he.1, he.2, hl]
  · obtain ⟨rfl, hl⟩ := hc; simp [he.1, he.2, hl]

theorem run_indexAt_array {t elem : TypeId} {len : Nat} {a : Addr} {k : IntKind} {i : Int} (hu : E.P.underlying t = some (.array len elem)) (hz : 0 < E.size elem) (h0 : 0 ≤ i) (h1 : i < len) (w : World) :
    (Instr.indexAt t (.pointer (some a)) (.int k i)).run E.P w = .ok (.pointer (some (a.add (i.toNat * E.size elem)))) w := by
  unfold Instr.indexAt
  simp only [asIntOf, pure_bind]
  rw [Sem.run_bind, run_und hu]
  simp only [Result.andThen_ok, Instr.sureAddr, pure_bind]
  rw [Sem.run_bind, run_und hu]
  simp only [Result.andThen_ok, h0, h1, and_self, if_true]
  rw [Sem.run_bind, run_size hz]
  rfl

theorem run_indexAt_slice {t elem : TypeId} {len cap : Nat} {a : Addr} {k : IntKind} {i : Int} (hu : E.P.underlying t = some (.slice elem)) (hz : 0 < E.size elem) (h0 : 0 ≤ i) (h1 : i < len) (w : World) :
    (Instr.indexAt t (.slice (some a) len cap) (.int k i)).run E.P w = .ok (.pointer (some (a.add (i.toNat * E.size elem)))) w := by
  unfold Instr.indexAt
  simp only [asIntOf, pure_bind]
  rw [Sem.run_bind, run_und hu]
  simp only [Result.andThen_ok]
  rw [Sem.run_bind, run_und hu]
  simp only [Result.andThen_ok, h0, h1, and_self, if_true]
  rw [Sem.run_bind, run_size hz]
  rfl

theorem toNat_scale {i : Int} (h : 0 ≤ i) (es : Nat) : (scale i es).toNat = i.toNat * es ∧ 0 ≤ scale i es := by
  rw [scale_eq]
  obtain ⟨j, rfl⟩ := Int.eq_ofNat_of_zero_le h
  rw [← Int.natCast_mul]
  exact ⟨by rw [Int.toNat_natCast, Int.toNat_natCast], Int.natCast_nonneg _⟩

theorem eIndexAddr_ok {s : St} {t : TypeId} {x i : V} {K : V → List Nat → Option R} {r : R} (h : eIndexAddr E s t x i K = some r) :
    ∃ v rd, K v rd = some r ∧ ∀ (ρ : Ren) (m1 : Mem) (xv iv : Value) (w : World), VR ρ x xv → VR ρ i iv → RM ρ m1 w → (∀ b, b ∈ rd → m1 b = mget s.m b) →
      ∃ z, (Instr.indexAt t xv iv).run E.P w = .ok z w ∧ VR ρ v z := by
  unfold eIndexAddr at h
  split at h
  · rename_i k i
    split at h
    · rename_i len elem b base ext off sz hu
      have hu := und_some hu (by simp)
      simp only at h
      split at h
      · rename_i hz
        obtain ⟨h0, h⟩ := chk_some h
        obtain ⟨h1, h⟩ := chk_some h
        have h0 : 0 ≤ i := by simpa using h0
        have h1 : i < len := by simpa using h1
        refine ⟨_, _, h, fun ρ m1 xv iv w hx hi _ _ => ?_⟩
        obtain ⟨rfl, _⟩ := vr_int hi
        obtain ⟨p, h2, h3, h4, h5, rfl⟩ := vr_ptr hx
        obtain ⟨e1, e2⟩ := toNat_scale h0 (E.size elem)
        have hlt : (i.toNat + 1) * E.size elem ≤ len * E.size elem := Nat.mul_le_mul_right _ (by omega)
        rw [Nat.add_mul, Nat.one_mul] at hlt
        refine ⟨_, by rw [run_indexAt_array hu hz.1 h0 h1, addr_add], VR_ptr h2 h3 ?_ ?_ h5.2 ?_⟩ <;> rw [addz_eq] <;> omega
      · cases h
    · rename_i len elem b i' off sz hu
      have hu := und_some hu (by simp)
      simp only at h
      split at h
      · rename_i hz
        obtain ⟨h0, h⟩ := chk_some h
        obtain ⟨h1, h⟩ := chk_some h
        have h0 : 0 ≤ i := by simpa using h0
        have h1 : i < len := by simpa using h1
        refine ⟨_, _, h, fun ρ m1 xv iv w hx hi _ _ => ?_⟩
        obtain ⟨rfl, _⟩ := vr_int hi
        obtain ⟨p, h2, h3, h4, h4', h5, h6, rfl⟩ := vr_rptr hx
        obtain ⟨e1, e2⟩ := toNat_scale h0 (E.size elem)
        have hlt : (i.toNat + 1) * E.size elem ≤ len * E.size elem := Nat.mul_le_mul_right _ (by omega)
        rw [Nat.add_mul, Nat.one_mul] at hlt
        refine ⟨_, by rw [run_indexAt_array hu hz.1 h0 h1, addr_add], VR_rptr h2 h3 h4 h4' ?_ ?_ ?_⟩ <;> rw [addz_eq] <;> omega
      · cases h
    · rename_i elem b hu
      have hu := und_some hu (by simp)
      split at h
      · rename_i wr c hb
        have key : ∀ (k' : Option Nat) (n : Int) (v : V), c.elems = some (n, k') → E.size elem = k'.getD 1 → 0 < E.size elem → 0 ≤ i → i < n →
            (∀ (ρ : Ren) (p : Info) (ad : Nat), ρ b = some p → p.nil = false → n = p.n → p.es = k'.getD 1 → p.cn = p.n * p.es → ad = p.base + i.toNat * p.es → VR ρ v (.pointer (some ⟨p.blk, ad, none⟩))) →
            ∀ (ρ : Ren) (m1 : Mem) (xv iv : Value) (w : World), VR ρ (.own b) xv → VR ρ (.int k i) iv → RM ρ m1 w → (∀ b', b' ∈ [b] → m1 b' = mget s.m b') →
              ∃ z, (Instr.indexAt t xv iv).run E.P w = .ok z w ∧ VR ρ v z := by
          intro k' n v hel hes hz h0 h1 hv ρ m1 xv iv w hx hi hm hr
          obtain ⟨rfl, _⟩ := vr_int hi
          obtain ⟨p, hp, hx⟩ := vr_own hx
          obtain ⟨q, hq, ⟨cs, f1, f2, f3⟩, f4, f5, f6⟩ := hm.held b wr c ((hr b (by simp)).trans hb)
          rw [hp] at hq; cases hq
          obtain ⟨e1, e2, e3⟩ := elems_ok hel f4 f1
          rcases hx with ⟨hn, rfl⟩ | ⟨hn, cap, hcap, hpsz, rfl⟩
          · have := (f5 hn).2; omega
          · refine ⟨_, by rw [run_indexAt_slice hu hz h0 (by omega), addr_add], hv ρ p _ hp hn e1 e2 (by omega) (by rw [e2, hes])⟩
        split at h
        · rename_i n hel
          split at h
          · rename_i hes
            obtain ⟨h0, h⟩ := chk_some h
            obtain ⟨h1, h⟩ := chk_some h
            refine ⟨_, _, h, key none n _ hel hes (by omega) (by simpa using h0) (by simpa using h1) fun ρ p ad hp hn e1 e2 e3 e4 => ?_⟩
            have h0 : 0 ≤ i := by simpa using h0
            have h1 : i < n := by simpa using h1
            simp at e2
            exact VR_ptr hp hn h0 (by omega) (by rw [e3, e2]; omega) (by rw [e4, e2]; omega)
          · cases h
        · rename_i n m hel
          split at h
          · rename_i hes
            obtain ⟨h0, h⟩ := chk_some h
            obtain ⟨h1, h⟩ := chk_some h
            refine ⟨_, _, h, key (some m) n _ hel hes.1.symm (by omega) (by simpa using h0) (by simpa using h1) fun ρ p ad hp hn e1 e2 e3 e4 => ?_⟩
            have h0 : 0 ≤ i := by simpa using h0
            have h1 : i < n := by simpa using h1
            simp at e2
            exact VR_rptr hp hn h0 (by omega) (by omega) (by simp; omega) (by rw [e4]; simp)
          · cases h
        · cases h
      · cases h
    · rename_i elem b off len hu
      have hu := und_some hu (by simp)
      split at h
      · rename_i wr c hb
        have key : ∀ (k' : Option Nat) (n : Int) (v : V), c.elems = some (n, k') → E.size elem = k'.getD 1 → 0 < E.size elem → 0 ≤ i → i < len →
            (∀ (ρ : Ren) (p : Info) (ad : Nat), ρ b = some p → p.nil = false → n = p.n → p.es = k'.getD 1 → p.cn = p.n * p.es → 0 ≤ off → off + len ≤ p.n → ad = p.base + (off.toNat + i.toNat) * p.es → VR ρ v (.pointer (some ⟨p.blk, ad, none⟩))) →
            ∀ (ρ : Ren) (m1 : Mem) (xv iv : Value) (w : World), VR ρ (.sl b off len) xv → VR ρ (.int k i) iv → RM ρ m1 w → (∀ b', b' ∈ [b] → m1 b' = mget s.m b') →
              ∃ z, (Instr.indexAt t xv iv).run E.P w = .ok z w ∧ VR ρ v z := by
          intro k' n v hel hes hz h0 h1 hv ρ m1 xv iv w hx hi hm hr
          obtain ⟨rfl, _⟩ := vr_int hi
          obtain ⟨p, hp, o0, l0, hle, hx⟩ := vr_sl hx
          obtain ⟨q, hq, ⟨cs, f1, f2, f3⟩, f4, f5, f6⟩ := hm.held b wr c ((hr b (by simp)).trans hb)
          rw [hp] at hq; cases hq
          obtain ⟨e1, e2, e3⟩ := elems_ok hel f4 f1
          rcases hx with ⟨hn, rfl⟩ | ⟨hn, cap, ad, hcap, hpsz, rfl, had⟩
          · have := (f5 hn).2; omega
          · have had := had (.inl (by omega))
            subst had
            refine ⟨_, by rw [run_indexAt_slice hu hz h0 (by omega), addr_add], hv ρ p _ hp hn e1 e2 (by omega) o0 hle (by rw [e2, hes, Nat.add_mul]; omega)⟩
        split at h
        · rename_i n hel
          split at h
          · rename_i hes
            obtain ⟨h0, h⟩ := chk_some h
            obtain ⟨h1, h⟩ := chk_some h
            refine ⟨_, _, h, key none n _ hel hes (by omega) (by simpa using h0) (by simpa using h1) fun ρ p ad hp hn e1 e2 e3 o0 hle e4 => ?_⟩
            have h0 : 0 ≤ i := by simpa using h0
            have h1 : i < len := by simpa using h1
            simp at e2
            exact VR_ptr hp hn (by rw [addz_eq]; omega) (by rw [addz_eq]; omega) (by rw [e3, e2]; omega) (by rw [e4, e2, addz_eq]; omega)
          · cases h
        · rename_i n m hel
          split at h
          · rename_i hes
            obtain ⟨h0, h⟩ := chk_some h
            obtain ⟨h1, h⟩ := chk_some h
            refine ⟨_, _, h, key (some m) n _ hel hes.1.symm (by omega) (by simpa using h0) (by simpa using h1) fun ρ p ad hp hn e1 e2 e3 o0 hle e4 => ?_⟩
            have h0 : 0 ≤ i := by simpa using h0
            have h1 : i < len := by simpa using h1
            simp at e2
            refine VR_rptr hp hn (by rw [addz_eq]; omega) (by rw [addz_eq]; omega) (by omega) (by simp; omega) ?_
            rw [e4, addz_eq, show (off + i).toNat = off.toNat + i.toNat by omega]
            simp
          · cases h
        · cases h
      · cases h
    · cases h
  · cases h
end
end Go.Ev

/-
  Length, slicing, arrays of slices.
-/
namespace Go.Ev

section
variable {E : Env} {R : Type}

def OptR (ρ : Ren) : Option V → Option Value → Prop
  | none, none => True
  | some x, some y => VR ρ x y
  | _, _ => False

theorem slLo_ok {ρ : Ren} {lo : Option V} {l : Int} {lov : Option Value} (h : slLo lo = some l) (hr : OptR ρ lo lov) :
    (lo = none ∧ lov = none ∧ l = 0) ∨ ∃ k x, lo = some x ∧ lov = some (.int k l) := by
  unfold slLo at h
  split at h
  · cases h
    cases lov with
    | none => exact .inl ⟨rfl, rfl, rfl⟩
    | some _ => exact hr.elim
  · cases h
    cases lov with
    | none => exact hr.elim
    | some y => exact .inr ⟨_, _, rfl, by rw [(vr_int hr).1]⟩
  · cases h

theorem slHi_ok {ρ : Ren} {hi : Option V} {n h : Int} {hiv : Option Value} (hh : slHi hi n = some h) (hr : OptR ρ hi hiv) :
    (hi = none ∧ hiv = none ∧ h = n) ∨ ∃ k x, hi = some x ∧ hiv = some (.int k h) := by
  unfold slHi at hh
  split at hh
  · cases hh
    cases hiv with
    | none => exact .inl ⟨rfl, rfl, rfl⟩
    | some _ => exact hr.elim
  · cases hh
    cases hiv with
    | none => exact hr.elim
    | some y => exact .inr ⟨_, _, rfl, by rw [(vr_int hr).1]⟩
  · cases hh

theorem run_bound (P : Program) (k : IntKind) (i : Int) (y : Nat) (code : BoundsCode) (w : World) (h0 : 0 ≤ i) (h1 : i ≤ y) :
    (Instr.sliceBound (.int k i) y code).run P w = .ok i.toNat w := by
  simp [Instr.sliceBound, asIntOf, h0, h1]

theorem run_bounds {P : Program} {isSlice : Bool} {len cap : Nat} {lov hiv mxv : Option Value} {l h m : Int} (w : World)
    (hl : (lov = none ∧ l = 0) ∨ ∃ k, lov = some (.int k l)) (hh : (hiv = none ∧ mxv = none ∧ h = len) ∨ ∃ k, hiv = some (.int k h))
    (hm : (mxv = none ∧ m = cap) ∨ ∃ k, mxv = some (.int k m)) (h0 : 0 ≤ l) (h1 : l ≤ h) (h2 : h ≤ m) (h3 : m ≤ cap) :
    (Instr.sliceBounds isSlice len cap lov hiv mxv).run P w = .ok (l.toNat, h.toNat, m.toNat) w := by
  have em : (m.toNat : Int) = m := Int.toNat_of_nonneg (by omega)
  have eh : (h.toNat : Int) = h := Int.toNat_of_nonneg (by omega)
  unfold Instr.sliceBounds
  rcases hm with ⟨rfl, rfl⟩ | ⟨km, rfl⟩
  · simp only [pure_bind]
    rcases hh with ⟨rfl, _, rfl⟩ | ⟨kh, rfl⟩
    · simp only
      rcases hl with ⟨rfl, rfl⟩ | ⟨kl, rfl⟩
      · simp
      · simp only
        rw [Sem.run_bind, run_bound _ _ _ _ _ _ h0 h1]
        simp
    · simp only
      rw [Sem.run_bind, run_bound _ _ _ _ _ _ (by omega) h2]
      simp only [Result.andThen_ok]
      rcases hl with ⟨rfl, rfl⟩ | ⟨kl, rfl⟩
      · simp
      · simp only
        rw [Sem.run_bind, run_bound _ _ _ _ _ _ h0 (by omega)]
        simp
  · simp only
    rw [Sem.run_bind, run_bound _ _ _ _ _ _ (by omega) h3]
    simp only [Result.andThen_ok]
    rcases hh with ⟨_, h, _⟩ | ⟨kh, rfl⟩
    · cases h
    · simp only
      rw [Sem.run_bind, run_bound _ _ _ _ _ _ (by omega) (by omega)]
      simp only [Result.andThen_ok]
      rcases hl with ⟨rfl, rfl⟩ | ⟨kl, rfl⟩
      · simp
      · simp only
        rw [Sem.run_bind, run_bound _ _ _ _ _ _ h0 (by omega)]
        simp

theorem slTail_ok {b : Nat} {off l h : Int} {lo : Option V} {K : V → List Nat → Option R} {r : R} (hs : slTail b off lo l h K = some r) (hl : lo = none → l = 0) :
    K (.sl b (off + l) (h - l)) [b] = some r := by
  unfold slTail at hs
  cases lo with
  | none => simp only at hs; rw [hl rfl]; simpa using hs
  | some x => simp only [lt] at hs; rw [addz_eq] at hs; exact hs

theorem VR_sl {ρ : Ren} {b : Nat} {off len : Int} {p : Info} {cap : Nat} {a : Addr} (hp : ρ b = some p) (h0 : 0 ≤ off) (h1 : 0 ≤ len) (h2 : off + len ≤ p.n) (hn : p.nil = false)
    (hc : off.toNat + len.toNat ≤ cap) (hz : p.base + cap * p.es ≤ p.psz) (ha : off.toNat < cap ∨ off = 0 → a = ⟨p.blk, p.base + off.toNat * p.es, none⟩) :
    VR ρ (.sl b off len) (.slice (some a) len.toNat (cap - off.toNat)) :=
  ⟨p, hp, h0, h1, h2, .inr ⟨hn, cap, a, hc, hz, rfl, ha⟩⟩

theorem ite_addr {c : Prop} [Decidable c] (a : Addr) (f : Addr → Addr) : (if c then some a else (some a).map f) = some (if c then a else f a) := by split <;> rfl

theorem bytesOf_extract {c : List Int} {s : ByteArray} (h : bytesOf c s) (l u : Nat) : bytesOf ((c.take u).drop l) (s.extract l u) := by
  unfold bytesOf at h ⊢
  rw [h, ByteArray.data_extract, Array.toList_extract, List.extract_eq_drop_take', ← List.map_take, ← List.map_drop]

theorem bytesOf_size {c : List Int} {s : ByteArray} (h : bytesOf c s) : s.size = c.length := by
  unfold bytesOf at h
  rw [h, List.length_map, Array.length_toList]
  rfl

/-- What slicing a slice gives. -/
theorem run_slice_slice {t elem : TypeId} {a : Option Addr} {len cap : Nat} {lov hiv mxv : Option Value} {l h m : Int} (w : World) (hu : E.P.underlying t = some (.slice elem)) (hz : 0 < E.size elem)
    (hl : (lov = none ∧ l = 0) ∨ ∃ k, lov = some (.int k l)) (hh : (hiv = none ∧ mxv = none ∧ h = len) ∨ ∃ k, hiv = some (.int k h))
    (hm : (mxv = none ∧ m = cap) ∨ ∃ k, mxv = some (.int k m)) (h0 : 0 ≤ l) (h1 : l ≤ h) (h2 : h ≤ m) (h3 : m ≤ cap) :
    (Instr.sliceAt t (.slice a len cap) lov hiv mxv).run E.P w = .ok (.slice (if m.toNat = l.toNat then a else a.map (·.add (l.toNat * E.size elem))) (h.toNat - l.toNat) (m.toNat - l.toNat)) w := by
  unfold Instr.sliceAt
  rw [Sem.run_bind, run_und hu]
  simp only [Result.andThen_ok]
  unfold Instr.slice
  rw [Sem.run_bind, run_und hu]
  simp only [Result.andThen_ok]
  rw [Sem.run_bind, run_bounds w hl hh hm h0 h1 h2 h3]
  simp only [Result.andThen_ok]
  rw [Sem.run_bind, run_size hz]
  rfl

theorem run_slice_array {t elem : TypeId} {a : Addr} {n : Nat} {lov hiv : Option Value} {l h : Int} (w : World) (hu : E.P.underlying t = some (.array n elem)) (hz : 0 < E.size elem)
    (hl : (lov = none ∧ l = 0) ∨ ∃ k, lov = some (.int k l)) (hh : (hiv = none ∧ h = n) ∨ ∃ k, hiv = some (.int k h))
    (h0 : 0 ≤ l) (h1 : l ≤ h) (h2 : h ≤ n) :
    (Instr.sliceAt t (.pointer (some a)) lov hiv none).run E.P w = .ok (.slice (some (if n = l.toNat then a else a.add (l.toNat * E.size elem))) (h.toNat - l.toNat) (n - l.toNat)) w := by
  unfold Instr.sliceAt
  rw [Sem.run_bind, run_und hu]
  simp only [Result.andThen_ok, Instr.sureAddr, pure_bind]
  rw [Sem.run_bind, run_bounds (m := n) w hl (hh.imp (fun h => ⟨h.1, rfl, h.2⟩) id) (.inl ⟨rfl, rfl⟩) h0 h1 h2 (Int.le_refl _)]
  simp only [Result.andThen_ok]
  rw [Sem.run_bind, run_size hz]
  rfl

theorem run_slice_string {t : TypeId} {s : ByteArray} {lov hiv : Option Value} {l h : Int} (w : World) (hu : E.P.underlying t = some .string)
    (hl : (lov = none ∧ l = 0) ∨ ∃ k, lov = some (.int k l)) (hh : (hiv = none ∧ h = s.size) ∨ ∃ k, hiv = some (.int k h))
    (h0 : 0 ≤ l) (h1 : l ≤ h) (h2 : h ≤ s.size) :
    (Instr.sliceAt t (.string s) lov hiv none).run E.P w = .ok (.string (s.extract l.toNat h.toNat)) w := by
  unfold Instr.sliceAt
  rw [Sem.run_bind, run_und hu]
  simp only [Result.andThen_ok]
  unfold Instr.slice
  rw [Sem.run_bind, run_und hu]
  simp only [Result.andThen_ok, Option.isSome_none, Bool.false_eq_true, if_false]
  rw [Sem.run_bind, run_bounds (m := s.size) w hl (hh.imp (fun h => ⟨h.1, rfl, h.2⟩) id) (.inl ⟨rfl, rfl⟩) h0 h1 h2 (Int.le_refl _)]
  rfl

theorem eSlice_ok {s : St} {t : TypeId} {x : V} {lo hi mx : Option V} {K : V → List Nat → Option R} {r : R} (h : eSlice E s t x lo hi mx K = some r) :
    ∃ v rd, K v rd = some r ∧ ∀ (ρ : Ren) (m1 : Mem) (xv : Value) (lov hiv mxv : Option Value) (w : World), VR ρ x xv → OptR ρ lo lov → OptR ρ hi hiv → OptR ρ mx mxv → RM ρ m1 w → (∀ b, b ∈ rd → m1 b = mget s.m b) →
      ∃ z, (Instr.sliceAt t xv lov hiv mxv).run E.P w = .ok z w ∧ VR ρ v z := by
  unfold eSlice at h
  split at h
  · cases h
  rename_i l hlo
  have hl0 : lo = none → l = 0 := by intro e; subst e; simp only [slLo] at hlo; cases hlo; rfl
  have hlov : ∀ {ρ : Ren} {lov : Option Value}, OptR ρ lo lov → (lov = none ∧ l = 0) ∨ ∃ k, lov = some (.int k l) := by
    intro ρ lov hr
    rcases slLo_ok hlo hr with ⟨_, h1, h2⟩ | ⟨k, _, _, h1⟩
    · exact .inl ⟨h1, h2⟩
    · exact .inr ⟨k, h1⟩
  split at h
  · -- a string
    rename_i c
    split at h
    · rename_i hu
      have hu := und_some hu (by simp)
      split at h
      · rename_i u hhi
        obtain ⟨h0, h⟩ := chk_some h
        obtain ⟨h1, h⟩ := chk_some h
        obtain ⟨h2, h⟩ := chk_some h
        have h0 : 0 ≤ l := by simpa using h0
        have h1 : l ≤ u := by simpa using h1
        have h2 : u ≤ c.length := by simpa using h2
        have he : slStr c lo hi l u = (c.take u.toNat).drop l.toNat := by
          unfold slStr
          cases lo with
          | none => simp [hl0 rfl]
          | some _ =>
            cases hi with
            | none =>
              simp only [slHi] at hhi
              cases hhi
              simp
            | some _ => rfl
        rw [he] at h
        refine ⟨_, _, h, fun ρ m1 xv lov hiv mxv w hx hlr hhr hmr _ _ => ?_⟩
        obtain ⟨b, rfl, hb⟩ := vr_str hx
        have hmx : mxv = none := by cases mxv with | none => rfl | some _ => exact hmr.elim
        subst hmx
        have hsz := bytesOf_size hb
        refine ⟨_, run_slice_string w hu (hlov hlr) ?_ h0 h1 (by omega), ⟨_, rfl, bytesOf_extract hb _ _⟩⟩
        rcases slHi_ok hhi hhr with ⟨_, e1, e2⟩ | ⟨k, _, _, e1⟩
        · exact .inl ⟨e1, by omega⟩
        · exact .inr ⟨k, e1⟩
      · cases h
    · cases h
  · -- a slice of its own
    rename_i b
    split at h
    · rename_i elem hu
      have hu := und_some hu (by simp)
      split at h
      · rename_i wr c hb
        split at h
        · rename_i n k hel
          split at h
          · rename_i hes
            have key : ∀ (u m : Int), 0 ≤ l → l ≤ u → u ≤ m → m ≤ n → ∀ (ρ : Ren) (m1 : Mem) (xv : Value) (lov hiv mxv : Option Value) (w : World), VR ρ (.own b) xv → OptR ρ lo lov → OptR ρ hi hiv → OptR ρ mx mxv →
                RM ρ m1 w → (∀ b', b' ∈ [b] → m1 b' = mget s.m b') → ((hi = none ∧ mxv = none ∧ u = n) ∨ ∃ k, hiv = some (.int k u)) → ((mxv = none ∧ m = n) ∨ ∃ k, mxv = some (.int k m)) →
                ∃ z, (Instr.sliceAt t xv lov hiv mxv).run E.P w = .ok z w ∧ VR ρ (.sl b (0 + l) (u - l)) z := by
              intro u m h0 h1 h2 h3 ρ m1 xv lov hiv mxv w hx hlr hhr hmr hm hr hhv hmv
              obtain ⟨p, hp, hx⟩ := vr_own hx
              obtain ⟨q, hq, ⟨cs, f1, f2, f3⟩, f4, f5, f6⟩ := hm.held b wr c ((hr b (by simp)).trans hb)
              rw [hp] at hq; cases hq
              obtain ⟨e1, e2, e3⟩ := elems_ok hel f4 f1
              have hhv' : (hiv = none ∧ mxv = none ∧ u = p.n) ∨ ∃ k, hiv = some (.int k u) := by
                rcases hhv with ⟨a1, a2, a3⟩ | h
                · subst a1
                  refine .inl ⟨?_, a2, by omega⟩
                  cases hiv with
                  | none => rfl
                  | some _ => exact hhr.elim
                · exact .inr h
              rcases hx with ⟨hn, rfl⟩ | ⟨hn, cap, hcap, hpsz, rfl⟩
              · have h5 := f5 hn
                have e0 : n = 0 := by omega
                refine ⟨_, run_slice_slice (m := m) w hu hes.2 (hlov hlr) (by rw [h5.2] at hhv'; exact hhv') (by rcases hmv with ⟨a1, a2⟩ | h; exact .inl ⟨a1, by omega⟩; exact .inr h) h0 h1 h2 (by omega), ?_⟩
                have el : l = 0 := by omega
                have eu : u = 0 := by omega
                have em : m = 0 := by omega
                subst el eu em
                exact ⟨p, hp, by omega, by omega, by omega, .inl ⟨hn, by simp⟩⟩
              · by_cases hmx : mxv = none
                · subst hmx
                  refine ⟨_, run_slice_slice (m := cap) w hu hes.2 (hlov hlr) hhv' (.inl ⟨rfl, rfl⟩) h0 h1 (by omega) (Int.le_refl _), ?_⟩
                  have := VR_sl (a := if (cap : Int).toNat = l.toNat then ⟨p.blk, p.base, none⟩ else (⟨p.blk, p.base, none⟩ : Addr).add (l.toNat * E.size elem)) (off := 0 + l) (len := u - l) (cap := cap) hp (by omega) (by omega) (by omega) hn (by omega) hpsz (by
                    intro ha
                    rw [addr_add, Int.zero_add, e2, ← hes.1]
                    split
                    · rename_i e
                      have : l = 0 := by omega
                      subst this; simp
                    · rfl)
                  rw [show (u - l).toNat = u.toNat - l.toNat by omega, Int.zero_add] at this
                  rw [Int.zero_add, ite_addr]
                  exact this
                · refine ⟨_, run_slice_slice (m := m) w hu hes.2 (hlov hlr) hhv' (by rcases hmv with ⟨a1, _⟩ | h; exact (hmx a1).elim; exact .inr h) h0 h1 h2 (by omega), ?_⟩
                  have hz : p.base + m.toNat * p.es ≤ p.psz := Nat.le_trans (Nat.add_le_add_left (Nat.mul_le_mul_right _ (by omega)) _) hpsz
                  have := VR_sl (a := if m.toNat = l.toNat then ⟨p.blk, p.base, none⟩ else (⟨p.blk, p.base, none⟩ : Addr).add (l.toNat * E.size elem)) (off := 0 + l) (len := u - l) (cap := m.toNat) hp (by omega) (by omega) (by omega) hn (by omega) hz (by
                    intro ha
                    rw [addr_add, Int.zero_add, e2, ← hes.1]
                    split
                    · rename_i e
                      have : l = 0 := by omega
                      subst this; simp
                    · rfl)
                  rw [show (u - l).toNat = u.toNat - l.toNat by omega, Int.zero_add] at this
                  rw [Int.zero_add, ite_addr]
                  exact this
            split at h
            · rename_i u hhi
              obtain ⟨h0, h⟩ := chk_some h
              obtain ⟨h1, h⟩ := chk_some h
              obtain ⟨h2, h⟩ := chk_some h
              refine ⟨_, _, slTail_ok h hl0, fun ρ m1 xv lov hiv mxv w hx hlr hhr hmr hm hr => ?_⟩
              have hmx : mxv = none := by cases mxv with | none => rfl | some _ => exact hmr.elim
              refine key u n (by simpa using h0) (by simpa using h1) (by simpa using h2) (Int.le_refl _) ρ m1 xv lov hiv mxv w hx hlr hhr hmr hm hr ?_ (.inl ⟨hmx, rfl⟩)
              rcases slHi_ok hhi hhr with ⟨e0, e1, e2⟩ | ⟨k, _, _, e1⟩
              · exact .inl ⟨e0, hmx, e2⟩
              · exact .inr ⟨k, e1⟩
            · rename_i u km m hhi
              split at h
              · cases h
              obtain ⟨h0, h⟩ := chk_some h
              obtain ⟨h1, h⟩ := chk_some h
              obtain ⟨h2, h⟩ := chk_some h
              obtain ⟨h3, h⟩ := chk_some h
              refine ⟨_, _, slTail_ok h hl0, fun ρ m1 xv lov hiv mxv w hx hlr hhr hmr hm hr => ?_⟩
              have hmx : mxv = some (.int km m) := by
                cases mxv with
                | none => exact hmr.elim
                | some y => rw [(vr_int hmr).1]
              refine key u m (by simpa using h0) (by simpa using h1) (by simpa using h2) (by simpa using h3) ρ m1 xv lov hiv mxv w hx hlr hhr hmr hm hr ?_ (.inr ⟨_, hmx⟩)
              rcases slHi_ok hhi hhr with ⟨e0, e1, e2⟩ | ⟨k, _, _, e1⟩
              · cases e0
              · exact .inr ⟨k, e1⟩
            · cases h
          · cases h
        · cases h
      · cases h
    · cases h
  · -- a part of a slice
    rename_i b off n
    split at h
    · rename_i elem hu
      have hu := und_some hu (by simp)
      split at h
      · rename_i wr c hb
        split at h
        · rename_i n' k hel
          split at h
          · rename_i hes
            split at h
            · rename_i u hhi
              obtain ⟨h0, h⟩ := chk_some h
              obtain ⟨h1, h⟩ := chk_some h
              obtain ⟨h2, h⟩ := chk_some h
              have h0 : 0 ≤ l := by simpa using h0
              have h1 : l ≤ u := by simpa using h1
              have h2 : u ≤ n := by simpa using h2
              refine ⟨_, _, slTail_ok h hl0, fun ρ m1 xv lov hiv mxv w hx hlr hhr hmr hm hr => ?_⟩
              have hmx : mxv = none := by cases mxv with | none => rfl | some _ => exact hmr.elim
              subst hmx
              obtain ⟨p, hp, o0, l0, hle, hx⟩ := vr_sl hx
              obtain ⟨q, hq, ⟨cs, f1, f2, f3⟩, f4, f5, f6⟩ := hm.held b wr c ((hr b (by simp)).trans hb)
              rw [hp] at hq; cases hq
              obtain ⟨e1, e2, e3⟩ := elems_ok hel f4 f1
              have hhv : ∀ z : Nat, (z : Int) = n → (hiv = none ∧ (none : Option Value) = none ∧ u = z) ∨ ∃ k, hiv = some (.int k u) := by
                intro z hz
                rcases slHi_ok hhi hhr with ⟨_, a1, a2⟩ | ⟨k, _, _, a1⟩
                · exact .inl ⟨a1, rfl, by omega⟩
                · exact .inr ⟨k, a1⟩
              rcases hx with ⟨hn, rfl⟩ | ⟨hn, cap, ad, hcap, hpsz, rfl, had⟩
              · have h5 := f5 hn
                have e0 : n = 0 := by omega
                refine ⟨_, run_slice_slice (m := 0) w hu hes.2 (hlov hlr) (hhv 0 (by omega)) (.inl ⟨rfl, rfl⟩) h0 h1 (by omega) (Int.le_refl _), ?_⟩
                have el : l = 0 := by omega
                have eu : u = 0 := by omega
                subst el eu
                exact ⟨p, hp, by omega, by omega, by omega, .inl ⟨hn, by simp⟩⟩
              · refine ⟨_, run_slice_slice (m := (cap - off.toNat : Nat)) w hu hes.2 (hlov hlr) (hhv n.toNat (by omega)) (.inl ⟨rfl, rfl⟩) h0 h1 (by omega) (Int.le_refl _), ?_⟩
                have := VR_sl (a := if cap - off.toNat = l.toNat then ad else ad.add (l.toNat * E.size elem)) (off := off + l) (len := u - l) (cap := cap) hp (by omega) (by omega) (by omega) hn (by omega) hpsz (by
                  intro ha
                  split
                  · rename_i e
                    have : l = 0 := by omega
                    subst this
                    rw [had (by omega)]
                    simp
                  · rw [had (by omega), addr_add, e2, ← hes.1, show (off + l).toNat = off.toNat + l.toNat by omega, Nat.add_mul]
                    simp [Nat.add_assoc])
                rw [show (u - l).toNat = u.toNat - l.toNat by omega, show cap - (off + l).toNat = cap - off.toNat - l.toNat by omega] at this
                rw [ite_addr]
                exact this
            · cases h
          · cases h
        · cases h
      · cases h
    · cases h
  · -- an array
    rename_i b base ext off sz
    split at h
    · rename_i n elem hu
      have hu := und_some hu (by simp)
      split at h
      · rename_i u wr c hhi hb
        split at h
        · rename_i n' hel
          split at h
          · rename_i hes
            obtain ⟨h0, h⟩ := chk_some h
            obtain ⟨h1, h⟩ := chk_some h
            obtain ⟨h2, h⟩ := chk_some h
            have h0 : 0 ≤ l := by simpa using h0
            have h1 : l ≤ u := by simpa using h1
            have h2 : u ≤ n := by simpa using h2
            refine ⟨_, _, slTail_ok h hl0, fun ρ m1 xv lov hiv mxv w hx hlr hhr hmr hm hr => ?_⟩
            have hmx : mxv = none := by cases mxv with | none => rfl | some _ => exact hmr.elim
            subst hmx
            obtain ⟨p, hp, hn, o0, hle, rfl⟩ := vr_ptr hx
            obtain ⟨q, hq, ⟨cs, f1, f2, f3⟩, f4, f5, f6⟩ := hm.held b wr c ((hr b (by simp)).trans hb)
            rw [hp] at hq; cases hq
            obtain ⟨e1, e2, e3⟩ := elems_ok hel f4 f1
            have hpsz := (f6 hn).1.2
            simp at e2
            rw [e2, Nat.mul_one] at e3
            have hhv : (hiv = none ∧ u = n) ∨ ∃ k, hiv = some (.int k u) := by
              rcases slHi_ok hhi hhr with ⟨_, a1, a2⟩ | ⟨k, _, _, a1⟩
              · exact .inl ⟨a1, by omega⟩
              · exact .inr ⟨k, a1⟩
            refine ⟨_, run_slice_array w hu (by omega) (hlov hlr) hhv h0 h1 h2, ?_⟩
            rw [addz_eq]
            have := VR_sl (a := if n = l.toNat then ⟨p.blk, p.base + (base + off.toNat), none⟩ else (⟨p.blk, p.base + (base + off.toNat), none⟩ : Addr).add (l.toNat * E.size elem)) (off := base + off + l) (len := u - l) (cap := base + off.toNat + n) hp (by omega) (by omega) (by omega) hn (by omega) (by rw [e2]; omega) (by
              intro ha
              rw [e2, show ((base : Int) + off + l).toNat = base + off.toNat + l.toNat by omega]
              split
              · rename_i e
                have : l = 0 := by omega
                subst this
                simp
              · rw [addr_add, hes.1]
                simp [Nat.add_assoc])
            rw [show (u - l).toNat = u.toNat - l.toNat by omega, show base + off.toNat + n - ((base : Int) + off + l).toNat = n - l.toNat by omega] at this
            exact this
          · cases h
        · cases h
      · cases h
    · cases h
  · cases h

end
end Go.Ev

/-
  Lengths, arrays of slices, new blocks.
-/
namespace Go.Ev

section
variable {E : Env} {R : Type}

theorem max_le : maxLength ≤ maxInt := by decide

theorem inR_len {n : Int} (h0 : 0 ≤ n) (h : n ≤ (maxInt : Nat)) : InR .i64 n := by
  have e1 : IntKind.i64.min = -9223372036854775808 := by decide
  have e2 : IntKind.i64.max = 9223372036854775807 := by decide
  unfold maxInt at h
  constructor <;> omega

theorem eLen_ok {s : St} {t : TypeId} {x : V} {K : V → List Nat → Option R} {r : R} (h : eLen E s t x K = some r) :
    ∃ v rd, K v rd = some r ∧ ∀ (ρ : Ren) (m1 : Mem) (ts : Array TypeId) (ty : TypeId) (xs : Array Value) (xv : Value) (w : World), ts[0]? = some t → xs[0]? = some xv → VR ρ x xv → RM ρ m1 w → (∀ b, b ∈ rd → m1 b = mget s.m b) →
      ∃ z, (Builtin.len_ ts ty xs).run E.P w = .ok z w ∧ VR ρ v z := by
  unfold eLen at h
  split at h
  · rename_i n elem hu
    have hu := und_some hu (by simp)
    split at h
    · rename_i hn
      refine ⟨_, _, h, fun ρ m1 ts ty xs xv w ht hx _ _ _ => ⟨.int .i64 n, ?_, VR_int (inR_len (by omega) (by omega))⟩⟩
      unfold Builtin.len_
      simp only [ht, hx]
      rw [Sem.run_bind, run_und hu]
      rfl
    · cases h
  · rename_i hu
    have hu := und_some hu (by simp)
    split at h
    · rename_i l
      obtain ⟨hn, h⟩ := chk_some h
      have hn : l.length ≤ maxInt := by simpa using hn
      refine ⟨_, _, h, fun ρ m1 ts ty xs xv w ht hx hv _ _ => ⟨.int .i64 l.length, ?_, VR_int (inR_len (by omega) (by omega))⟩⟩
      obtain ⟨b, rfl, hb⟩ := vr_str hv
      unfold Builtin.len_
      simp only [ht, hx]
      rw [Sem.run_bind, run_und hu]
      simp only [Result.andThen_ok]
      rw [bytesOf_size hb]
      rfl
    · cases h
  · rename_i elem hu
    have hu := und_some hu (by simp)
    have key : ∀ (ts : Array TypeId) (ty : TypeId) (xs : Array Value) (a : Option Addr) (n c : Nat) (w : World), ts[0]? = some t → xs[0]? = some (.slice a n c) →
        (Builtin.len_ ts ty xs).run E.P w = .ok (.int .i64 n) w := by
      intro ts ty xs a n c w ht hx
      unfold Builtin.len_
      simp only [ht, hx]
      rw [Sem.run_bind, run_und hu]
      rfl
    split at h
    · refine ⟨_, _, h, fun ρ m1 ts ty xs xv w ht hx hv _ _ => ?_⟩
      obtain rfl : xv = .slice none 0 0 := by simpa [VR, wrapR, Cells] using hv
      exact ⟨_, key _ _ _ _ _ _ _ ht hx, VR_int (inR_len (by omega) (by unfold maxInt; omega))⟩
    · rename_i b off n
      split at h
      · rename_i y hb
        obtain ⟨hn, h⟩ := chk_some h
        have hn : n ≤ (maxInt : Nat) := by simpa using hn
        refine ⟨_, _, h, fun ρ m1 ts ty xs xv w ht hx hv hm hr => ?_⟩
        obtain ⟨p, hp, o0, l0, hle, hx'⟩ := vr_sl hv
        obtain ⟨q, hq, _, f4, f5, f6⟩ := hm.held b y.1 y.2 ((hr b (by simp)).trans hb)
        rw [hp] at hq; cases hq
        rcases hx' with ⟨hnil, rfl⟩ | ⟨hnil, cap, ad, hcap, hpsz, rfl, had⟩
        · refine ⟨_, key _ _ _ _ _ _ _ ht hx, ?_⟩
          have := (f5 hnil).2
          have e0 : n = 0 := by omega
          subst e0
          exact VR_int (inR_len (by omega) hn)
        · refine ⟨_, key _ _ _ _ _ _ _ ht hx, ?_⟩
          rw [Int.toNat_of_nonneg l0]
          exact VR_int (inR_len l0 hn)
      · cases h
    · rename_i b
      split at h
      · rename_i wr c hb
        split at h
        · rename_i n k hel
          obtain ⟨hn, h⟩ := chk_some h
          have hn : n ≤ (maxInt : Nat) := by simpa using hn
          refine ⟨_, _, h, fun ρ m1 ts ty xs xv w ht hx hv hm hr => ?_⟩
          obtain ⟨p, hp, hx'⟩ := vr_own hv
          obtain ⟨q, hq, ⟨cs, f1, f2, f3⟩, f4, f5, f6⟩ := hm.held b wr c ((hr b (by simp)).trans hb)
          rw [hp] at hq; cases hq
          obtain ⟨e1, e2, e3⟩ := elems_ok hel f4 f1
          rcases hx' with ⟨hnil, rfl⟩ | ⟨hnil, cap, hcap, hpsz, rfl⟩
          · refine ⟨_, key _ _ _ _ _ _ _ ht hx, ?_⟩
            have := (f5 hnil).2
            have e0 : n = 0 := by omega
            subst e0
            exact VR_int (inR_len (by omega) hn)
          · refine ⟨_, key _ _ _ _ _ _ _ ht hx, ?_⟩
            rw [← e1]
            exact VR_int (inR_len (by omega) hn)
        · cases h
      · cases h
    · cases h
  · cases h
end
end Go.Ev

/-
  New blocks; structs and arrays.
-/
namespace Go.Ev

section
variable {E : Env} {R : Type}

theorem eArr_ok {s : St} {t : TypeId} {x : V} {K : V → List Nat → Option R} {r : R} (h : eArr E s t x K = some r) :
    ∃ v rd, K v rd = some r ∧ ∀ (ρ : Ren) (m1 : Mem) (xv : Value) (w : World), VR ρ x xv → RM ρ m1 w → (∀ b, b ∈ rd → m1 b = mget s.m b) →
      ∃ z, (Instr.arrayAt t xv).run E.P w = .ok z w ∧ VR ρ v z := by
  unfold eArr at h
  split at h
  · rename_i n elem hu
    have hu := und_some hu (by simp)
    have key : ∀ (a : Option Addr) (len cap : Nat) (w : World), n ≤ len → (Instr.arrayAt t (.slice a len cap)).run E.P w = .ok (.pointer a) w := by
      intro a len cap w hn
      unfold Instr.arrayAt
      rw [Sem.run_bind, run_und hu]
      simp only [Result.andThen_ok]
      rw [if_neg (by omega)]
      rfl
    split at h
    · rename_i hes
      split at h
      · rename_i b
        split at h
        · rename_i wr k l hb
          obtain ⟨hn, h⟩ := chk_some h
          have hn : n ≤ l.length := by simpa using hn
          refine ⟨_, _, h, fun ρ m1 xv w hx hm hr => ?_⟩
          obtain ⟨p, hp, hx⟩ := vr_own hx
          obtain ⟨q, hq, ⟨cs, f1, f2, f3⟩, f4, f5, f6⟩ := hm.held b wr _ ((hr b (by simp)).trans hb)
          rw [hp] at hq; cases hq
          obtain ⟨rfl, _⟩ := f1
          have e1 : p.n = l.length := f4.1
          have e2 : p.es = 1 := f4.2
          rw [List.length_map] at f2
          rcases hx with ⟨hnil, rfl⟩ | ⟨hnil, cap, hcap, hpsz, rfl⟩
          · have := (f5 hnil).2; omega
          · exact ⟨_, key _ _ _ _ (by omega), VR_ptr hp hnil (by omega) (by simp; omega) (by omega) (by simp)⟩
        · cases h
      · rename_i b off len
        split at h
        · rename_i wr c hb
          have key2 : ∀ (ext : Nat), c.elems = some ((ext : Int), none) → n ≤ len → ∀ (ρ : Ren) (m1 : Mem) (xv : Value) (w : World), VR ρ (.sl b off len) xv → RM ρ m1 w → (∀ b', b' ∈ [b] → m1 b' = mget s.m b') →
              ∃ z, (Instr.arrayAt t xv).run E.P w = .ok z w ∧ VR ρ (.ptr b 0 ext off n) z := by
            intro ext hel hn ρ m1 xv w hx hm hr
            obtain ⟨p, hp, o0, l0, hle, hx⟩ := vr_sl hx
            obtain ⟨q, hq, ⟨cs, f1, f2, f3⟩, f4, f5, f6⟩ := hm.held b wr c ((hr b (by simp)).trans hb)
            rw [hp] at hq; cases hq
            obtain ⟨e1, e2, e3⟩ := elems_ok hel f4 f1
            simp at e2
            rw [e2, Nat.mul_one] at e3
            rcases hx with ⟨hnil, rfl⟩ | ⟨hnil, cap, ad, hcap, hpsz, rfl, had⟩
            · have := (f5 hnil).2; omega
            · refine ⟨_, key _ _ _ _ (by omega), ?_⟩
              rw [had (.inl (by omega)), e2]
              exact VR_ptr hp hnil o0 (by omega) (by omega) (by simp)
          split at h
          · rename_i k l
            obtain ⟨hn, h⟩ := chk_some h
            exact ⟨_, _, h, key2 l.length rfl (by simpa using hn)⟩
          · rename_i k m l
            obtain ⟨hn, h⟩ := chk_some h
            exact ⟨_, _, h, key2 m rfl (by simpa using hn)⟩
          · cases h
        · cases h
      · cases h
    · cases h
  · cases h

/-! ### New blocks -/

theorem EOK_exists (c : V) : ∃ n es, ∀ p : Info, p.n = n → p.es = es → EOK c p := by
  cases c with
  | row k l => exact ⟨l.length, 1, fun p h1 h2 => ⟨h1, h2⟩⟩
  | brow l => exact ⟨l.length, 1, fun p h1 h2 => ⟨h1, h2⟩⟩
  | srow l => exact ⟨l.length, 1, fun p h1 h2 => ⟨h1, h2⟩⟩
  | rows k n l => exact ⟨l.length, n, fun p h1 h2 => ⟨h1, h2⟩⟩
  | ints k n l => exact ⟨n, 1, fun p h1 h2 => ⟨h1, h2⟩⟩
  | bools n l => exact ⟨n, 1, fun p h1 h2 => ⟨h1, h2⟩⟩
  | _ => exact ⟨0, 0, fun _ _ _ => trivial⟩

theorem alloc_same (w : World) (o : Obj) : { w.alloc o with drawn := w.drawn } = w.alloc o := rfl

/-- A variable of its own, with this value. -/
theorem var_ok {full : Bool} {o : Oper} {s : St} {t : TypeId} {x : V} (hf : x.flat = true) (hsz : x.size = E.size t)
    (h : ∀ (a : Act) (w : World) (ρ : Ren), (∀ y ∈ o.op.operands, VR ρ (eopd E s y) (a.eval y)) →
      ∃ xv, VR ρ x xv ∧ (execOp a.eval o).run E.P w = .ok (.value (.pointer (some ⟨w.heap.size, 0, none⟩))) (w.alloc (.cells xv.cells t))) :
    OpOK E full o s (.ptr s.nx 0 (E.size t) 0 (E.size t)) (newB s x) [] [] := by
  obtain ⟨n, es, he⟩ := EOK_exists x
  refine OpOK.new fun a w ρ m1 hv _ _ => ?_
  obtain ⟨xv, h1, h2⟩ := h a w ρ hv
  have hc := VR_cells hf h1
  refine ⟨t, xv.cells, (0, 0), xv.cells.toList, n, es, _, w.drawn, by rw [alloc_same]; exact h2, by simp, hc, by simp, by simp, he _ rfl rfl, fun ρ' hp => ?_⟩
  have hl := Cells.length _ _ hf hc
  exact VR_ptr hp rfl (by omega) (by simp) (by simp only; omega) (by simp)

theorem alloc_ok {full : Bool} (hE : EnvOK E) {o : Oper} {s : St} {t : TypeId} {z : V} (ho : o.op = .alloc t) (hz : E.zero t = some z) (hsz : z.size = E.size t) :
    OpOK E full o s (.ptr s.nx 0 (E.size t) 0 (E.size t)) (newB s z) [] [] := by
  obtain ⟨hf, zv, hrun, hv⟩ := hE.zero t z hz
  refine var_ok hf hsz fun a w ρ _ => ⟨zv, hv ρ, ?_⟩
  unfold execOp
  simp only [ho, Instr.alloc, Sem.run_bind, hrun, Result.andThen_ok]
  rfl

theorem box_ok {full : Bool} {o : Oper} {s : St} {t : TypeId} {X : Operand} {x : V} (ho : o.op = .box t X) (hx : eopd E s X = x) (hf : x.flat = true) (hsz : x.size = E.size t) :
    OpOK E full o s (.ptr s.nx 0 (E.size t) 0 (E.size t)) (newB s x) [] [] := by
  refine var_ok hf hsz fun a w ρ hv => ⟨a.eval X, ?_, ?_⟩
  · rw [← hx]; exact hv X (by rw [ho]; simp [Op.operands])
  · unfold execOp
    simp only [ho]
    rfl

/-! ### Rows -/

theorem flat_rep {α : Type} (l : List α) : ∀ (n j : Nat), j < n * l.length → (List.replicate n l).flatten[j]? = l[j % l.length]?
  | 0, j, h => by simp at h
  | n + 1, j, h => by
    rw [List.replicate_succ, List.flatten_cons]
    by_cases hj : j < l.length
    · rw [List.getElem?_append_left hj, Nat.mod_eq_of_lt hj]
    · rw [List.getElem?_append_right (by omega), flat_rep l n (j - l.length) (by rw [Nat.add_mul] at h; omega)]
      congr 1
      exact (Nat.mod_eq_sub_mod (by omega)).symm

theorem flat_single {α : Type} (x : α) : ∀ n, (List.replicate n [x]).flatten = List.replicate n x
  | 0 => rfl
  | n + 1 => by rw [List.replicate_succ, List.flatten_cons, flat_single x n]; rfl

theorem zeroRow_ok {z c : V} {n : Nat} (h : zeroRow z n = some c) {ρ : Ren} {zv : Value} (hz : VR ρ z zv) :
    Cells ρ c (List.replicate n zv.cells.toList).flatten ∧ rowLen c = n ∧ fits z c = true := by
  unfold zeroRow at h
  split at h <;> simp only [Option.some.injEq, reduceCtorEq] at h <;> subst h
  · obtain ⟨rfl, hr⟩ := vr_int hz
    refine ⟨?_, by simp [rowLen], by simp [fits]⟩
    show Cells ρ _ (List.replicate n [Value.int _ _]).flatten
    rw [flat_single]
    exact ⟨by simp, fun y hy => by rw [List.eq_of_mem_replicate hy]; exact hr⟩
  · obtain rfl := vr_bool hz
    refine ⟨?_, by simp [rowLen], by simp [fits]⟩
    show Cells ρ _ (List.replicate n [Value.bool _]).flatten
    rw [flat_single]
    simp [Cells]
  · obtain ⟨b, rfl, hb⟩ := vr_str hz
    refine ⟨?_, by simp [rowLen], by simp [fits]⟩
    show Cells ρ _ (List.replicate n [Value.string _]).flatten
    rw [flat_single]
    refine ⟨List.replicate n b, by simp, by simp, fun i t ht => ?_⟩
    rw [List.getElem?_replicate] at ht ⊢
    split at ht
    · rename_i hi
      cases ht
      exact ⟨_, by rw [if_pos hi], hb⟩
    · cases ht
  · rename_i k m l
    obtain ⟨rfl, hl, hr⟩ := vr_ints hz
    refine ⟨?_, by simp [rowLen], by simp [fits]⟩
    refine ⟨?_, fun y hy => by rw [List.eq_of_mem_replicate hy]; exact hl, fun y hy => by rw [List.eq_of_mem_replicate hy]; exact hr⟩
    simp [Value.cells, List.map_flatten]

theorem consRow_ok {x c c' z : V} (h : consRow x c = some c') (hf : fits z c = true) {ρ : Ren} {xv : Value} {cs : List Value} (hx : VR ρ x xv) (hc : Cells ρ c cs) :
    Cells ρ c' (xv.cells.toList ++ cs) ∧ rowLen c' = rowLen c + 1 ∧ fits z c' = true ∧ xv.cells.size = z.size := by
  unfold consRow at h
  split at h
  · split at h
    · rename_i hk
      subst hk
      cases h
      obtain ⟨rfl, hr⟩ := vr_int hx
      obtain ⟨rfl, hcr⟩ := hc
      refine ⟨⟨rfl, fun y hy => ?_⟩, rfl, ?_, ?_⟩
      · rcases List.mem_cons.1 hy with rfl | hy
        · exact hr
        · exact hcr y hy
      · cases z <;> simp_all [fits]
      · cases z <;> simp_all [fits, Value.cells, V.size]
    · cases h
  · cases h
    obtain rfl := vr_bool hx
    simp only [Cells] at hc
    subst hc
    refine ⟨rfl, rfl, ?_, ?_⟩
    · cases z <;> simp_all [fits]
    · cases z <;> simp_all [fits, Value.cells, V.size]
  · cases h
    obtain ⟨b, rfl, hb⟩ := vr_str hx
    obtain ⟨ss, rfl, hl, hs⟩ := hc
    refine ⟨⟨b :: ss, rfl, by simp [hl], fun i t ht => ?_⟩, rfl, ?_, ?_⟩
    · cases i with
      | zero => simp at ht; subst ht; exact ⟨_, rfl, hb⟩
      | succ i => simp at ht ⊢; exact hs i t ht
    · cases z <;> simp_all [fits]
    · cases z <;> simp_all [fits, Value.cells, V.size]
  · split at h
    · rename_i hk
      obtain ⟨rfl, rfl⟩ := hk
      cases h
      obtain ⟨rfl, hl, hr⟩ := vr_ints hx
      obtain ⟨rfl, hn, hcr⟩ := hc
      refine ⟨⟨by simp [Value.cells], fun y hy => ?_, fun y hy => ?_⟩, rfl, ?_, ?_⟩
      · rcases List.mem_cons.1 hy with rfl | hy
        · exact hl
        · exact hn y hy
      · rcases List.mem_cons.1 hy with rfl | hy
        · exact hr
        · exact hcr y hy
      · cases z <;> simp_all [fits]
      · cases z <;> simp_all [fits, Value.cells, V.size]
    · cases h
  · cases h

theorem seqRow_ok {z : V} {f : Operand → V} {g : Operand → Value} {ρ : Ren} {zv : Value} (hz : VR ρ z zv) : ∀ (l : List (Nat × Operand)) (j : Nat) (c : V), seqRow z j (l.map fun p => (p.1, f p.2)) = some c →
    (∀ p ∈ l, VR ρ (f p.2) (g p.2)) →
    Cells ρ c ((l.map fun p => g p.2).flatMap fun v => v.cells.toList) ∧ rowLen c = l.length ∧ fits z c = true ∧ (∀ v ∈ l.map fun p => g p.2, v.cells.size = z.size) ∧
      (l.map fun p => (p.1, g p.2)) = (((l.map fun p => g p.2).zipIdx j).map fun x => (x.2, x.1))
  | [], j, c, h, _ => by
    simp only [List.map_nil, seqRow] at h
    obtain ⟨h1, h2, h3⟩ := zeroRow_ok h hz
    exact ⟨by simpa using h1, h2, h3, by simp, rfl⟩
  | (i, x) :: l, j, c, h, hv => by
    simp only [List.map_cons, seqRow] at h
    split at h
    · rename_i hij
      subst hij
      split at h
      · rename_i c' hc'
        obtain ⟨h1, h2, h3, h4, h5⟩ := seqRow_ok (g := g) hz l (i + 1) c' hc' (fun p hp => hv p (by simp [hp]))
        obtain ⟨k1, k2, k3, k4⟩ := consRow_ok h h3 (hv (i, x) (by simp)) h1
        refine ⟨by simpa using k1, by simp [k2, h2], k3, fun v hv' => ?_, ?_⟩
        · simp only [List.map_cons, List.mem_cons] at hv'
          rcases hv' with rfl | hv'
          · exact k4
          · exact h4 v hv'
        · simp only [List.map_cons, List.zipIdx_cons, h5]
      · cases h
    · cases h

end
end Go.Ev
