/-
  Regions that draw their order: in whatever order, what is left is what the order of the text leaves.
-/
import Derived.Test.YthdojgehgcknmaaDoorM7
namespace Go.Ev

variable {E : Env}

/-! ### The last of several writings -/

def lastv {α : Type} (W : Nat → Bool) (f : Nat → α) (x : α) : Nat → α
  | 0 => x
  | n + 1 => match W n with | true => f n | false => lastv W f x n

theorem lastv_congr {α : Type} {W W' : Nat → Bool} {f : Nat → α} {x : α} : ∀ n, (∀ k, k < n → W k = W' k) → lastv W f x n = lastv W' f x n
  | 0, _ => rfl
  | n + 1, h => by simp only [lastv]; rw [h n (by omega), lastv_congr n fun k hk => h k (by omega)]

theorem lastv_tail {α : Type} {W : Nat → Bool} {f : Nat → α} {x : α} {j : Nat} : ∀ n, j ≤ n → (∀ k, j ≤ k → k < n → W k = false) → lastv W f x n = lastv W f x j
  | 0, h, _ => by
    have : j = 0 := by omega
    rw [this]
  | n + 1, h, hk => by
    by_cases e : j = n + 1
    · rw [e]
    · have h1 : lastv W f x (n + 1) = lastv W f x n := by simp only [lastv, hk n (by omega) (by omega)]
      rw [h1]
      exact lastv_tail n (by omega) fun k h1 h2 => hk k h1 (by omega)

theorem lastv_one {α : Type} {W : Nat → Bool} {f : Nat → α} {x : α} {j n : Nat} (hj : j < n) (h : W j = true) (hk : ∀ k, j < k → k < n → W k = false) : lastv W f x n = f j := by
  rw [lastv_tail (j := j + 1) n hj fun k h1 h2 => hk k h1 h2]
  simp only [lastv, h]

/-! ### One step -/

/-- What is known of one operation, at the state s that it has in the order of the text. -/
structure StepOK (E : Env) (ops : Array Oper) (j : Nat) (o : Oper) (s s2 : St) (rd wr : List Nat) : Prop where
  len : s.m.length ≤ s2.m.length
  tl : s2.t.length = s.t.length
  t : ∀ i, o.dst ≠ some i → s2.tv i = s.tv i
  dlt : ∀ d, o.dst = some d → d < s.t.length
  rest : ∀ b, b ∉ wr → mget s2.m b = mget s.m b
  wrlt : ∀ b ∈ wr, b < s2.m.length
  new : ∀ b, s.m.length ≤ b → b < s2.m.length → b ∈ wr
  run : ∀ (a : Act) (w : World) (ρ : Ren) (m1 : Mem) (t1 : Nat → V), (∀ t ∈ o.looksAt ops, t1 t = s.tv t) → (∀ i, VR ρ (t1 i) (a.tmps.getD i undef)) → RM ρ m1 w → GOK E ρ →
    (∀ b, b ∈ rd ∨ b ∈ wr → m1 b = mget s.m b) → (∀ b, s.m.length ≤ b → b < s2.m.length → ρ b = none) →
    ∀ (Q : Exit → Act → World → Prop) (next : Act → World → Prop), True →
    (∀ (ρ' : Ren) (w' : World) (v : Value), (∀ b, ¬ (s.m.length ≤ b ∧ b < s2.m.length) → ρ' b = ρ b) → (∀ d, o.dst = some d → VR ρ' (s2.tv d) v) → RM ρ' (fun b => if b ∈ wr then mget s2.m b else m1 b) w' →
      Ext ρ m1 w ρ' (fun b => if b ∈ wr then mget s2.m b else m1 b) w' → next (a.put o.dst v) w') →
    wpOp E.P ops Q j next a w

theorem eopd_of {ρ : Ren} {s : St} {a : Act} (hg : GOK E ρ) (y : Operand) (h : ∀ t, y = .tmp t → VR ρ (s.tv t) (a.tmps.getD t undef)) : VR ρ (eopd E s y) (a.eval y) := by
  cases y with
  | tmp t => exact h t rfl
  | const v =>
    simp only [eopd, Act.eval]
    unfold ofConst
    split
    · rfl
    · split
      · rename_i hk; exact VR_int hk
      · trivial
    · exact ⟨_, rfl, rfl⟩
    · rfl
    · rfl
    · rfl
    · rfl
    · trivial
  | global g =>
    show VR ρ (match E.gsz g with | 0 => .dead | n => .ptr g 0 n 0 n) (.pointer (some ⟨g, 0, none⟩))
    cases hz : E.gsz g with
    | zero => trivial
    | succ k =>
      obtain ⟨p, h1, h2, h3, h4, h5⟩ := hg g k hz
      have := VR_ptr (ρ := ρ) (b := g) (base := 0) (ext := k + 1) (off := 0) (sz := k + 1) h1 h2 (Int.le_refl 0) (by simp) (by omega) rfl
      rw [h3, h4] at this
      exact this
  | func f => exact ⟨[], [], rfl, rfl, rfl⟩

theorem yielded_val {ρ : Ren} {a : Act} {ops : Array Oper} {g d : Nat} {v : V} (hd : (match ops[g]? with | some o => o.dst | none => none) = some d) (ht : VR ρ v (a.tmps.getD d undef)) :
    (∀ b, v = .bool b → yielded ops a.tmps g = some b) ∧ (v = .tuple [] → yielded ops a.tmps g = none) := by
  have hb : (ops[g]?).bind (·.dst) = some d := by
    cases ho : ops[g]? with
    | none => rw [ho] at hd; cases hd
    | some o => rw [ho] at hd; exact hd
  refine ⟨fun b e => ?_, fun e => ?_⟩
  · rw [e] at ht
    have hx := vr_bool ht
    unfold yielded
    rw [hb]
    show (match a.tmps[d]? with | some (.bool b) => some b | _ => none) = _
    rw [Array.getD_eq_getD_getElem?] at hx
    cases hy : a.tmps[d]? with
    | none => rw [hy] at hx; cases hx
    | some y => rw [hy] at hx; simp at hx; subst hx; rfl
  · rw [e] at ht
    obtain ⟨cs, hx, hc⟩ := ht
    replace hc : VRL ρ [] cs := hc
    simp only [VRL] at hc
    subst hc
    unfold yielded
    rw [hb]
    show (match a.tmps[d]? with | some (.bool b) => some b | _ => none) = _
    rw [Array.getD_eq_getD_getElem?] at hx
    cases hy : a.tmps[d]? with
    | none => rfl
    | some y => rw [hy] at hx; simp at hx; subst hx; rfl

/-- Is the operation done, wherever what it looks at is as in s? -/
def Wanted (ops : Array Oper) (o : Oper) (s : St) (b : Bool) : Prop :=
  ∀ (ρ : Ren) (a : Act) (t1 : Nat → V), (∀ t ∈ o.looksAt ops, t1 t = s.tv t) → (∀ i, VR ρ (t1 i) (a.tmps.getD i undef)) → Region.wanted o (yielded ops a.tmps) = b

theorem wanted_none {ops : Array Oper} {o : Oper} {s : St} (h : o.guard = none) : Wanted ops o s true := fun ρ a t1 _ _ => by
  simp [Region.wanted, h]

theorem wanted_guard {ops : Array Oper} {o : Oper} {s : St} {g d : Nat} {want : Bool} (h : o.guard = some (g, want)) (hd : (match ops[g]? with | some o => o.dst | none => none) = some d) :
    (∀ b, s.tv d = .bool b → Wanted ops o s (b == want)) ∧ (s.tv d = .tuple [] → Wanted ops o s false) := by
  have hb : (ops[g]?).bind (·.dst) = some d := by
    cases ho : ops[g]? with
    | none => rw [ho] at hd; cases hd
    | some o => rw [ho] at hd; exact hd
  have hmem : d ∈ o.looksAt ops := by
    unfold Oper.looksAt
    rw [h]
    simp [hb]
  refine ⟨fun b e ρ a t1 h1 h2 => ?_, fun e ρ a t1 h1 h2 => ?_⟩
  · have := (yielded_val (v := t1 d) hd (h2 d)).1 b (by rw [h1 d hmem, e])
    simp only [Region.wanted, h, this]
    cases b <;> cases want <;> rfl
  · have := (yielded_val (v := t1 d) hd (h2 d)).2 (by rw [h1 d hmem, e])
    simp only [Region.wanted, h, this]
    rfl

theorem looksAt_operand {ops : Array Oper} {o : Oper} {t : Tmp} (h : .tmp t ∈ o.op.operands) : t ∈ o.looksAt ops := by
  unfold Oper.looksAt
  refine List.mem_append_left _ (List.mem_filterMap.2 ⟨.tmp t, by simpa using h, rfl⟩)

theorem step_run {ops : Array Oper} {j : Nat} {o : Oper} {s s1 s' s2 : St} {x : V} {rd wr : List Nat} (ho : ops[j]? = some o) (hm : s1.m = s.m) (ht : ∀ i, s1.tv i = s.tv i) (hl : s1.t.length = s.t.length)
    (hop : OpOK E false o s1 x s' rd wr) (hp : putD s' o.dst x = some s2) (hw : Wanted ops o s true) :
    StepOK E ops j o s s2 rd (wr ++ List.range' s1.nx (s'.nx - s1.nx)) := by
  obtain ⟨p1, p2, p3, p4⟩ := putD_spec hp
  have hlen := hop.len
  have hml : s1.m.length = s.m.length := by rw [hm]
  have hmem : ∀ b, b ∈ wr ++ List.range' s1.nx (s'.nx - s1.nx) ↔ b ∈ wr ∨ (s1.m.length ≤ b ∧ b < s'.m.length) := fun b => by
    rw [List.mem_append, List.mem_range'_1]
    show _ ∨ (s1.m.length ≤ b ∧ b < s1.m.length + (s'.m.length - s1.m.length)) ↔ _
    constructor
    · rintro (h | h)
      · exact .inl h
      · exact .inr ⟨h.1, by omega⟩
    · rintro (h | h)
      · exact .inl h
      · exact .inr ⟨h.1, by omega⟩
  have hmerge : ∀ m1 : Mem, merge m1 wr s1 s' = fun b => if b ∈ wr ++ List.range' s1.nx (s'.nx - s1.nx) then mget s2.m b else m1 b := fun m1 => by
    funext b
    unfold merge
    rw [p1]
    by_cases h : b ∈ wr ∨ (s1.m.length ≤ b ∧ b < s'.m.length)
    · rw [if_pos h, if_pos ((hmem b).2 h)]
    · rw [if_neg h, if_neg (fun e => h ((hmem b).1 e))]
  refine ⟨by rw [p1]; omega, by rw [p2, hop.t, hl], fun i hi => ?_, fun d hd => ?_, fun b hb => ?_, fun b hb => ?_, fun b h1 h2 => ?_, ?_⟩
  · rw [p3 i hi, ← ht i]
    show tget s'.t i = tget s1.t i
    rw [hop.t]
  · have := (p4 d hd).1
    rw [hop.t, hl] at this
    exact this
  · rw [p1]
    have hb' : ¬ (b ∈ wr ∨ (s1.m.length ≤ b ∧ b < s'.m.length)) := fun e => hb ((hmem b).2 e)
    simp only [not_or] at hb'
    by_cases hlt : b < s1.m.length
    · rw [hop.rest b hb'.1 hlt, hm]
    · rw [mget_ge (by have := hb'.2; omega), mget_ge (by omega)]
  · rw [p1]
    rcases (hmem b).1 hb with h | h
    · have := hop.wrlt b h; omega
    · exact h.2
  · rw [p1] at h2
    exact (hmem b).2 (.inr ⟨by omega, h2⟩)
  · intro a w ρ m1 t1 h1 h2 hrm hg hr hnew Q next hlo hn
    unfold wpOp
    simp only [ho, hw ρ a t1 h1 h2, if_true]
    rcases hop.run a w ρ m1 (fun y hy => eopd_of hg y fun t e => by
        subst e
        rw [ht t, ← h1 t (looksAt_operand hy)]
        exact h2 t) hrm hg (fun b hb => by
        rw [hm]
        exact hr b (hb.imp id fun h => (hmem b).2 (.inl h))) (fun b h3 h4 => by
        refine ⟨hnew b (by omega) (by rw [p1]; exact h4), ?_⟩
        rw [hr b (.inr ((hmem b).2 (.inr ⟨h3, h4⟩))), mget_ge (by omega)]) (fun h => by cases h) Q next hlo (fun ρ' w' v k1 k2 k3 k4 => by
        rw [hmerge] at k3 k4
        refine hn ρ' w' v (fun b hb => k1 b ?_) (fun d hd => ?_) k3 k4
        · rw [p1] at hb
          rw [hml]
          exact hb
        · rw [(p4 d hd).2]
          exact k2) with h | h
    · exact .inl h
    · exact h.elim

theorem step_skip {ops : Array Oper} {j : Nat} {o : Oper} {s s1 s2 : St} (ho : ops[j]? = some o) (hm : s1.m = s.m) (ht : ∀ i, s1.tv i = s.tv i) (hl : s1.t.length = s.t.length)
    (hp : putD s1 o.dst (.tuple []) = some s2) (hw : Wanted ops o s false) : StepOK E ops j o s s2 [] [] := by
  obtain ⟨p1, p2, p3, p4⟩ := putD_spec hp
  refine ⟨by rw [p1, hm]; exact Nat.le_refl _, by rw [p2, hl], fun i hi => by rw [p3 i hi, ht i], fun d hd => by rw [← hl]; exact (p4 d hd).1, fun b hb => by rw [p1, hm], fun b hb => (by cases hb), fun b h1 h2 => ?_, ?_⟩
  · rw [p1, hm] at h2; omega
  · intro a w ρ m1 t1 h1 h2 hrm hg hr hnew Q next hlo hn
    unfold wpOp
    simp only [ho, hw ρ a t1 h1 h2, Bool.false_eq_true, if_false]
    have e : (fun b => if b ∈ ([] : List Nat) then mget s2.m b else m1 b) = m1 := by funext b; simp
    exact hn ρ w undef (fun _ _ => rfl) (fun d hd => by rw [(p4 d hd).2]; exact ⟨[], rfl, rfl⟩) (by rw [e]; exact hrm) (by rw [e]; exact Ext.refl _ _ _)

theorem evOps_steps (hE : EnvOK E) {R : Type} {call : List Nat → CallF R} (hcall : CallsOK E false call) {rid : Nat} {cx : List Nat} {ops : Array Oper} :
    ∀ (l : List Oper) (j : Nat) (s : St) (tr : List (List Nat × List Nat)) (K : St → List (List Nat × List Nat) → Option R) (r : R), evOps E call rid cx ops l j s tr K = some r → (∀ i, ops[j + i]? = l[i]?) →
      ∃ (S : Nat → St) (T : Nat → List Nat × List Nat), S j = s ∧ (∀ i o, l[i]? = some o → StepOK E ops (j + i) o (S (j + i)) (S (j + i + 1)) (T (j + i)).1 (T (j + i)).2) ∧
        K (S (j + l.length)) (((List.range' j l.length).map T).reverse ++ tr) = some r
  | [], j, s, tr, K, r, h, _ => ⟨fun _ => s, fun _ => ([], []), rfl, fun i o hi => by simp at hi, h⟩
  | o :: l, j, s, tr, K, r, h, hl => by
    have ho : ops[j]? = some o := by have := hl 0; simpa using this
    have hl' : ∀ i, ops[j + 1 + i]? = l[i]? := fun i => by
      have := hl (i + 1)
      rw [show j + 1 + i = j + (i + 1) by omega]
      simpa using this
    have hstep : ∃ s2 T0, StepOK E ops j o s s2 T0.1 T0.2 ∧ evOps E call rid cx ops l (j + 1) s2 (T0 :: tr) K = some r := by
      have hrun : ∀ (s1 : St), s1.m = s.m → (∀ i, s1.tv i = s.tv i) → s1.t.length = s.t.length → Wanted ops o s true → (evOp E (call ((rid * 1000 + j) :: cx)) cx s1 o fun x s' rd wr => match putD s' o.dst x with
          | some s'' => evOps E call rid cx ops l (j + 1) s'' ((rd, wr ++ List.range' s1.nx (s'.nx - s1.nx)) :: tr) K
          | none => none) = some r → ∃ s2 T0, StepOK E ops j o s s2 T0.1 T0.2 ∧ evOps E call rid cx ops l (j + 1) s2 (T0 :: tr) K = some r := by
        intro s1 hm ht htl hw h
        obtain ⟨x, s', rd, wr, hk, hop⟩ := evOp_ok (full := false) hE (hcall _) h
        split at hk
        · rename_i s'' hp
          exact ⟨s'', (rd, _), step_run ho hm ht htl hop hp hw, hk⟩
        · cases hk
      have hskip : ∀ (s1 : St), s1.m = s.m → (∀ i, s1.tv i = s.tv i) → s1.t.length = s.t.length → Wanted ops o s false → (match putD s1 o.dst (.tuple []) with
          | some s'' => evOps E call rid cx ops l (j + 1) s'' (([], []) :: tr) K
          | none => none) = some r → ∃ s2 T0, StepOK E ops j o s s2 T0.1 T0.2 ∧ evOps E call rid cx ops l (j + 1) s2 (T0 :: tr) K = some r := by
        intro s1 hm ht htl hw h
        split at h
        · rename_i s'' hp
          exact ⟨s'', ([], []), step_skip ho hm ht htl hp hw, h⟩
        · cases h
      unfold evOps at h
      simp only at h
      cases hg : o.guard with
      | none =>
        rw [hg] at h
        exact hrun s rfl (fun _ => rfl) rfl (wanted_none hg) h
      | some gw =>
        obtain ⟨g, want⟩ := gw
        rw [hg] at h
        simp only at h
        split at h
        · rename_i d hd
          have hset : ∀ b, s.tv d = .bool b → ∀ i, (putT s d (.bool b)).tv i = s.tv i := fun b e i => by
            show tget (s.t.set d (.bool b)) i = _
            rw [tget_set']
            split
            · rename_i hi; rw [hi.1]; exact e.symm
            · rfl
          have hlen : ∀ b, (putT s d (.bool b)).t.length = s.t.length := fun b => by simp [Go.Ev.putT]
          split at h
          · rename_i b hb
            have hw := (wanted_guard (s := s) hg hd).1 b hb
            by_cases hbw : b = want
            · have h' : (evOp E (call ((rid * 1000 + j) :: cx)) cx (putT s d (.bool b)) o fun x s' rd wr => match putD s' o.dst x with
                  | some s'' => evOps E call rid cx ops l (j + 1) s'' ((rd, wr ++ List.range' (putT s d (.bool b)).nx (s'.nx - (putT s d (.bool b)).nx)) :: tr) K
                  | none => none) = some r := by
                subst hbw
                cases b <;> simp only [br_true, br_false] at h <;> exact h
              exact hrun (putT s d (.bool b)) rfl (hset b hb) (hlen b) (by rw [hbw, beq_self_eq_true] at hw; exact hw) h'
            · have h' : (match putD (putT s d (.bool b)) o.dst (.tuple []) with
                  | some s'' => evOps E call rid cx ops l (j + 1) s'' (([], []) :: tr) K
                  | none => none) = some r := by
                cases want <;> cases b <;> first | exact (hbw rfl).elim | (simp only [br_true, br_false] at h; exact h)
              exact hskip (putT s d (.bool b)) rfl (hset b hb) (hlen b) (by rw [show (b == want) = false by simpa using hbw] at hw; exact hw) h'
          · rename_i hb
            exact hskip s rfl (fun _ => rfl) rfl ((wanted_guard hg hd).2 hb) h
          · cases h
        · cases h
    obtain ⟨s2, T0, hst, hrest⟩ := hstep
    obtain ⟨S', T', e1, e2, e3⟩ := evOps_steps hE hcall l (j + 1) s2 (T0 :: tr) K r hrest hl'
    refine ⟨fun i => if i ≤ j then s else S' i, fun i => if i ≤ j then T0 else T' i, by simp, fun i o' hi => ?_, ?_⟩
    · cases i with
      | zero =>
        simp at hi
        subst hi
        simp only [Nat.add_zero, Nat.le_refl, if_true, show ¬ (j + 1 ≤ j) by omega, if_false]
        rw [e1]
        exact hst
      | succ i =>
        simp only [List.getElem?_cons_succ] at hi
        have := e2 i o' hi
        simp only [show ¬ (j + (i + 1) ≤ j) by omega, show ¬ (j + (i + 1) + 1 ≤ j) by omega, if_false]
        rw [show j + (i + 1) = j + 1 + i by omega]
        exact this
    · simp only [List.length_cons]
      rw [if_neg (by omega), show j + (l.length + 1) = j + 1 + l.length by omega, List.range'_succ, List.map_cons, List.reverse_cons, List.append_assoc]
      have : (List.range' (j + 1) l.length).map (fun i => if i ≤ j then T0 else T' i) = (List.range' (j + 1) l.length).map T' := by
        refine List.map_congr_left fun i hi => ?_
        have := (List.mem_range'_1.1 hi).1
        rw [if_neg (by omega)]
      rw [this]
      simpa using e3

/-! ### Which ones wait for which -/

theorem foldl_bits (f : Nat → Nat) : ∀ (l : List Nat) (m i : Nat), (l.foldl (fun m p => m ||| ((1 <<< p) ||| f p)) m).testBit i = true ↔ m.testBit i = true ∨ ∃ p ∈ l, p = i ∨ (f p).testBit i = true
  | [], m, i => by simp
  | p :: l, m, i => by
    rw [List.foldl_cons, foldl_bits f l]
    have : ((1 <<< p : Nat)).testBit i = true ↔ p = i := by
      rw [Nat.one_shiftLeft, Nat.testBit_two_pow]
      simp
    simp only [Nat.testBit_or, Bool.or_eq_true, this, List.mem_cons, exists_eq_or_imp]
    constructor
    · rintro ((h | h | h) | h)
      · exact .inl h
      · exact .inr (.inl (.inl h))
      · exact .inr (.inl (.inr h))
      · exact .inr (.inr h)
    · rintro (h | (h | h) | h)
      · exact .inl (.inl h)
      · exact .inl (.inr (.inl h))
      · exact .inl (.inr (.inr h))
      · exact .inr h

theorem masks_ext : ∀ (l : List Oper) (acc : List Nat), ∃ e, masks l acc = acc ++ e
  | [], acc => ⟨[], by simp [masks]⟩
  | o :: l, acc => by
    obtain ⟨e, he⟩ := masks_ext l (acc ++ [(preds o).foldl (fun m i => m ||| ((1 <<< i) ||| acc.getD i 0)) 0])
    exact ⟨_ :: e, by rw [masks, he, List.append_assoc]; rfl⟩

theorem masks_at : ∀ (l : List Oper) (acc : List Nat) (i : Nat) (o : Oper), l[i]? = some o →
    (masks l acc).getD (acc.length + i) 0 = (preds o).foldl (fun m p => m ||| ((1 <<< p) ||| ((masks l acc).take (acc.length + i)).getD p 0)) 0
  | [], _, _, _, h => by simp at h
  | o' :: l, acc, i, o, h => by
    cases i with
    | zero =>
      simp at h
      subst h
      rw [masks]
      obtain ⟨e, he⟩ := masks_ext l (acc ++ [(preds o').foldl (fun m i => m ||| ((1 <<< i) ||| acc.getD i 0)) 0])
      rw [he]
      simp only [Nat.add_zero, List.append_assoc, List.take_left]
      rw [List.getD_eq_getElem?_getD, List.getElem?_append_right (Nat.le_refl _)]
      simp
    | succ i =>
      simp only [List.getElem?_cons_succ] at h
      have := masks_at l (acc ++ [(preds o').foldl (fun m i => m ||| ((1 <<< i) ||| acc.getD i 0)) 0]) i o h
      rw [masks]
      rw [List.length_append, List.length_singleton, show acc.length + 1 + i = acc.length + (i + 1) by omega] at this
      exact this

section
variable {ops : Array Oper} {S : Nat → St} {T : Nat → List Nat × List Nat}

def Closed (ops : Array Oper) (D : Nat → Bool) : Prop := ∀ j o, ops[j]? = some o → D j = true → ∀ p ∈ preds o, D p = true

theorem mask_closed {D : Nat → Bool} (hD : Closed ops D) : ∀ (j : Nat) (o : Oper), ops[j]? = some o → (∀ p ∈ preds o, D p = true) → ∀ i, ((masks ops.toList []).getD j 0).testBit i = true → D i = true := by
  intro j
  induction j using Nat.strongRecOn with
  | _ j ih =>
    intro o ho hp i hi
    have := masks_at ops.toList [] j o (by simpa using ho)
    simp only [List.length_nil, Nat.zero_add] at this
    rw [this, foldl_bits (fun p => ((masks ops.toList []).take j).getD p 0)] at hi
    rcases hi with hi | ⟨p, hpm, hi | hi⟩
    · simp at hi
    · subst hi; exact hp p hpm
    · have hlt : p < j ∧ ((masks ops.toList []).getD p 0).testBit i = true := by
        rw [List.getD_eq_getElem?_getD, List.getElem?_take] at hi
        split at hi
        · rename_i h; exact ⟨h, by rw [List.getD_eq_getElem?_getD]; exact hi⟩
        · simp at hi
      have hsz : j < ops.size := (Array.getElem?_eq_some_iff.1 ho).1
      have hpo : ops[p]? = some ops[p] := Array.getElem?_eq_getElem (by omega)
      exact ih p hlt.1 ops[p] hpo (hD p _ hpo (hp p hpm)) i hlt.2

/-- What 'indep' says. -/
structure Indep (ops : Array Oper) (T : Nat → List Nat × List Nat) : Prop where
  back : ∀ j o, ops[j]? = some o → ∀ p ∈ preds o, p < j
  pair : ∀ i j oi oj, i < j → ops[i]? = some oi → ops[j]? = some oj → ((masks ops.toList []).getD j 0).testBit i = true ∨
    ((∀ b ∈ (T i).2, b ∉ (T j).1 ∧ b ∉ (T j).2) ∧ (∀ b ∈ (T j).2, b ∉ (T i).1) ∧ oi.apart ops oj = true)

theorem indep_spec (h : indep ops ((List.range ops.size).map T) = true) : Indep ops T := by
  have key : ∀ j oj, ops[j]? = some oj → (∀ p ∈ preds oj, p < j) ∧ ∀ i oi, i < j → ops[i]? = some oi → ((masks ops.toList []).getD j 0).testBit i = true ∨
      ((∀ b ∈ (T i).2, b ∉ (T j).1 ∧ b ∉ (T j).2) ∧ (∀ b ∈ (T j).2, b ∉ (T i).1) ∧ oi.apart ops oj = true) := by
    intro j oj hj
    have hsz : j < ops.size := (Array.getElem?_eq_some_iff.1 hj).1
    unfold indep at h
    simp only [List.all_eq_true, List.mem_range] at h
    have h1 := h j hsz
    have hT : ∀ i, i < ops.size → ((List.range ops.size).map T)[i]? = some (T i) := fun i hi => by simp [hi]
    rw [hj, hT j hsz] at h1
    simp only [Bool.and_eq_true, List.all_eq_true, List.mem_range, decide_eq_true_eq] at h1
    refine ⟨h1.1, fun i oi hi hoi => ?_⟩
    have h2 := h1.2 i hi
    rw [hoi, hT i (by omega)] at h2
    simp only [Bool.or_eq_true, Bool.and_eq_true] at h2
    rcases h2 with h2 | ⟨⟨h3, h4⟩, h5⟩
    · exact .inl h2
    · refine .inr ⟨fun b hb => ?_, disj_spec h4, h5⟩
      have := disj_spec h3 b hb
      simpa using this
  exact ⟨fun j o ho => (key j o ho).1, fun i j oi oj hij hi hj => (key j oj hj).2 i oi hij hi⟩

/-! ### The state behind a set of operations -/

def wrS (ops : Array Oper) (D : Nat → Bool) (i : Nat) (k : Nat) : Bool := D k && (match ops[k]? with | some o => o.dst == some i | none => false)
def wrM (T : Nat → List Nat × List Nat) (D : Nat → Bool) (b : Nat) (k : Nat) : Bool := D k && (T k).2.contains b
def slotD (ops : Array Oper) (S : Nat → St) (D : Nat → Bool) (i : Nat) : V := lastv (wrS ops D i) (fun k => (S (k + 1)).tv i) ((S 0).tv i) ops.size
def memD (ops : Array Oper) (S : Nat → St) (T : Nat → List Nat × List Nat) (D : Nat → Bool) : Mem := fun b => lastv (wrM T D b) (fun k => mget (S (k + 1)).m b) (mget (S 0).m b) ops.size

def All (E : Env) (ops : Array Oper) (S : Nat → St) (T : Nat → List Nat × List Nat) : Prop := ∀ j o, ops[j]? = some o → StepOK E ops j o (S j) (S (j + 1)) (T j).1 (T j).2

theorem op_at {j : Nat} (h : j < ops.size) : ∃ o, ops[j]? = some o := ⟨ops[j], Array.getElem?_eq_getElem h⟩
theorem op_lt {j : Nat} {o : Oper} (h : ops[j]? = some o) : j < ops.size := (Array.getElem?_eq_some_iff.1 h).1

theorem slot_at (h : All E ops S T) (i : Nat) : ∀ j, j ≤ ops.size → (S j).tv i = lastv (wrS ops (fun _ => true) i) (fun k => (S (k + 1)).tv i) ((S 0).tv i) j
  | 0, _ => rfl
  | j + 1, hj => by
    obtain ⟨o, ho⟩ := op_at (ops := ops) (j := j) (by omega)
    simp only [lastv, wrS, ho, Bool.true_and]
    cases hd : o.dst == some i with
    | true => rfl
    | false =>
      show (S (j + 1)).tv i = lastv _ _ _ j
      rw [(h j o ho).t i (by simpa using hd)]
      exact slot_at h i j (by omega)

theorem mem_at (h : All E ops S T) (b : Nat) : ∀ j, j ≤ ops.size → mget (S j).m b = lastv (wrM T (fun _ => true) b) (fun k => mget (S (k + 1)).m b) (mget (S 0).m b) j
  | 0, _ => rfl
  | j + 1, hj => by
    obtain ⟨o, ho⟩ := op_at (ops := ops) (j := j) (by omega)
    simp only [lastv, wrM, Bool.true_and]
    cases hd : (T j).2.contains b with
    | true => rfl
    | false =>
      show mget (S (j + 1)).m b = lastv _ _ _ j
      rw [(h j o ho).rest b (by simpa using hd)]
      exact mem_at h b j (by omega)

theorem len_mono (h : All E ops S T) : ∀ (i j : Nat), i ≤ j → j ≤ ops.size → (S i).m.length ≤ (S j).m.length := by
  intro i j
  induction j with
  | zero => intro hi _; have : i = 0 := by omega
            rw [this]; exact Nat.le_refl _
  | succ j ih =>
    intro hi hj
    by_cases e : i = j + 1
    · rw [e]; exact Nat.le_refl _
    · obtain ⟨o, ho⟩ := op_at (ops := ops) (j := j) (by omega)
      exact Nat.le_trans (ih (by omega) (by omega)) (h j o ho).len

theorem tl_same (h : All E ops S T) : ∀ j, j ≤ ops.size → (S j).t.length = (S 0).t.length
  | 0, _ => rfl
  | j + 1, hj => by
    obtain ⟨o, ho⟩ := op_at (ops := ops) (j := j) (by omega)
    rw [(h j o ho).tl, tl_same h j (by omega)]

structure DInv (E : Env) (ops : Array Oper) (S : Nat → St) (T : Nat → List Nat × List Nat) (ρ0 : Ren) (a0 : Act) (w0 : World) (D : Nat → Bool) (ρ : Ren) (a : Act) (w : World) : Prop where
  defers : a.defers = []
  size : a.tmps.size = (S 0).t.length
  t : ∀ i, VR ρ (slotD ops S D i) (a.tmps.getD i undef)
  m : RM ρ (memD ops S T D) w
  names : ∀ b, (S 0).m.length ≤ b → (∀ j, j < ops.size → D j = true → ¬ ((S j).m.length ≤ b ∧ b < (S (j + 1)).m.length)) → ρ b = none
  g : GOK E ρ
  ext : Ext ρ0 (mget (S 0).m) w0 ρ (memD ops S T D) w
  agree : ∀ b, b < (S 0).m.length → ρ b = ρ0 b
  sl : ∀ i, (∀ (j : Nat) (o : Oper), ops[j]? = some o → o.dst ≠ some i) → a.tmps.getD i undef = a0.tmps.getD i undef

theorem inv_step (hst : All E ops S T) (hin : Indep ops T) {D : Nat → Bool} (hcl : Closed ops D) {j : Nat} {o : Oper} (ho : ops[j]? = some o) (hj : D j = false) (hp : ∀ p ∈ preds o, D p = true)
    {ρ0 : Ren} {a0 : Act} {w0 : World} {ρ : Ren} {a : Act} {w : World} (hI : DInv E ops S T ρ0 a0 w0 D ρ a w) (Q : Exit → Act → World → Prop) (next : Act → World → Prop) (hlo : True)
    (hn : ∀ ρ' a' w', DInv E ops S T ρ0 a0 w0 (fun k => D k || k == j) ρ' a' w' → next a' w') : wpOp E.P ops Q j next a w := by
  have hjs := op_lt ho
  have S1 := hst j o ho
  have before : ∀ i oi, i < j → ops[i]? = some oi → D i = false → (∀ b ∈ (T i).2, b ∉ (T j).1 ∧ b ∉ (T j).2) ∧ oi.apart ops o = true := fun i oi hij hi hD => by
    rcases hin.pair i j oi o hij hi ho with h | h
    · have := mask_closed hcl j o ho hp i h
      rw [hD] at this; cases this
    · exact ⟨h.1, h.2.2⟩
  have behind : ∀ k ok, j < k → ops[k]? = some ok → D k = true → (∀ b ∈ (T k).2, b ∉ (T j).1 ∧ b ∉ (T j).2) ∧ o.apart ops ok = true := fun k ok hjk hk hD => by
    rcases hin.pair j k o ok hjk ho hk with h | h
    · have := mask_closed hcl k ok hk (hcl k ok hk hD) j h
      rw [hj] at this; cases this
    · exact ⟨fun b hb => ⟨h.2.1 b hb, fun hb' => (h.1 b hb').2 hb⟩, h.2.2⟩
  have hslot : ∀ t ∈ o.looksAt ops, slotD ops S D t = (S j).tv t := fun t ht => by
    unfold slotD
    rw [lastv_tail (j := j) ops.size (Nat.le_of_lt hjs) fun k h1 h2 => ?_, slot_at hst t j (Nat.le_of_lt hjs)]
    · refine lastv_congr j fun k hk => ?_
      obtain ⟨ok, hok⟩ := op_at (ops := ops) (j := k) (by omega)
      simp only [wrS, hok, Bool.true_and]
      cases hD : D k with
      | true => rfl
      | false =>
        have := (Oper.apart_spec (before k ok hk hok hD).2).1
        simp only [Bool.false_and]
        symm
        simp only [beq_eq_false_iff_ne, ne_eq]
        intro e
        exact this t e ht
    · obtain ⟨ok, hok⟩ := op_at (ops := ops) (j := k) h2
      simp only [wrS, hok]
      by_cases e : k = j
      · rw [e, hj]; rfl
      · cases hD : D k with
        | false => rfl
        | true =>
          have := (Oper.apart_spec (behind k ok (by omega) hok hD).2).2.2
          simp only [Bool.true_and, beq_eq_false_iff_ne, ne_eq]
          intro e'
          exact this t e' ht
  have hmem : ∀ b, b ∈ (T j).1 ∨ b ∈ (T j).2 → memD ops S T D b = mget (S j).m b := fun b hb => by
    unfold memD
    rw [lastv_tail (j := j) ops.size (Nat.le_of_lt hjs) fun k h1 h2 => ?_, mem_at hst b j (Nat.le_of_lt hjs)]
    · refine lastv_congr j fun k hk => ?_
      obtain ⟨ok, hok⟩ := op_at (ops := ops) (j := k) (by omega)
      simp only [wrM, Bool.true_and]
      cases hD : D k with
      | true => rfl
      | false =>
        have := (before k ok hk hok hD).1
        simp only [Bool.false_and]
        symm
        cases hc : (T k).2.contains b with
        | false => rfl
        | true =>
          have h3 := this b (by simpa using hc)
          exact (hb.elim h3.1 h3.2).elim
    · obtain ⟨ok, hok⟩ := op_at (ops := ops) (j := k) h2
      simp only [wrM]
      by_cases e : k = j
      · rw [e, hj]; rfl
      · cases hD : D k with
        | false => rfl
        | true =>
          simp only [Bool.true_and]
          cases hc : (T k).2.contains b with
          | false => rfl
          | true =>
            have h3 := (behind k ok (by omega) hok hD).1 b (by simpa using hc)
            exact (hb.elim h3.1 h3.2).elim
  have hnew : ∀ b, (S j).m.length ≤ b → b < (S (j + 1)).m.length → ρ b = none := fun b h1 h2 => by
    refine hI.names b (Nat.le_trans (len_mono hst 0 j (Nat.zero_le _) (Nat.le_of_lt hjs)) h1) fun k hk hD => ?_
    rintro ⟨h3, h4⟩
    have hne : k ≠ j := fun e => by rw [e, hj] at hD; cases hD
    rcases Nat.lt_or_gt_of_ne hne with h | h
    · have := len_mono hst (k + 1) j h (Nat.le_of_lt hjs)
      omega
    · have := len_mono hst (j + 1) k h (Nat.le_of_lt hk)
      omega
  refine S1.run a w ρ (memD ops S T D) (slotD ops S D) hslot hI.t hI.m hI.g hmem hnew Q next hlo fun ρ' w' v k1 k2 k3 k4 => ?_
  have hmem' : memD ops S T (fun k => D k || k == j) = fun b => if b ∈ (T j).2 then mget (S (j + 1)).m b else memD ops S T D b := by
    funext b
    by_cases hb : b ∈ (T j).2
    · rw [if_pos hb]
      unfold memD
      refine lastv_one hjs (by simp [wrM, hb]) fun k h1 h2 => ?_
      obtain ⟨ok, hok⟩ := op_at (ops := ops) (j := k) h2
      simp only [wrM]
      cases hD : D k with
      | false =>
        have : (k == j) = false := by simp; omega
        rw [this]; rfl
      | true =>
        simp only [Bool.true_or, Bool.true_and]
        cases hc : (T k).2.contains b with
        | false => rfl
        | true => exact (((behind k ok h1 hok hD).1 b (by simpa using hc)).2 hb).elim
    · rw [if_neg hb]
      unfold memD
      refine lastv_congr _ fun k _ => ?_
      simp only [wrM]
      by_cases e : k = j
      · subst e
        have : (T k).2.contains b = false := by simpa using hb
        rw [this, Bool.and_false, Bool.and_false]
      · have : (k == j) = false := by simpa using e
        rw [this, Bool.or_false]
  have hslot' : ∀ i, slotD ops S (fun k => D k || k == j) i = if o.dst = some i then (S (j + 1)).tv i else slotD ops S D i := by
    intro i
    by_cases hb : o.dst = some i
    · rw [if_pos hb]
      unfold slotD
      refine lastv_one hjs (by simp [wrS, ho, hb]) fun k h1 h2 => ?_
      obtain ⟨ok, hok⟩ := op_at (ops := ops) (j := k) h2
      simp only [wrS, hok]
      cases hD : D k with
      | false =>
        have : (k == j) = false := by simp; omega
        rw [this]; rfl
      | true =>
        simp only [Bool.true_or, Bool.true_and, beq_eq_false_iff_ne, ne_eq]
        exact (Oper.apart_spec (behind k ok h1 hok hD).2).2.1 i hb
    · rw [if_neg hb]
      unfold slotD
      refine lastv_congr _ fun k _ => ?_
      simp only [wrS]
      by_cases e : k = j
      · subst e
        have : (o.dst == some i) = false := by simpa using hb
        rw [ho]
        simp only [this, Bool.and_false]
      · have : (k == j) = false := by simpa using e
        rw [this, Bool.or_false]
  refine hn ρ' _ w' ⟨?_, ?_, fun i => ?_, by rw [hmem']; exact k3, fun b h1 h2 => ?_, hI.g.mono k4.sub, by rw [hmem']; exact hI.ext.trans k4, fun b hb => ?_, fun i hi => ?_⟩
  · cases hd : o.dst <;> simp [Act.put, hI.defers]
  · cases hd : o.dst <;> simp [Act.put, hI.size]
  · rw [hslot']
    by_cases hb : o.dst = some i
    · rw [if_pos hb, hb, put_getD, if_pos ⟨rfl, by
        rw [hI.size, ← tl_same hst j (Nat.le_of_lt hjs)]
        exact S1.dlt i hb⟩]
      exact k2 i hb
    · rw [if_neg hb]
      have : (a.put o.dst v).tmps.getD i undef = a.tmps.getD i undef := by
        cases hd : o.dst with
        | none => rfl
        | some d =>
          rw [put_getD, if_neg]
          rintro ⟨e, _⟩
          exact hb (by rw [hd, e])
      rw [this]
      exact (hI.t i).mono k4.sub
  · rw [k1 b (h2 j hjs (by simp))]
    exact hI.names b h1 fun k hk hD => h2 k hk (by simp [hD])
  · rw [k1 b (by have := len_mono hst 0 j (Nat.zero_le _) (Nat.le_of_lt hjs); omega)]
    exact hI.agree b hb
  · have : (a.put o.dst v).tmps.getD i undef = a.tmps.getD i undef := by
      cases hd : o.dst with
      | none => rfl
      | some d =>
        rw [put_getD, if_neg]
        rintro ⟨e, _⟩
        exact hi j o ho (by rw [hd, e])
    rw [this]
    exact hI.sl i hi

/-! ### All orders -/

theorem countP_drop {α : Type} (p q : α → Bool) (x : α) : ∀ (l : List α), (∀ y ∈ l, q y = true → p y = true) → x ∈ l → p x = true → q x = false → l.countP q < l.countP p
  | [], _, h, _, _ => by cases h
  | y :: l, hpq, hx, h1, h2 => by
    have hle : l.countP q ≤ l.countP p := by
      refine List.countP_mono_left fun z hz h => hpq z (by simp [hz]) h
    rw [List.countP_cons, List.countP_cons]
    by_cases e : x = y
    · subst e
      rw [h1, h2]
      simp
      omega
    · have hx' : x ∈ l := by
        rcases List.mem_cons.1 hx with h | h
        · exact (e h).elim
        · exact h
      have := countP_drop p q x l (fun z hz => hpq z (by simp [hz])) hx' h1 h2
      have hy := hpq y (by simp)
      by_cases hq : q y = true
      · rw [hq, hy hq]; simp; omega
      · have : q y = false := by simpa using hq
        rw [this]
        simp
        split <;> omega

theorem any_ok (hst : All E ops S T) (hin : Indep ops T) {ρ0 : Ren} {a0 : Act} {w0 : World} (Q : Exit → Act → World → Prop) (hlo : True)
    (hQ : ∀ D ρ a w, (∀ j, j < ops.size → D j = true) → DInv E ops S T ρ0 a0 w0 D ρ a w → Q .normal a w) :
    ∀ (fuel : Nat) (listed : Array Bool) (ρ : Ren) (a : Act) (w : World), listed.size = ops.size → (List.range ops.size).countP (fun i => !listed.getD i false) ≤ fuel →
      Closed ops (fun i => listed.getD i false) → DInv E ops S T ρ0 a0 w0 (fun i => listed.getD i false) ρ a w → wpAny E.P .any ops Q fuel listed a w := by
  have hall : ∀ (listed : Array Bool), listed.size = ops.size → Region.ready .any ops listed = [] → ∀ j, j < ops.size → listed.getD j false = true := by
    intro listed hs hr j
    induction j using Nat.strongRecOn with
    | _ j ih =>
      intro hj
      cases hb : listed.getD j false with
      | true => rfl
      | false =>
        obtain ⟨o, ho⟩ := op_at hj
        have : j ∈ Region.ready .any ops listed := mem_ready.2 ⟨by
            rw [Array.getD_eq_getD_getElem?, Array.getElem?_eq_getElem (by omega)] at hb ⊢
            exact hb, o, ho, fun e he hbd => by
            have hp : e.on ∈ preds o := List.mem_filterMap.2 ⟨e, by simpa using he, by simp [hbd]⟩
            have hlt := hin.back j o ho _ hp
            exact ih _ hlt (by omega)⟩
        rw [hr] at this
        cases this
  intro fuel
  induction fuel with
  | zero =>
    intro listed ρ a w hs hc hcl hI
    have hall' : ∀ j, j < ops.size → listed.getD j false = true := fun j hj => by
      have h0 : (List.range ops.size).countP (fun i => !listed.getD i false) = 0 := by omega
      rw [List.countP_eq_zero] at h0
      have := h0 j (List.mem_range.2 hj)
      simpa using this
    refine ⟨?_, hQ _ ρ a w hall' hI⟩
    cases hr : Region.ready .any ops listed with
    | nil => rfl
    | cons x xs =>
      have hx : x ∈ Region.ready .any ops listed := by rw [hr]; simp
      obtain ⟨h1, o, ho, _⟩ := mem_ready.1 hx
      have h2 := hall' x (op_lt ho)
      rw [Array.getD_eq_getD_getElem?, Array.getElem?_eq_getElem (by rw [hs]; exact op_lt ho)] at h1 h2
      simp at h1 h2
      rw [h1] at h2
      cases h2
  | succ fuel ih =>
    intro listed ρ a w hs hc hcl hI
    refine ⟨fun hr => hQ _ ρ a w (hall listed hs hr) hI, fun i hi => ?_⟩
    obtain ⟨h1, o, ho, h2⟩ := mem_ready.1 hi
    have his := op_lt ho
    have hif : listed.getD i false = false := by
      rw [Array.getD_eq_getD_getElem?, Array.getElem?_eq_getElem (by omega)] at h1 ⊢
      exact h1
    have hp : ∀ p ∈ preds o, listed.getD p false = true := fun p hp => by
      obtain ⟨e, he, hb⟩ := List.mem_filterMap.1 hp
      split at hb
      · rename_i hbd
        cases hb
        exact h2 e (by simpa using he) hbd
      · cases hb
    have hset : ∀ k, (listed.setIfInBounds i true).getD k false = (listed.getD k false || k == i) := fun k => by
      by_cases e : k = i
      · subst e
        simp [show k < listed.size by omega]
      · rw [getD_set_ne false (fun h => e h.symm)]
        have : (k == i) = false := by simpa using e
        rw [this, Bool.or_false]
    refine inv_step hst hin hcl ho hif hp hI Q _ hlo fun ρ' a' w' hI' => ?_
    refine ih _ ρ' a' w' (by simp [hs]) ?_ ?_ ?_
    · have := countP_drop (fun k => !listed.getD k false) (fun k => !(listed.setIfInBounds i true).getD k false) i (List.range ops.size) (fun y _ h => by
        simp only [hset, Bool.not_or, Bool.and_eq_true] at h
        exact h.1) (List.mem_range.2 his) (by simp only [hif]; rfl) (by simp only [hset]; simp)
      omega
    · intro k ok hk hD p hpk
      show (listed.setIfInBounds i true).getD p false = true
      replace hD : (listed.setIfInBounds i true).getD k false = true := hD
      rw [hset] at hD ⊢
      by_cases e : k = i
      · subst e
        rw [ho] at hk
        cases hk
        rw [hp p hpk]; rfl
      · have : (k == i) = false := by simpa using e
        rw [this, Bool.or_false] at hD
        have hx : listed.getD p false = true := hcl k ok hk hD p hpk
        rw [hx]; rfl
    · have e : (fun k => (listed.setIfInBounds i true).getD k false) = fun k => listed.getD k false || k == i := funext hset
      rw [e]
      exact hI'

end

theorem slotD_none {ops : Array Oper} {S : Nat → St} {D : Nat → Bool} (h : ∀ k, D k = false) (i : Nat) : slotD ops S D i = (S 0).tv i := by
  unfold slotD
  rw [lastv_tail (j := 0) ops.size (Nat.zero_le _) fun k _ _ => by simp [wrS, h k]]
  rfl
theorem memD_none {ops : Array Oper} {S : Nat → St} {T : Nat → List Nat × List Nat} {D : Nat → Bool} (h : ∀ k, D k = false) : memD ops S T D = mget (S 0).m := by
  funext b
  unfold memD
  rw [lastv_tail (j := 0) ops.size (Nat.zero_le _) fun k _ _ => by simp [wrM, h k]]
  rfl
theorem slotD_all {ops : Array Oper} {S : Nat → St} {T : Nat → List Nat × List Nat} {D : Nat → Bool} (hst : All E ops S T) (h : ∀ k, k < ops.size → D k = true) (i : Nat) : slotD ops S D i = (S ops.size).tv i := by
  rw [slot_at hst i ops.size (Nat.le_refl _)]
  exact lastv_congr _ fun k hk => by simp [wrS, h k hk]
theorem memD_all {ops : Array Oper} {S : Nat → St} {T : Nat → List Nat × List Nat} {D : Nat → Bool} (hst : All E ops S T) (h : ∀ k, k < ops.size → D k = true) : memD ops S T D = mget (S ops.size).m := by
  funext b
  rw [mem_at hst b ops.size (Nat.le_refl _)]
  exact lastv_congr _ fun k hk => by simp [wrM, h k hk]

theorem evOps_any (hE : EnvOK E) {R : Type} {call : List Nat → CallF R} (hcall : CallsOK E false call) {rid : Nat} {cx : List Nat} {ops : Array Oper} {s : St} {K : St → Option R} {r : R}
    (h : evOps E call rid cx ops ops.toList 0 s [] (fun s' tr => chk (indep ops tr.reverse) (K s')) = some r) {id : Nat} :
    ∃ s', K s' = some r ∧ s.m.length ≤ s'.m.length ∧ ∀ (Q : Exit → Act → World → Prop) (ρ : Ren) (a : Act) (w : World), True → RS E ρ s a w →
      (∀ ρ' a' w', Went E (ops.toList.filterMap (·.dst)) ρ s a w ρ' s' a' w' → Q .normal a' w') → (Code.region id ops true).wp E.P Q a w := by
  obtain ⟨S, T, h0, hst, hk⟩ := evOps_steps hE hcall ops.toList 0 s [] _ r h (fun i => by simp)
  have hall : All E ops S T := fun j o ho => by
    have := hst j o (by simpa using ho)
    simpa using this
  simp only [Nat.zero_add, Array.length_toList, List.append_nil, List.reverse_reverse] at hk
  have hin : Indep ops T := by
    cases hi : indep ops ((List.range' 0 ops.size).map T) with
    | false => rw [hi] at hk; cases hk
    | true => rw [← List.range_eq_range'] at hi; exact indep_spec hi
  have hk' : K (S ops.size) = some r := by
    exact (chk_some hk).2
  refine ⟨S ops.size, hk', by rw [← h0]; exact len_mono hall 0 _ (Nat.zero_le _) (Nat.le_refl _), fun Q ρ a w hlo hs hQ => wp_region_any hE.mixed ?_⟩
  subst h0
  have hw : Ext ρ (mget (S 0).m) w ρ (mget (S 0).m) { w with drawn := w.drawn + 1 } := Ext.same rfl rfl rfl rfl
  have hfalse : ∀ k, (Array.replicate ops.size false).getD k false = false := fun k => by
    rw [Array.getD_eq_getD_getElem?, Array.getElem?_replicate]
    split <;> rfl
  refine any_ok (S := S) (T := T) hall hin (ρ0 := ρ) (a0 := a) (w0 := w) Q hlo (fun D ρ' a' w' hD hI => ?_) ops.size _ ρ a _ (by simp) ?_ (fun j o _ hD => ?_) ⟨hs.defers, hs.size, fun i => ?_, ?_, fun b hb _ => hs.names b hb, hs.g, ?_, fun _ _ => rfl, fun _ _ => rfl⟩
  · have e := memD_all hall hD
    have em := hI.m
    have ee := hI.ext
    rw [e] at em ee
    refine hQ ρ' a' w' ⟨⟨hI.defers, by rw [hI.size, tl_same hall _ (Nat.le_refl _)], fun i => ?_, em, fun b hb => ?_, hI.g⟩, ee, hI.agree, len_mono hall 0 _ (Nat.zero_le _) (Nat.le_refl _), tl_same hall _ (Nat.le_refl _), fun i hi => hI.sl i fun j o ho hd => hi ?_⟩
    · rw [← slotD_all hall hD i]
      exact hI.t i
    · refine hI.names b (Nat.le_trans (len_mono hall 0 _ (Nat.zero_le _) (Nat.le_refl _)) hb) fun j hj _ => ?_
      have := len_mono hall (j + 1) ops.size hj (Nat.le_refl _)
      omega
    · exact List.mem_filterMap.2 ⟨o, by rw [Array.mem_toList_iff]; exact Array.mem_of_getElem? ho, hd⟩
  · refine Nat.le_trans List.countP_le_length ?_
    simp
  · replace hD : (Array.replicate ops.size false).getD j false = true := hD
    rw [hfalse] at hD; cases hD
  · rw [slotD_none hfalse]
    exact hs.t i
  · rw [memD_none hfalse]
    exact hs.m.same (Sub.refl _) (Nat.le_refl _) fun _ _ _ _ _ _ => rfl
  · rw [memD_none hfalse]
    exact hw

end Go.Ev

/-
  Calls inside regions that draw their order.
-/
namespace Go.Ev

variable {E : Env}

theorem mget_onlyAt (l : List Nat) (g : Nat) : ∀ (r : List (Option (Bool × V))) (i j : Nat), mget (onlyAt l g i r) j = if l.contains (i + j) = true ∨ i + j < g then lockX (mget r j) else none
  | [], i, j => by simp [onlyAt, mget, lockX]
  | v :: r, i, 0 => by simp [onlyAt, mget]
  | v :: r, i, j + 1 => by
    simp only [onlyAt, mget]
    rw [mget_onlyAt l g r (i + 1) j, show i + 1 + j = i + (j + 1) by omega]
theorem length_onlyAt (l : List Nat) (g : Nat) : ∀ (r : List (Option (Bool × V))) (i : Nat), (onlyAt l g i r).length = r.length
  | [], _ => rfl
  | v :: r, i => by simp [onlyAt, length_onlyAt l g r]

theorem below_spec {n : Nat} : ∀ (m : List (Option (Bool × V))) (b : Nat) (x : Bool × V), below n m = true → mget m b = some x → ∀ y ∈ x.2.names, y < n
  | [], b, x, _, h => by simp [mget] at h
  | v :: r, b, x, hb, h => by
    cases v with
    | none =>
      cases b with
      | zero => simp [mget] at h
      | succ b => exact below_spec r b x hb h
    | some p =>
      obtain ⟨wr, u⟩ := p
      simp only [below, Bool.and_eq_true, List.all_eq_true, decide_eq_true_eq] at hb
      cases b with
      | zero => simp [mget] at h; subst h; exact hb.1
      | succ b => exact below_spec r b x hb.2 h

theorem allNew_spec : ∀ (m : List (Option (Bool × V))) (b : Nat) (x : Bool × V), allNew m = true → mget m b = some x → x.1 = true
  | [], b, x, _, h => by simp [mget] at h
  | v :: r, b, x, hb, h => by
    cases v with
    | none =>
      cases b with
      | zero => simp [mget] at h
      | succ b => exact allNew_spec r b x (by simpa [allNew] using hb) h
    | some p =>
      obtain ⟨wr, u⟩ := p
      cases wr with
      | false => simp [allNew] at hb
      | true =>
        cases b with
        | zero => simp [mget] at h; subst h; rfl
        | succ b => exact allNew_spec r b x (by simpa [allNew] using hb) h

theorem mget_drop : ∀ (m : List (Option (Bool × V))) (n b : Nat), mget (m.drop n) b = mget m (n + b)
  | [], n, b => by simp [mget]
  | v :: r, 0, b => by simp
  | v :: r, n + 1, b => by
    rw [List.drop_succ_cons, mget_drop r n b, show n + 1 + b = (n + b) + 1 by omega]
    rfl

theorem RM.agree {ρ ρ' : Ren} {m : Mem} {w : World} (h : RM ρ m w) (ha : ∀ b x, m b = some x → ρ' b = ρ b ∧ ∀ y ∈ x.2.names, ρ' y = ρ y) : RM ρ' m w where
  held := fun b wr c hb => by
    obtain ⟨p, hp, ⟨cs, hc, hl, hh⟩, h1, h2, h3⟩ := h.held b wr c hb
    obtain ⟨e1, e2⟩ := ha b _ hb
    exact ⟨p, e1.trans hp, ⟨cs, Cells.agree c cs e2 hc, hl, hh⟩, h1, h2, h3⟩
  excl := fun b c b' x p p' hb hb' hne hp hp' hn hn' =>
    h.excl b c b' x p p' hb hb' hne ((ha b _ hb).1.symm.trans hp) ((ha b' _ hb').1.symm.trans hp') hn hn'

theorem evCall_draw (hE : EnvOK E) (hsig : ∀ f g, E.sig f = some g → SigOK E f g) {R : Type} {body : List Nat → Code → St → (Exit → St → Option R) → Option R} (hb : BodyOK E body)
    {cx : List Nat} {f : FuncId} {args : List V} {s : St} {K : V → St → List Nat → List Nat → Option R} {r : R} (h : evCall E true body cx f args s K = some r) :
    ∃ x s' rd wr, K x s' rd wr = some r ∧ CallOK E false f args s x s' rd wr := by
  unfold evCall at h
  split at h
  · rename_i g hg
    obtain ⟨v, cs, us, hk, hc⟩ := hsig f g hg R args s _ r h
    exact ⟨_, _, _, _, hk, hc false⟩
  · split at h
    · rename_i fn hf
      split at h
      · rename_i c hcb
        split at h
        · rename_i hn
          simp only [force_eq] at h
          split at h
          · rename_i hchk
            obtain ⟨⟨hgn, hargs⟩, hbel⟩ := hchk
            have hargs : ∀ b ∈ V.namesL args, b < s.m.length := fun b hb => by
              have := List.all_eq_true.1 hargs b hb
              simpa using this
            obtain ⟨e, s', hk, hlen, hrun⟩ := hb _ _ _ _ _ h
            have he : (e = .normal ∨ e = .ret) ∧ (if allNew (s'.m.drop s.nx) = true then retK E s' fn.results.toList (fun l =>
                K (ret1 l) { s with m := s.m ++ s'.m.drop s.nx } (reach s.m 100 (V.namesL args) [] ++ List.range E.gn) []) else none) = some r := by
              cases e <;> first | exact ⟨.inl rfl, hk⟩ | exact ⟨.inr rfl, hk⟩ | cases hk
            obtain ⟨he, hk2⟩ := he
            split at hk2
            · rename_i hnw
              obtain ⟨vs, hK, hret⟩ := retK_ok _ _ _ hk2
              have hl0 : (onlyAt (reach s.m 100 (V.namesL args) []) E.gn 0 s.m).length = s.m.length := length_onlyAt _ _ _ _
              have hlen' : s.m.length ≤ s'.m.length := by rw [← hl0]; exact hlen
              have hll : (s.m ++ s'.m.drop s.nx).length = s'.m.length := by
                rw [List.length_append, List.length_drop]
                show s.m.length + (s'.m.length - s.m.length) = _
                omega
              refine ⟨_, _, _, _, hK, ⟨by show s.m.length ≤ (s.m ++ s'.m.drop s.nx).length; rw [hll]; exact hlen', rfl, fun b _ hlt => mget_append_left hlt, fun b hb => (by cases hb), ⟨fn, c, hf, hcb⟩, ?_⟩⟩
              intro w ρ m1 avs hv hm hg hr hfr _
              replace hfr : ∀ b, s.m.length ≤ b → b < s'.m.length → ρ b = none ∧ m1 b = none := fun b h1 h2 => hfr b h1 (by show b < (s.m ++ s'.m.drop s.nx).length; rw [hll]; exact h2)
              let ρr : Ren := fun b => if b < s.m.length then ρ b else none
              have hρr : ∀ b, b < s.m.length → ρr b = ρ b := fun b hb => if_pos hb
              have hm0 : ∀ b x, mget (onlyAt (reach s.m 100 (V.namesL args) []) E.gn 0 s.m) b = some x → x.1 = false ∧ m1 b = mget s.m b ∧ ∃ wr, mget s.m b = some (wr, x.2) := by
                intro b x hx
                rw [mget_onlyAt, Nat.zero_add] at hx
                split at hx
                · rename_i hc
                  have hrd : m1 b = mget s.m b := hr b (.inl (by
                    rcases hc with h | h
                    · exact List.mem_append_left _ (by simpa using h)
                    · exact List.mem_append_right _ (List.mem_range.2 h)))
                  cases hy : mget s.m b with
                  | none => rw [hy] at hx; cases hx
                  | some y => rw [hy] at hx; cases hx; exact ⟨rfl, hrd.trans hy, y.1, rfl⟩
                · cases hx
              have hrm0 : RM ρr (mget (onlyAt (reach s.m 100 (V.namesL args) []) E.gn 0 s.m)) w := by
                refine (hm.less fun b x hx => ?_).agree fun b x hx => ⟨hρr b ?_, fun y hy => hρr y ?_⟩
                · obtain ⟨h1, h2, wr, h3⟩ := hm0 b x hx
                  exact ⟨wr, h2.trans h3, fun h => by rw [h1] at h; cases h⟩
                · have := mget_lt hx
                  rw [hl0] at this
                  exact this
                · exact below_spec _ b x hbel hx y hy
              have hrs : RS E ρr ⟨frame0 fn.ntmps args, onlyAt (reach s.m 100 (V.namesL args) []) E.gn 0 s.m⟩ { tmps := avs.toArray ++ Array.replicate (fn.ntmps - avs.toArray.size) undef, defers := [] } w :=
                RS.enter (VRL.agree args avs (fun b hb => hρr b (hargs b hb)) hv) hrm0 (fun b hb => by rw [hl0] at hb; exact if_neg (by omega)) (fun g n hgz => by
                  obtain ⟨p, h1, h2⟩ := hg g n hgz
                  have := hE.gn g (by rw [hgz]; omega)
                  exact ⟨p, (hρr g (Nat.lt_of_lt_of_le this hgn)).trans h1, h2⟩)
              refine calls_of_wp hf hcb (hrun _ ρr _ w trivial hrs fun ρ' a' w' hw => ?_)
              obtain ⟨xs, k1, k2⟩ := hret ρ' a' w' hw.rs
              have hagree : ∀ b, b < s.m.length → ρ' b = ρ b := fun b hb => by
                rw [hw.agree b (by show b < (onlyAt _ _ _ _).length; rw [hl0]; exact hb), hρr b hb]
              let ρ2 : Ren := fun b => if s.m.length ≤ b ∧ b < s'.m.length then ρ' b else ρ b
              have hsub : Sub ρ' ρ2 := fun b p hp => by
                show (if _ then _ else _) = _
                by_cases hc : s.m.length ≤ b ∧ b < s'.m.length
                · rw [if_pos hc]; exact hp
                · rw [if_neg hc]
                  by_cases hlt : b < s.m.length
                  · rw [← hagree b hlt]; exact hp
                  · rw [hw.rs.names b (by omega)] at hp; cases hp
              have hsub0 : Sub ρ ρ2 := fun b p hp => by
                show (if _ then _ else _) = _
                by_cases hc : s.m.length ≤ b ∧ b < s'.m.length
                · rw [(hfr b hc.1 hc.2).1] at hp; cases hp
                · rw [if_neg hc]; exact hp
              have noMine : ∀ k, ¬ Mine ρr (mget (onlyAt (reach s.m 100 (V.namesL args) []) E.gn 0 s.m)) k := by
                rintro k ⟨b, c, p, h1, _⟩
                have := (hm0 b _ h1).1
                cases this
              have keep : ∀ k, k < w.heap.size → w'.heap[k]? = w.heap[k]? := fun k hk => hw.ext.keep k hk (noMine k)
              have hM : merge m1 [] s { s with m := s.m ++ s'.m.drop s.nx } = fun b => if s.m.length ≤ b ∧ b < s'.m.length then mget s'.m b else m1 b := by
                funext b
                unfold merge
                by_cases hc : s.m.length ≤ b ∧ b < s'.m.length
                · rw [if_pos (.inr ⟨hc.1, by show b < (s.m ++ s'.m.drop s.nx).length; rw [hll]; exact hc.2⟩), if_pos hc]
                  show mget (s.m ++ s'.m.drop s.m.length) b = _
                  have := mget_append_right (m := s.m) (n := s'.m.drop s.m.length) (b := b - s.m.length)
                  rw [show s.m.length + (b - s.m.length) = b by omega] at this
                  rw [this, mget_drop, show s.m.length + (b - s.m.length) = b by omega]
                · rw [if_neg hc, if_neg]
                  rintro (h | h)
                  · cases h
                  · exact hc ⟨h.1, by have := h.2; change b < (s.m ++ s'.m.drop s.nx).length at this; rw [hll] at this; exact this⟩
              have newb : ∀ b x p, s.m.length ≤ b → b < s'.m.length → mget s'.m b = some x → ρ2 b = some p → p.nil = false → x.1 = true ∧ w.heap.size ≤ p.blk ∧ ρ' b = some p := by
                intro b x p h1 h2 hx hp hn
                have hx1 : x.1 = true := by
                  refine allNew_spec _ (b - s.m.length) x hnw ?_
                  show mget (s'.m.drop s.m.length) _ = _
                  rw [mget_drop, show s.m.length + (b - s.m.length) = b by omega]
                  exact hx
                have hp' : ρ' b = some p := by
                  have : ρ2 b = ρ' b := if_pos ⟨h1, h2⟩
                  rw [← this]; exact hp
                refine ⟨hx1, ?_, hp'⟩
                rcases hw.ext.own p.blk ⟨b, x.2, p, by rw [hx]; rw [← hx1], hp', hn, rfl⟩ with h | h
                · exact h
                · exact (noMine _ h).elim
              have oldb : ∀ b x p, ¬ (s.m.length ≤ b ∧ b < s'.m.length) → m1 b = some x → ρ2 b = some p → p.nil = false → p.blk < w.heap.size ∧ ρ b = some p := by
                intro b x p hc hx hp hn
                have hp' : ρ b = some p := by
                  have : ρ2 b = ρ b := if_neg hc
                  rw [← this]; exact hp
                obtain ⟨q, hq, hh⟩ := hm.held b x.1 x.2 hx
                rw [hp'] at hq; cases hq
                exact ⟨(hh.2.2.2 hn).1.1, hp'⟩
              have hRM : RM ρ2 (fun b => if s.m.length ≤ b ∧ b < s'.m.length then mget s'.m b else m1 b) w' := by
                refine ⟨fun b wr c hb => ?_, fun b c b' x p p' hb hb' hne hp hp' hn hn' => ?_⟩
                · by_cases hc : s.m.length ≤ b ∧ b < s'.m.length
                  · rw [if_pos hc] at hb
                    obtain ⟨p, hp, hh⟩ := hw.rs.m.held b wr c hb
                    exact ⟨p, hsub b p hp, hh.same hsub (Nat.le_refl _) fun _ => rfl⟩
                  · rw [if_neg hc] at hb
                    obtain ⟨p, hp, hh⟩ := hm.held b wr c hb
                    exact ⟨p, hsub0 b p hp, hh.same hsub0 hw.ext.size fun hn => keep _ (hh.2.2.2 hn).1.1⟩
                · by_cases hc : s.m.length ≤ b ∧ b < s'.m.length <;> by_cases hc' : s.m.length ≤ b' ∧ b' < s'.m.length
                  · rw [if_pos hc] at hb; rw [if_pos hc'] at hb'
                    exact hw.rs.m.excl b c b' x p p' hb hb' hne (newb b _ p hc.1 hc.2 hb hp hn).2.2 (newb b' _ p' hc'.1 hc'.2 hb' hp' hn').2.2 hn hn'
                  · rw [if_pos hc] at hb; rw [if_neg hc'] at hb'
                    have h1 := (newb b _ p hc.1 hc.2 hb hp hn).2.1
                    have h2 := (oldb b' _ p' hc' hb' hp' hn').1
                    omega
                  · rw [if_neg hc] at hb; rw [if_pos hc'] at hb'
                    have h1 := (newb b' _ p' hc'.1 hc'.2 hb' hp' hn').2.1
                    have h2 := (oldb b _ p hc hb hp hn).1
                    omega
                  · rw [if_neg hc] at hb; rw [if_neg hc'] at hb'
                    exact hm.excl b c b' x p p' hb hb' hne (oldb b _ p hc hb hp hn).2 (oldb b' _ p' hc' hb' hp' hn').2 hn hn'
              have hExt : Ext ρ m1 w ρ2 (fun b => if s.m.length ≤ b ∧ b < s'.m.length then mget s'.m b else m1 b) w' := by
                refine ⟨hsub0, hw.ext.size, hw.ext.os, hw.ext.output, hw.ext.tape, fun k hk _ => keep k hk, fun k hk => ?_⟩
                obtain ⟨b, c, p, h1, h2, h3, h4⟩ := hk
                replace h1 : (if s.m.length ≤ b ∧ b < s'.m.length then mget s'.m b else m1 b) = some (true, c) := h1
                by_cases hc : s.m.length ≤ b ∧ b < s'.m.length
                · rw [if_pos hc] at h1
                  left
                  rw [← h4]
                  exact (newb b _ p hc.1 hc.2 h1 h2 h3).2.1
                · rw [if_neg hc] at h1
                  right
                  exact ⟨b, c, p, h1, (oldb b _ p hc h1 h2 h3).2, h3, h4⟩
              have fin : a'.defers = [] ∧ ∃ v, (results fn a'.tmps).run E.P w' = .ok v w' ∧ ∃ ρ'' : Ren, (∀ b, ¬ (s.m.length ≤ b ∧ b < (s.m ++ s'.m.drop s.nx).length) → ρ'' b = ρ b) ∧ VR ρ'' (ret1 vs) v ∧
                  RM ρ'' (merge m1 [] s { s with m := s.m ++ s'.m.drop s.nx }) w' ∧ Ext ρ m1 w ρ'' (merge m1 [] s { s with m := s.m ++ s'.m.drop s.nx }) w' := by
                refine ⟨hw.rs.defers, _, run_results k1, ρ2, fun b hb' => ?_, (VR_ret1 k2).mono hsub, by rw [hM]; exact hRM, by rw [hM]; exact hExt⟩
                rw [hll] at hb'
                exact if_neg hb'
              rcases he with rfl | rfl <;> exact fin
            · cases hk2
          · cases h
        · cases h
      · cases h
    · cases h

end Go.Ev
