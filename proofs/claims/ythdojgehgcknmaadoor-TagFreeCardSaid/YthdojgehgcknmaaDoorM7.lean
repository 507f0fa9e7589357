/-
  Loops: a rule with a count.
-/
import Derived.Test.YthdojgehgcknmaaDoorM6
namespace Go.Ev

theorem wp_loop_n {P : Program} {c : Code} {Q : Exit → Act → World → Prop} (I : Nat → Act → World → Prop)
    (round : ∀ n a w, I n a w → c.wp P (Exit.then (fun a' w' => ∃ m, m < n ∧ I m a' w') Q) a w) {n : Nat} {a : Act} {w : World} (h₀ : I n a w) : (Code.loop c).wp P Q a w := by
  intro b k cs
  have key : ∀ n a w, I n a w → ∃ e a' w', Q e a' w' ∧ Arrives P (lone (b.at a (.code c :: .inLoop c :: k)) cs w) b k cs e a' w' := by
    intro n
    induction n using Nat.strongRecOn with
    | _ n ih =>
      intro a w hI
      obtain ⟨e, a₁, w₁, hq, harr⟩ := round n a w hI b (.inLoop c :: k) cs
      cases e with
      | normal =>
        obtain ⟨m, hlt, hI₁⟩ := hq
        obtain ⟨e₂, a₂, w₂, hq₂, harr₂⟩ := ih m hlt a₁ w₁ hI₁
        exact ⟨e₂, a₂, w₂, hq₂, .of_steps (Steps.trans harr (.one step_inLoop)) harr₂⟩
      | exit id => exact ⟨_, a₁, w₁, hq, .pass (x := .inLoop c) rfl (fun _ _ => .inl (by simp)) harr⟩
      | goto l => exact ⟨_, a₁, w₁, hq, .pass (x := .inLoop c) rfl (fun _ _ => .inl (by simp)) harr⟩
      | ret => exact ⟨_, a₁, w₁, hq, .pass (x := .inLoop c) rfl (fun _ _ => .inl (by simp)) harr⟩
      | panic ch => exact ⟨_, a₁, w₁, hq, .pass (x := .inLoop c) rfl (fun _ _ => .inl (by simp)) harr⟩
      | outgrown => exact ⟨_, a₁, w₁, hq, .pass (x := .inLoop c) rfl (fun _ _ => .inl (by simp)) harr⟩
  obtain ⟨e, a', w', hq, harr⟩ := key n a w h₀
  exact ⟨e, a', w', hq, .of_steps (.one step_loop) harr⟩

end Go.Ev

/-
  Results.
-/
namespace Go.Ev

variable {E : Env}

def resultOf (tmps : Array Value) : ResultVar → Sem Value
  | .tmp t => pure (tmps.getD t undef)
  | .cell a t => do loadVar t (← asAddr (tmps.getD a undef))

theorem retK_ok {R : Type} {s : St} : ∀ (l : List ResultVar) (K : List V → Option R) (r : R), retK E s l K = some r →
    ∃ vs, K vs = some r ∧ ∀ (ρ : Ren) (a : Act) (w : World), RS E ρ s a w → ∃ xs, (l.mapM (resultOf a.tmps)).run E.P w = .ok xs w ∧ VRL ρ vs xs
  | [], K, r, h => ⟨[], h, fun ρ a w _ => ⟨[], rfl, rfl⟩⟩
  | .tmp t :: l, K, r, h => by
    obtain ⟨vs, h1, h2⟩ := retK_ok l _ r h
    refine ⟨_, h1, fun ρ a w hs => ?_⟩
    obtain ⟨xs, k1, k2⟩ := h2 ρ a w hs
    refine ⟨a.tmps.getD t undef :: xs, ?_, _, _, rfl, hs.t t, k2⟩
    rw [List.mapM_cons, Sem.run_bind]
    simp only [resultOf, Sem.run_pure, Result.andThen_ok]
    rw [Sem.run_bind, k1]
    rfl
  | .cell c t :: l, K, r, h => by
    obtain ⟨v, rd, h1, h2⟩ := eLoad_ok h
    obtain ⟨vs, h3, h4⟩ := retK_ok l _ r h1
    refine ⟨_, h3, fun ρ a w hs => ?_⟩
    obtain ⟨xs, k1, k2⟩ := h4 ρ a w hs
    obtain ⟨z, z1, z2⟩ := h2 ρ (mget s.m) _ w (hs.t c) hs.m (fun _ _ => rfl)
    refine ⟨z :: xs, ?_, _, _, rfl, z2, k2⟩
    have e : (resultOf a.tmps (.cell c t)).run E.P w = .ok z w := by
      unfold Instr.loadAt at z1
      simp only [resultOf]
      cases hx : a.tmps.getD c undef with
      | pointer p =>
        rw [hx] at z1
        cases p with
        | some ad => exact z1
        | none => simp [Instr.sureAddr, stuck] at z1
      | _ => rw [hx] at z1; simp [Instr.sureAddr, stuck] at z1
    rw [List.mapM_cons, Sem.run_bind, e]
    simp only [Result.andThen_ok]
    rw [Sem.run_bind, k1]
    rfl

theorem run_results {fn : Func} {tmps : Array Value} {xs : List Value} {w : World} (h : (fn.results.toList.mapM (resultOf tmps)).run E.P w = .ok xs w) :
    (results fn tmps).run E.P w = .ok (if h : xs.length = 1 then xs[0] else .tuple xs.toArray) w := by
  have e : results fn tmps = (do
      let vs ← fn.results.mapM (resultOf tmps)
      pure (if h : vs.size = 1 then vs[0] else .tuple vs)) := by
    unfold results
    congr 1
  rw [e, Array.mapM_eq_mapM_toList, Sem.run_bind]
  simp only [Sem.run_map, h, Result.andThen_ok, Sem.run_pure]
  rfl

theorem VR_ret1 {ρ : Ren} {vs : List V} {xs : List Value} (h : VRL ρ vs xs) : VR ρ (ret1 vs) (if h : xs.length = 1 then xs[0] else .tuple xs.toArray) := by
  have hl := VRL_length vs xs h
  cases vs with
  | nil =>
    simp only [VRL] at h
    subst h
    exact ⟨[], rfl, rfl⟩
  | cons v r =>
    simp only [VRL] at h
    obtain ⟨x, ys, rfl, h1, h2⟩ := h
    cases r with
    | nil =>
      simp only [VRL] at h2
      subst h2
      exact h1
    | cons u r =>
      simp only [VRL] at h2
      obtain ⟨y, zs, rfl, h3, h4⟩ := h2
      rw [dif_neg (by simp)]
      exact ⟨_, rfl, x, _, rfl, h1, y, zs, rfl, h3, h4⟩

end Go.Ev

/-
  Calls.
-/
namespace Go.Ev

variable {E : Env}

theorem tget_append (l r : List V) (j : Nat) : tget (l ++ r) j = if j < l.length then tget l j else tget r (j - l.length) := by
  induction l generalizing j with
  | nil => simp
  | cons y l ih =>
    cases j with
    | zero => simp [tget]
    | succ j =>
      simp only [List.cons_append, tget, ih j, List.length_cons, Nat.add_lt_add_iff_right]
      rw [show j + 1 - (l.length + 1) = j - l.length by omega]

theorem VRL_tget {ρ : Ren} : ∀ (vs : List V) (xs : List Value) (i : Nat), VRL ρ vs xs → i < vs.length → ∃ x, xs[i]? = some x ∧ VR ρ (tget vs i) x
  | [], _, _, _, h => by simp at h
  | v :: vs, xs, i, h, hi => by
    simp only [VRL] at h
    obtain ⟨x, r, rfl, h1, h2⟩ := h
    cases i with
    | zero => exact ⟨x, rfl, h1⟩
    | succ i =>
      simp at hi
      exact VRL_tget vs r i h2 hi

theorem tget_replicate (n : Nat) (v : V) (j : Nat) : tget (List.replicate n v) j = v ∨ tget (List.replicate n v) j = .dead := by
  induction n generalizing j with
  | zero => exact .inr rfl
  | succ n ih => cases j with
    | zero => exact .inl rfl
    | succ j => exact ih j

/-- A frame as it is entered. -/
theorem RS.enter {ρ : Ren} {m : List (Option (Bool × V))} {w : World} {args : List V} {avs : List Value} {n : Nat} (hv : VRL ρ args avs) (hm : RM ρ (mget m) w) (hnm : ∀ b, m.length ≤ b → ρ b = none) (hg : GOK E ρ) :
    RS E ρ ⟨frame0 n args, m⟩ { tmps := avs.toArray ++ Array.replicate (n - avs.toArray.size) undef, defers := [] } w where
  defers := rfl
  size := by
    have := VRL_length _ _ hv
    simp [frame0]
    omega
  t := fun i => by
    have hl := VRL_length _ _ hv
    show VR ρ (tget (args ++ List.replicate (n - args.length) (.tuple [])) i) _
    rw [tget_append]
    split
    · rename_i hi
      obtain ⟨x, hx, h⟩ := VRL_tget args avs i hv hi
      have : (avs.toArray ++ Array.replicate (n - avs.toArray.size) undef).getD i undef = x := by
        rw [Array.getD_eq_getD_getElem?, Array.getElem?_append_left (by simp; omega)]
        simp [hx]
      rw [this]
      exact h
    · rename_i hi
      have : (avs.toArray ++ Array.replicate (n - avs.toArray.size) undef).getD i undef = undef := by
        rw [Array.getD_eq_getD_getElem?, Array.getElem?_append_right (by simp; omega)]
        rw [Array.getElem?_replicate]
        split <;> rfl
      rw [this]
      rcases tget_replicate (n - args.length) (.tuple []) (i - args.length) with e | e
      · rw [e]; exact ⟨[], rfl, rfl⟩
      · rw [e]; trivial
  m := hm
  names := hnm
  g := hg

/-- What is asked of code, at its run. -/
def BodyOK (E : Env) {R : Type} (body : List Nat → Code → St → (Exit → St → Option R) → Option R) : Prop :=
  ∀ cx c s K r, body cx c s K = some r → ∃ e s', K e s' = some r ∧ s.m.length ≤ s'.m.length ∧ ∀ (Q : Exit → Act → World → Prop) (ρ : Ren) (a : Act) (w : World), True → RS E ρ s a w →
    (∀ ρ' a' w', Went E (asg c) ρ s a w ρ' s' a' w' → Q e a' w') → c.wp E.P Q a w

/-- A contract that holds. -/
def SigOK (E : Env) (f : FuncId) (g : Sig) : Prop := ∀ (R : Type) (args : List V) (s : St) (K : V → List V → List (Nat × V) → Option R) (r : R), g R args s.m K = some r →
  ∃ v cs us, K v cs us = some r ∧ ∀ full, CallOK E full f args s v { s with m := updM us s.m ++ cs.map fun c => some (true, c) } (V.namesL args ++ List.range E.gn) (us.map (·.1))

theorem evCall_seq (hsig : ∀ f g, E.sig f = some g → SigOK E f g) {R : Type} {body : List Nat → Code → St → (Exit → St → Option R) → Option R} (hb : BodyOK E body)
    {cx : List Nat} {f : FuncId} {args : List V} {s : St} {K : V → St → List Nat → List Nat → Option R} {r : R} (h : evCall E false body cx f args s K = some r) :
    ∃ x s' rd wr, K x s' rd wr = some r ∧ CallOK E true f args s x s' rd wr := by
  unfold evCall at h
  split at h
  · rename_i g hg
    obtain ⟨v, cs, us, hk, hc⟩ := hsig f g hg R args s _ r h
    exact ⟨_, _, _, _, hk, hc true⟩
  · split at h
    · rename_i fn hf
      split at h
      · rename_i c hcb
        split at h
        · rename_i hn
          rw [force_eq] at h
          simp only at h
          obtain ⟨e, s', hk, hlen, hrun⟩ := hb _ _ _ _ _ h
          have he : (e = .normal ∨ e = .ret) ∧ retK E s' fn.results.toList (fun l => K (ret1 l) { s with m := s'.m } (List.range s.nx) (List.range s.nx)) = some r := by
            cases e <;> first | exact ⟨.inl rfl, hk⟩ | exact ⟨.inr rfl, hk⟩ | cases hk
          obtain ⟨vs, hK, hret⟩ := retK_ok _ _ _ he.2
          have hmerge : ∀ (m1 : Mem), (∀ b, b ∈ List.range s.m.length → m1 b = mget s.m b) → (∀ b, s.m.length ≤ b → m1 b = none) → m1 = mget s.m := by
            intro m1 h1 h2
            funext b
            by_cases hb : b < s.m.length
            · exact h1 b (List.mem_range.2 hb)
            · rw [h2 b (by omega), mget_ge (by omega)]
          refine ⟨_, _, _, _, hK, ⟨hlen, rfl, fun b hb hlt => (hb (List.mem_range.2 hlt)).elim, fun b hb => List.mem_range.1 hb, ⟨fn, c, hf, hcb⟩, ?_⟩⟩
          intro w ρ m1 avs hv hm hg hr hfr hfull
          have hnone : ∀ b, s.m.length ≤ b → m1 b = none := fun b hb' => by
            cases hx : m1 b with
            | none => rfl
            | some x =>
              obtain ⟨p, hp, _⟩ := hm.held b x.1 x.2 hx
              rw [hfull rfl b hb'] at hp
              cases hp
          have hm1 := hmerge m1 (fun b hb' => hr b (.inl hb')) hnone
          subst hm1
          have hrs := RS.enter (n := fn.ntmps) hv hm (hfull rfl) hg
          refine calls_of_wp hf hcb (hrun _ ρ _ w trivial hrs fun ρ' a' w' hw => ?_)
          obtain ⟨xs, k1, k2⟩ := hret ρ' a' w' hw.rs
          have hmm : merge (mget s.m) (List.range s.m.length) s { s with m := s'.m } = mget s'.m := merge_full (s' := { s with m := s'.m }) fun b hb hlt => (hb (List.mem_range.2 hlt)).elim
          have fin : a'.defers = [] ∧ ∃ v, (results fn a'.tmps).run E.P w' = .ok v w' ∧ ∃ ρ'' : Ren, (∀ b, ¬ (s.m.length ≤ b ∧ b < s'.m.length) → ρ'' b = ρ b) ∧ VR ρ'' (ret1 vs) v ∧ RM ρ'' (merge (mget s.m) (List.range s.m.length) s { s with m := s'.m }) w' ∧
              Ext ρ (mget s.m) w ρ'' (merge (mget s.m) (List.range s.m.length) s { s with m := s'.m }) w' := by
            refine ⟨hw.rs.defers, _, run_results k1, ρ', fun b hb' => ?_, VR_ret1 k2, by rw [hmm]; exact hw.rs.m, by rw [hmm]; exact hw.ext⟩
            by_cases hlt : b < s.m.length
            · exact hw.agree b hlt
            · rw [hw.rs.names b (by omega), hfull rfl b (by omega)]
          rcases he.1 with rfl | rfl <;> exact fin
        · cases h
      · cases h
    · cases h

end Go.Ev
