/-
  Code: what the evaluator says of it is so.
-/
import Derived.Test.YthdojgehgcknmaaDoorM8
namespace Go.Ev

variable {E : Env}

/-- What is shown of code. -/
def Walks (E : Env) (n : Nat) : Prop := ∀ (R : Type) (bid : Nat) (cx : List Nat) (c : Code) (s : St) (K : Exit → St → Option R) (r : R), ev E n R bid cx c s K = some r →
  ∃ e s', K e s' = some r ∧ s.m.length ≤ s'.m.length ∧ ∀ (Q : Exit → Act → World → Prop) (ρ : Ren) (a : Act) (w : World), True → RS E ρ s a w →
    (∀ ρ' a' w', Went E (asg c) ρ s a w ρ' s' a' w' → Q e a' w') → c.wp E.P Q a w

theorem walk_seq {n : Nat} (h : Walks E n) {R : Type} {cx : List Nat} {x y : Code} {s : St} {K : Exit → St → Option R} {r : R}
    (hr : ev E n R 0 cx x s (fun e s' => match e with
        | .normal => ev E n R 0 cx y s' K
        | e => K e s') = some r) :
    ∃ e s', K e s' = some r ∧ s.m.length ≤ s'.m.length ∧ ∀ (Q : Exit → Act → World → Prop) (ρ : Ren) (a : Act) (w : World), True → RS E ρ s a w →
      (∀ ρ' a' w', Went E (asg (.seq x y)) ρ s a w ρ' s' a' w' → Q e a' w') → (Code.seq x y).wp E.P Q a w := by
  obtain ⟨e1, s1, h1, h2, h3⟩ := h R 0 cx x s _ r hr
  by_cases he : e1 = .normal
  · subst he
    obtain ⟨e2, s2, k1, k2, k3⟩ := h R 0 cx y s1 K r h1
    refine ⟨e2, s2, k1, Nat.le_trans h2 k2, fun Q ρ a w hlo hs hQ => wp_seq (h3 _ ρ a w hlo hs fun ρ1 a1 w1 hw => ?_)⟩
    exact k3 Q ρ1 a1 w1 hlo hw.rs fun ρ2 a2 w2 hw2 => hQ ρ2 a2 w2 (hw.trans hw2)
  · have h1' : K e1 s1 = some r := by cases e1 <;> first | exact (he rfl).elim | exact h1
    refine ⟨e1, s1, h1', h2, fun Q ρ a w hlo hs hQ => wp_seq (h3 _ ρ a w hlo hs fun ρ1 a1 w1 hw => ?_)⟩
    have := hQ ρ1 a1 w1 (hw.mono fun i hi => List.mem_append_left _ hi)
    cases e1 <;> first | exact (he rfl).elim | exact this

/-! ### What stands behind a loop or a joined cond -/

def Outs.at : (l : List (Exit × List It)) → Outs.T l → Option ((p : Exit × List It) × Its.T p.2)
  | [], _ => none
  | [(e, l)], x => some ⟨(e, l), x⟩
  | (e, l) :: o :: r, x => sel x (fun y => some ⟨(e, l), y⟩) (fun y => Outs.at (o :: r) y)

theorem use_at {R : Type} {s : St} {K : Exit → St → Option R} {r : R} : ∀ (l : List (Exit × List It)) (y : Outs.T l), Outs.use s K l y = some r → ∃ q, Outs.at l y = some q ∧ K q.1.1 (Its.put s q.1.2 q.2) = some r
  | [], _, h => by cases h
  | [(e, l)], x, h => by
    have h : force (Its.put s l x) (K e) = some r := h
    rw [force_eq] at h
    exact ⟨⟨(e, l), x⟩, rfl, h⟩
  | (e, l) :: o :: t, x, h => by
    cases x with
    | inl y =>
      have h : force (Its.put s l y) (K e) = some r := h
      rw [force_eq] at h
      exact ⟨⟨(e, l), y⟩, rfl, h⟩
    | inr y => exact use_at (o :: t) y h

theorem exEq_eq {a b : Exit} (h : exEq a b = true) : a = b := by
  cases a <;> cases b <;> simp [exEq] at h <;> first | rfl | rw [h]

theorem dec_at {e : Exit} {s : St} : ∀ (l : List (Exit × List It)) (y : Outs.T l), Outs.dec e s l = some y → ∃ q, Outs.at l y = some q ∧ e = q.1.1 ∧ Its.take s q.1.2 = some q.2 ∧ q.1 ∈ l
  | [], _, h => by cases h
  | [(e', l)], x, h => by
    have h : (if exEq e e' then Its.take s l else none) = some x := h
    split at h
    · rename_i he
      exact ⟨⟨(e', l), x⟩, rfl, exEq_eq he, h, by simp⟩
    · cases h
  | (e', l) :: o :: t, x, h => by
    have h : (if exEq e e' then (match Its.take s l with | some x => some (.inl x) | none => none) else (match Outs.dec e s (o :: t) with | some x => some (.inr x) | none => none)) = some x := h
    split at h
    · rename_i he
      split at h
      · rename_i z hz
        cases h
        exact ⟨⟨(e', l), z⟩, rfl, exEq_eq he, hz, by simp⟩
      · cases h
    · split at h
      · rename_i z hz
        cases h
        obtain ⟨q, h1, h2, h3, h4⟩ := dec_at (o :: t) z hz
        exact ⟨q, h1, h2, h3, List.mem_cons_of_mem _ h4⟩
      · cases h

theorem mlen_putM (s : St) (b : Nat) (x : Option (Bool × V)) : (putM s b x).m.length = s.m.length := by simp [putM]
theorem mlen_pcs : ∀ (l : List Pc) (x : Pcs.T l) (s : St), (Pcs.put s l x).m.length = s.m.length
  | [], _, _ => rfl
  | .v _ :: r, x, s => mlen_pcs r x.2 s
  | .own b c :: r, x, s => by
    show (Pcs.put (putM s b _) r x.2).m.length = _
    rw [mlen_pcs r x.2, mlen_putM]
  | .k _ :: r, x, s => mlen_pcs r x.2 s
theorem mlen_put : ∀ (l : List It) (x : Its.T l) (s : St), (Its.put s l x).m.length = s.m.length
  | [], _, _ => rfl
  | i :: r, x, s => by
    show (Its.put (i.put s x.1) r x.2).m.length = _
    rw [mlen_put r x.2]
    cases i with
    | slot i c => rfl
    | own i b c => exact mlen_putM _ _ _
    | blk b c => exact mlen_putM _ _ _
    | blkS b l =>
      show (putM (Pcs.put s l x.1) b _).m.length = _
      rw [mlen_putM]
      exact mlen_pcs l _ s
    | blkO b n c =>
      show (putM (putM s n _) b _).m.length = _
      rw [mlen_putM, mlen_putM]

/-- Behind a piece of code that was joined. -/
theorem join_end {s sB s' : St} {c : Code} {T : List Nat} {fresh : Nat} {ρ ρ' : Ren} {a a' : Act} {w w' : World} (hs : RS E ρ s a w) (hg : Ground s (asg c) T fresh sB) (hsrc : RS E ρ' s' a' w') (hsi : Since ρ s w T ρ' (mget s'.m) w')
    (hsl : ∀ i, i ∉ asg c → a'.tmps.getD i undef = a.tmps.getD i undef) (hsz : a'.tmps.size = a.tmps.size) {l : List It} {y : Its.T l} (hok : Its.ok s.nx fresh l = true) (hy : Its.take s' l = some y) :
    ∃ ρ2, Went E (asg c) ρ s a w ρ2 (Its.put sB l y) a' w' := by
  obtain ⟨ρ2, h1, h2, h3, h4, h5⟩ := put_end hs hg hsrc hsi hsl hsz hok hy
  exact ⟨ρ2, h1, h2, h3, by rw [h4]; omega, h5, hsl⟩

/-! ### The state that a joined piece of code starts in -/

theorem mget_lockBut (T : List Nat) (s : St) (b : Nat) : mget (lockBut T s).m b = if T.contains b then mget s.m b else lockX (mget s.m b) := by
  show mget (lockButAt T 0 s.m) b = _
  rw [mget_lockButAt, Nat.zero_add]

theorem less_lockBut (T : List Nat) (n : Nat) (s : St) : Less s (addM n (lockBut T s)) where
  t := fun i => .inl rfl
  tl := rfl
  m := fun b x hb => by
    rw [mget_addM, mget_lockBut] at hb
    split at hb
    · exact ⟨x.1, hb, fun h => h⟩
    · cases hm : mget s.m b with
      | none => rw [hm] at hb; cases hb
      | some z => rw [hm] at hb; cases hb; exact ⟨z.1, rfl, fun h => by cases h⟩
  ml := by
    show _ ≤ (lockButAt T 0 s.m ++ List.replicate n none).length
    rw [List.length_append, length_lockButAt]
    omega

theorem since_lockBut {T : List Nat} {n : Nat} {s : St} {ρ : Ren} {w : World} : Since ρ s w T ρ (mget (addM n (lockBut T s)).m) w where
  size := Nat.le_refl _
  os := rfl
  output := rfl
  tape := rfl
  keep := fun _ _ _ => rfl
  own := fun k hk => by
    obtain ⟨b, c, p, h1, h2, h3, h4⟩ := hk
    rw [mget_addM, mget_lockBut] at h1
    split at h1
    · rename_i hc
      exact .inr ⟨b, by simpa using hc, c, p, h1, h2, h3, h4⟩
    · cases hm : mget s.m b with
      | none => rw [hm] at h1; cases h1
      | some z => rw [hm] at h1; cases h1
  agree := fun _ _ => rfl

theorem ownOf_lockBut {T : List Nat} {s : St} {c : Cd} {v : V} (h : ∀ b ∈ v.names, b ∈ T) : ownOf (lockBut T s).m c v = ownOf s.m c v := by
  have e : ∀ b, b ∈ v.names → mget (lockBut T s).m b = mget s.m b := fun b hb => by
    rw [mget_lockBut, if_pos (by simpa using h b hb)]
  unfold ownOf
  split
  · rfl
  · rw [e _ (by simp [V.names])]
  · rw [e _ (by simp [V.names])]
  · rfl

theorem pcs_lockBut {T : List Nat} {s : St} : ∀ (l : List Pc) (vs : List V), (∀ b ∈ Pcs.gives l vs, b ∈ T) → Pcs.dec (lockBut T s).m l vs = Pcs.dec s.m l vs
  | [], [], _ => rfl
  | [], _ :: _, _ => rfl
  | .v _ :: r, [], _ => rfl
  | .own _ _ :: r, [], _ => rfl
  | .k _ :: r, [], _ => rfl
  | .v c :: r, v :: vs, h => by
    simp only [Pcs.dec]
    rw [pcs_lockBut r vs h]
  | .own b c :: r, v :: vs, h => by
    have h : ∀ b ∈ v.names ++ Pcs.gives r vs, b ∈ T := h
    simp only [Pcs.dec]
    rw [pcs_lockBut r vs (fun b hb => h b (List.mem_append_right _ hb)), ownOf_lockBut fun b hb => h b (List.mem_append_left _ hb)]
  | .k u :: r, v :: vs, h => by
    simp only [Pcs.dec]
    rw [pcs_lockBut r vs h]

theorem it_lockBut {T : List Nat} {s : St} (i : It) (hg : ∀ b ∈ i.gives s, b ∈ T) (hb : ∀ b ∈ i.blks, b ∈ T) : i.dec (lockBut T s) = i.dec s ∧ i.gives (lockBut T s) = i.gives s := by
  have e : ∀ b, b ∈ T → mget (lockBut T s).m b = mget s.m b := fun b hb => by
    rw [mget_lockBut, if_pos (by simpa using hb)]
  cases i with
  | slot i c => exact ⟨rfl, rfl⟩
  | own i b c => exact ⟨ownOf_lockBut hg, rfl⟩
  | blk b c =>
    refine ⟨?_, rfl⟩
    show (match mget (lockBut T s).m b with | some (true, v) => c.dec v | _ => none) = _
    rw [e b (hb b (by simp [It.blks]))]
    rfl
  | blkS b l =>
    have hb' := e b (hb b (by simp [It.blks]))
    refine ⟨?_, ?_⟩
    · show (match mget (lockBut T s).m b with | some (true, .agg vs) => Pcs.dec (lockBut T s).m l vs | _ => none) = (match mget s.m b with | some (true, .agg vs) => Pcs.dec s.m l vs | _ => none)
      rw [hb']
      split
      · rename_i vs hvs
        refine pcs_lockBut l vs fun b' hb'' => hg b' ?_
        show b' ∈ (match mget s.m b with | some (_, .agg vs) => Pcs.gives l vs | _ => [])
        rw [hvs]
        exact hb''
      · rfl
    · show (match mget (lockBut T s).m b with | some (_, .agg vs) => Pcs.gives l vs | _ => []) = (match mget s.m b with | some (_, .agg vs) => Pcs.gives l vs | _ => [])
      rw [hb']
  | blkO b n c =>
    have hb' := e b (hb b (by simp [It.blks]))
    refine ⟨?_, ?_⟩
    · show (match mget (lockBut T s).m b with | some (true, v) => ownOf (lockBut T s).m c v | _ => none) = (match mget s.m b with | some (true, v) => ownOf s.m c v | _ => none)
      rw [hb']
      split
      · rename_i v hv
        refine ownOf_lockBut fun b' hb'' => hg b' ?_
        show b' ∈ (match mget s.m b with | some (_, v) => v.names | _ => [])
        rw [hv]
        exact hb''
      · rfl
    · show (match mget (lockBut T s).m b with | some (_, v) => v.names | _ => []) = (match mget s.m b with | some (_, v) => v.names | _ => [])
      rw [hb']

theorem take_lockBut {T : List Nat} {s : St} {l : List It} (hg : ∀ b ∈ Its.gives s l, b ∈ T) (hb : ∀ b ∈ l.flatMap It.blks, b ∈ T) : Its.take (lockBut T s) l = Its.take s l := by
  have key : ∀ (l : List It), (∀ b ∈ Its.gives s l, b ∈ T) → (∀ b ∈ l.flatMap It.blks, b ∈ T) → Its.dec (lockBut T s) l = Its.dec s l ∧ Its.gives (lockBut T s) l = Its.gives s l := by
    intro l
    induction l with
    | nil => intro _ _; exact ⟨rfl, rfl⟩
    | cons i r ih =>
      intro hg hb
      have hg : ∀ b ∈ i.gives s ++ Its.gives s r, b ∈ T := hg
      have hb : ∀ b ∈ i.blks ++ r.flatMap It.blks, b ∈ T := hb
      obtain ⟨h1, h2⟩ := it_lockBut i (fun b h => hg b (List.mem_append_left _ h)) (fun b h => hb b (List.mem_append_left _ h))
      obtain ⟨h3, h4⟩ := ih (fun b h => hg b (List.mem_append_right _ h)) (fun b h => hb b (List.mem_append_right _ h))
      refine ⟨?_, ?_⟩
      · show (match i.dec (lockBut T s) with | some x => (match Its.dec (lockBut T s) r with | some y => some (x, y) | none => none) | none => none) = (match i.dec s with | some x => (match Its.dec s r with | some y => some (x, y) | none => none) | none => none)
        rw [h1, h3]
      · show i.gives (lockBut T s) ++ Its.gives (lockBut T s) r = i.gives s ++ Its.gives s r
        rw [h2, h4]
  obtain ⟨h1, h2⟩ := key l hg hb
  unfold Its.take
  rw [h1, h2]

theorem slots_only : ∀ (l : List It), l.all (fun | .slot _ _ => true | _ => false) = true → l.flatMap It.news = [] ∧ l.flatMap It.blks = [] ∧ l.flatMap It.kept = [] ∧ ∀ s, Its.gives s l = []
  | [], _ => ⟨rfl, rfl, rfl, fun _ => rfl⟩
  | i :: r, h => by
    simp only [List.all_cons, Bool.and_eq_true] at h
    obtain ⟨h1, h2, h3, h4⟩ := slots_only r h.2
    cases i with
    | slot i c => exact ⟨h1, h2, h3, h4⟩
    | _ => simp at h

theorem since_lock {s s' : St} {as : List Nat} {ρ ρ' : Ren} {a a' : Act} {w w' : World} (hw : Went E as ρ (lock s) a w ρ' s' a' w') : Since ρ s w [] ρ' (mget s'.m) w' := by
  have no : ∀ k, ¬ Mine ρ (mget (lock s).m) k := by
    rintro k ⟨b, c, p, h1, _⟩
    have e : mget (lock s).m b = lockX (mget s.m b) := mget_lockL s.m b
    rw [e] at h1
    cases hm : mget s.m b with
    | none => rw [hm] at h1; cases h1
    | some z => rw [hm] at h1; cases h1
  have hl : (lock s).m.length = s.m.length := length_lockL _
  exact ⟨hw.ext.size, hw.ext.os, hw.ext.output, hw.ext.tape, fun k hk _ => hw.ext.keep k hk (no k), fun k hk => (hw.ext.own k hk).imp id fun h => (no k h).elim, fun b hb => hw.agree b (by rw [hl]; exact hb)⟩

theorem less_lock (s : St) : Less s (lock s) where
  t := fun i => .inl rfl
  tl := rfl
  m := fun b x hb => by
    have e : mget (lock s).m b = lockX (mget s.m b) := mget_lockL s.m b
    rw [e] at hb
    cases hm : mget s.m b with
    | none => rw [hm] at hb; cases hb
    | some z => rw [hm] at hb; cases hb; exact ⟨z.1, rfl, fun h => by cases h⟩
  ml := by
    show _ ≤ (lockL s.m).length
    rw [length_lockL]
    exact Nat.le_refl _

theorem ground_slots (s : St) (c : Code) : Ground s (asg c) [] 0 (dropL (asg c) s) where
  t := fun i => by
    have e : (dropL (asg c) s).tv i = if (asg c).contains i then .dead else s.tv i := by
      show tget (dropAt (asg c) 0 s.t) i = _
      rw [tget_dropAt, Nat.zero_add]
    rw [e]
    split
    · exact .inl rfl
    · rename_i h
      exact .inr ⟨rfl, by simpa using h⟩
  tl := length_dropAt _ _ _
  m := fun b x hb => ⟨by simp, x.1, hb, fun h => h⟩
  ml := rfl

/-! ### Everything -/


theorem walk_loop {n : Nat} (h : Walks E n) {R : Type} {cx : List Nat} {body : Code} {s : St} {K : Exit → St → Option R} {r : R} {items : List It} {outs : List (Exit × List It)} {fresh : Nat} {k : Nat} {x0 : Its.T items}
    (hok : Its.ok s.nx fresh items = true) (houts : ∀ o ∈ outs, Its.ok s.nx fresh o.2 = true) (hx0 : Its.take s items = some x0) {y : Outs.T outs}
    (hy : iter k (fun x => ev E n (Its.T items ⊕ Outs.T outs) 0 cx body (Its.put (dropM (items.flatMap It.blks) (lock (baseSt s (.loop body) fresh items))) items x) fun e s' => match e with
            | .normal => match Its.take s' items with | some x' => some (.inl x') | none => none
            | e => match Outs.dec e s' outs with | some y => some (.inr y) | none => none) x0 = some y)
    (hr : Outs.use (dropM (items.flatMap It.blks) (baseSt s (.loop body) fresh items)) K outs y = some r) :
    ∃ e s', K e s' = some r ∧ s.m.length ≤ s'.m.length ∧ ∀ (Q : Exit → Act → World → Prop) (ρ : Ren) (a : Act) (w : World), True → RS E ρ s a w →
      (∀ ρ' a' w', Went E (asg (.loop body)) ρ s a w ρ' s' a' w' → Q e a' w') → (Code.loop body).wp E.P Q a w := by
  obtain ⟨q, hq, hK⟩ := use_at outs y hr
  obtain ⟨hgl, hlock⟩ := ground_lock s (.loop body) fresh items
  have hgb := ground_base s (.loop body) fresh items
  refine ⟨_, _, hK, by rw [mlen_put, hgb.ml]; omega, fun Q ρ a w hlo hs hQ => ?_⟩
  -- the beginning
  have hs1 : RS E ρ (addM 0 (lockBut (Its.gives s items ++ items.flatMap It.blks) s)) a w := hs.less (less_lockBut _ 0 s)
  have e0 : addM 0 (lockBut (Its.gives s items ++ items.flatMap It.blks) s) = lockBut (Its.gives s items ++ items.flatMap It.blks) s := by simp [addM]
  have hsi1 : Since ρ s w (Its.gives s items ++ items.flatMap It.blks) ρ (mget (addM 0 (lockBut (Its.gives s items ++ items.flatMap It.blks) s)).m) w := since_lockBut
  rw [e0] at hs1 hsi1
  have htk : Its.take (lockBut (Its.gives s items ++ items.flatMap It.blks) s) items = some x0 := by
    rw [take_lockBut (fun b hb => List.mem_append_left _ hb) (fun b hb => List.mem_append_right _ hb)]
    exact hx0
  obtain ⟨ρ1, i1, i2, i3, i4⟩ := put_again hs hgl hlock hs1 hsi1 (fun _ _ => rfl) rfl hok htk
  generalize hF : (fun x => ev E n (Its.T items ⊕ Outs.T outs) 0 cx body (Its.put (dropM (items.flatMap It.blks) (lock (baseSt s (.loop body) fresh items))) items x) fun e s' => match e with
            | .normal => match Its.take s' items with | some x' => some (.inl x') | none => none
            | e => match Outs.dec e s' outs with | some y => some (.inr y) | none => none) = F at hy
  refine wp_loop_n (fun m a' w' => ∃ x ρ', iter m F x = some y ∧ RS E ρ' (Its.put (dropM (items.flatMap It.blks) (lock (baseSt s (.loop body) fresh items))) items x) a' w' ∧
    Since ρ s w (Its.gives s items ++ items.flatMap It.blks) ρ' (mget (Its.put (dropM (items.flatMap It.blks) (lock (baseSt s (.loop body) fresh items))) items x).m) w' ∧
    (∀ i, i ∉ asg (.loop body) → a'.tmps.getD i undef = a.tmps.getD i undef) ∧ a'.tmps.size = a.tmps.size) (fun m a1 w1 hI => ?_) (n := k) ⟨x0, ρ1, hy, i1, i2, fun _ _ => rfl, rfl⟩
  obtain ⟨x, ρ', j1, j2, j3, j4, j5⟩ := hI
  cases m with
  | zero => simp [iter] at j1
  | succ m =>
    simp only [iter] at j1
    cases hz : F x with
    | none => rw [hz] at j1; cases j1
    | some z =>
      have hz' := hz
      rw [← hF] at hz'
      obtain ⟨e, s', k1, k2, k3⟩ := h _ 0 cx body _ _ z hz'
      refine k3 _ ρ' a1 w1 trivial j2 fun ρ2 a2 w2 hw => ?_
      have hsl : ∀ i, i ∉ asg (.loop body) → a2.tmps.getD i undef = a.tmps.getD i undef := fun i hi => by rw [hw.sl i hi, j4 i hi]
      have hsz : a2.tmps.size = a.tmps.size := by rw [hw.rs.size, hw.tl, ← j2.size, j5]
      have hml : s.m.length ≤ (Its.put (dropM (items.flatMap It.blks) (lock (baseSt s (.loop body) fresh items))) items x).m.length := by rw [mlen_put, hgl.ml]; omega
      have hsi := j3.step hw.ext hml hw.agree
      by_cases he : e = .normal
      · subst he
        simp only at k1
        split at k1
        · rename_i x' hx'
          cases k1
          rw [hz] at j1
          obtain ⟨ρ3, l1, l2, l3, l4⟩ := put_again hs hgl hlock hw.rs hsi hsl hsz hok hx'
          exact ⟨m, Nat.lt_succ_self _, x', ρ3, j1, l1, l2, hsl, hsz⟩
        · cases k1
      · have k1' : (match Outs.dec e s' outs with | some y => some (Sum.inr y : Its.T items ⊕ Outs.T outs) | none => none) = some z := by
          cases e <;> first | exact (he rfl).elim | exact k1
        split at k1'
        · rename_i y' hy'
          cases k1'
          rw [hz] at j1
          cases j1
          obtain ⟨q', h1, h2, h3, h4⟩ := dec_at outs y hy'
          rw [hq] at h1
          cases h1
          obtain ⟨ρ3, hwent⟩ := join_end hs hgb hw.rs hsi hsl hsz (houts q.1 h4) h3
          have := hQ ρ3 a2 w2 hwent
          rw [← h2] at this
          cases e <;> first | exact (he rfl).elim | exact this
        · cases k1'

theorem ev_ok (hE : EnvOK E) (hsig : ∀ f g, E.sig f = some g → SigOK E f g) : ∀ n, Walks E n := by
  intro n
  induction n with
  | zero => intro R bid cx c s K r h; cases h
  | succ n ih =>
    intro R bid cx c s K r h
    have hcT : ∀ (R : Type), CallsOK E true (fun cx' => evCall (R := R) E false (fun _ => ev E n R 0 cx')) := fun R cx' cx f args s K r h => evCall_seq hsig (fun _ c s K r h => ih R 0 cx' c s K r h) h
    have hcF : ∀ (R : Type), CallsOK E false (fun cx' => evCall (R := R) E true (fun _ => ev E n R 0 cx')) := fun R cx' cx f args s K r h => evCall_draw hE hsig (fun _ c s K r h => ih R 0 cx' c s K r h) h
    cases c with
    | skip => exact ⟨.normal, s, h, Nat.le_refl _, fun Q ρ a w _ hs hQ => wp_skip (hQ ρ a w (Went.refl hs))⟩
    | ret => exact ⟨.ret, s, h, Nat.le_refl _, fun Q ρ a w _ hs hQ => wp_ret (hQ ρ a w (Went.refl hs))⟩
    | exit i => exact ⟨.exit i, s, h, Nat.le_refl _, fun Q ρ a w _ hs hQ => wp_exit (hQ ρ a w (Went.refl hs))⟩
    | seq x y => exact walk_seq ih h
    | block i c =>
      have h : ev E n R i cx c s (fun e s' => match e with
        | .exit j => if j = i then K .normal s' else K (.exit j) s'
        | e => K e s') = some r := h
      obtain ⟨e, s', h1, h2, h3⟩ := ih R i cx c s _ r h
      by_cases he : e = .exit i
      · subst he
        simp only [if_true] at h1
        exact ⟨.normal, s', h1, h2, fun Q ρ a w hlo hs hQ => wp_block (h3 _ ρ a w hlo hs fun ρ' a' w' hw => by
          show (if i = i then Q .normal a' w' else Q (.exit i) a' w')
          rw [if_pos rfl]
          exact hQ ρ' a' w' hw)⟩
      · have h1' : K e s' = some r := by
          cases e with
          | exit j =>
            have hj : ¬ j = i := fun e => he (by rw [e])
            simp only [if_neg hj] at h1
            exact h1
          | _ => exact h1
        exact ⟨e, s', h1', h2, fun Q ρ a w hlo hs hQ => wp_block (h3 _ ρ a w hlo hs fun ρ' a' w' hw => by
          have := hQ ρ' a' w' hw
          cases e with
          | exit j =>
            have hj : ¬ j = i := fun e => he (by rw [e])
            show (if j = i then Q .normal a' w' else Q (.exit j) a' w')
            rw [if_neg hj]
            exact this
          | _ => exact this)⟩
    | cond x A B =>
      unfold ev at h
      simp only at h
      split at h
      · rename_i t ht
        have hev : ∀ (ρ : Ren) (a : Act) (w : World), RS E ρ s a w → a.eval x = .bool t := fun ρ a w hs => by
          have := eopd_ok hs x
          rw [ht] at this
          exact vr_bool this
        split at h
        · -- as it stands
          cases t with
          | true =>
            obtain ⟨e, s', h1, h2, h3⟩ := ih R 0 cx A s K r h
            exact ⟨e, s', h1, h2, fun Q ρ a w hlo hs hQ => wp_cond_true (hev ρ a w hs) (h3 Q ρ a w hlo hs fun ρ' a' w' hw => hQ ρ' a' w' (hw.mono fun i hi => List.mem_append_left _ hi))⟩
          | false =>
            obtain ⟨e, s', h1, h2, h3⟩ := ih R 0 cx B s K r h
            exact ⟨e, s', h1, h2, fun Q ρ a w hlo hs hQ => wp_cond_false (hev ρ a w hs) (h3 Q ρ a w hlo hs fun ρ' a' w' hw => hQ ρ' a' w' (hw.mono fun i hi => List.mem_append_right _ hi))⟩
        · -- joined
          rename_i An hAn
          split at h
          · rename_i hchk
            obtain ⟨hok, hall⟩ := hchk
            obtain ⟨y, hy, hr⟩ := obind_some h
            generalize hits : An.items.map (RIt.abs s) = items at hok hall y hy hr
            generalize houts : (An.outs.map fun o => (o.1, o.2.map (RIt.abs s))) = outs at hall y hy hr
            have hgb := ground_base s (.cond x A B) An.fresh items
            obtain ⟨q, hq, hK⟩ := use_at outs y hr
            refine ⟨_, _, hK, by rw [mlen_put, hgb.ml]; omega, fun Q ρ a w hlo hs hQ => ?_⟩
            have perm : ∀ b, (items.flatMap It.blks ++ Its.gives s items).contains b = (Its.gives s items ++ items.flatMap It.blks).contains b := fun b => by
              rw [Bool.eq_iff_iff]
              simp [or_comm]
            have hlk : lockBut (items.flatMap It.blks ++ Its.gives s items) s = lockBut (Its.gives s items ++ items.flatMap It.blks) s := by
              have : ∀ (m : List (Option (Bool × V))) (i : Nat), lockButAt (items.flatMap It.blks ++ Its.gives s items) i m = lockButAt (Its.gives s items ++ items.flatMap It.blks) i m := by
                intro m
                induction m with
                | nil => intro i; rfl
                | cons v m ih => intro i; simp only [lockButAt]; rw [ih, perm]
              unfold lockBut
              rw [this]
            rw [hlk] at hy
            have hs1 := hs.less (less_lockBut (Its.gives s items ++ items.flatMap It.blks) An.fresh s)
            have hsi1 : Since ρ s w (Its.gives s items ++ items.flatMap It.blks) ρ (mget (addM An.fresh (lockBut (Its.gives s items ++ items.flatMap It.blks) s)).m) w := since_lockBut
            have hml : s.m.length ≤ (addM An.fresh (lockBut (Its.gives s items ++ items.flatMap It.blks) s)).m.length := (less_lockBut _ _ s).ml
            have fin : ∀ (C : Code) (e : Exit) (s' : St), (∀ i ∈ asg C, i ∈ asg (.cond x A B)) → Outs.dec e s' outs = some y →
                (∀ (Q : Exit → Act → World → Prop) (ρ' : Ren) (a' : Act) (w' : World), True → RS E ρ' (addM An.fresh (lockBut (Its.gives s items ++ items.flatMap It.blks) s)) a' w' →
                  (∀ ρ2 a2 w2, Went E (asg C) ρ' (addM An.fresh (lockBut (Its.gives s items ++ items.flatMap It.blks) s)) a' w' ρ2 s' a2 w2 → Q e a2 w2) → C.wp E.P Q a' w') → C.wp E.P Q a w := by
              intro C e s' hC hd hrun
              refine hrun Q ρ a w hlo hs1 fun ρ2 a2 w2 hw => ?_
              obtain ⟨q', h1, h2, h3, h4⟩ := dec_at outs y hd
              rw [hq] at h1
              cases h1
              have hok2 : Its.ok s.nx An.fresh q.1.2 = true := by
                have := List.all_eq_true.1 hall q.1 h4
                simp only [Bool.and_eq_true] at this
                exact this.1
              obtain ⟨ρ3, hwent⟩ := join_end hs hgb hw.rs (hsi1.step hw.ext hml hw.agree) (fun i hi => hw.sl i fun e => hi (hC i e)) (by rw [hw.rs.size, hw.tl]; exact hs.size.symm) hok2 h3
              rw [h2]
              exact hQ ρ3 a2 w2 hwent
            cases t with
            | true =>
              obtain ⟨e, s', h1, h2, h3⟩ := ih _ 0 cx A _ _ y hy
              exact wp_cond_true (hev ρ a w hs) (fin A e s' (fun i hi => List.mem_append_left _ hi) h1 h3)
            | false =>
              obtain ⟨e, s', h1, h2, h3⟩ := ih _ 0 cx B _ _ y hy
              exact wp_cond_false (hev ρ a w hs) (fin B e s' (fun i hi => List.mem_append_right _ hi) h1 h3)
          · cases h
      · cases h
    | region id ops draw =>
      unfold ev at h
      simp only at h
      split at h
      · rename_i An hAn
        split at h
        · rename_i hall
          obtain ⟨y, hy, hr⟩ := obind_some h
          rw [force_eq] at hr
          generalize hits : An.items.map (RIt.abs s) = items at hall y hy hr
          obtain ⟨g1, g2, g3, g4⟩ := slots_only items hall
          have hok : Its.ok s.nx 0 items = true := by
            unfold Its.ok
            rw [g1, g2, g3]
            rfl
          have htk : ∀ s', Its.take s' items = Its.dec s' items := fun s' => by
            unfold Its.take
            rw [g4 s', g2]
            rfl
          have hl : (lock s).m.length = s.m.length := length_lockL _
          have fin : ∀ (s' : St), Its.dec s' items = some y → (∀ (Q : Exit → Act → World → Prop) (ρ : Ren) (a : Act) (w : World), True → RS E ρ (lock s) a w →
              (∀ ρ' a' w', Went E (asg (.region id ops draw)) ρ (lock s) a w ρ' s' a' w' → Q .normal a' w') → (Code.region id ops draw).wp E.P Q a w) →
              ∃ e s', K e s' = some r ∧ s.m.length ≤ s'.m.length ∧ ∀ (Q : Exit → Act → World → Prop) (ρ : Ren) (a : Act) (w : World), True → RS E ρ s a w →
                (∀ ρ' a' w', Went E (asg (.region id ops draw)) ρ s a w ρ' s' a' w' → Q e a' w') → (Code.region id ops draw).wp E.P Q a w := by
            intro s' hd hrun
            refine ⟨_, _, hr, by rw [mlen_put]; exact Nat.le_refl _, fun Q ρ a w hlo hs hQ => hrun Q ρ a w hlo (hs.less (less_lock s)) fun ρ' a' w' hw => ?_⟩
            obtain ⟨ρ3, hwent⟩ := join_end (c := .region id ops draw) hs (ground_slots s _) hw.rs (since_lock hw) (fun i hi => hw.sl i hi) (by rw [hw.rs.size, hw.tl]; exact hs.size.symm) hok ((htk s').trans hd)
            exact hQ ρ3 a' w' hwent
          cases draw with
          | false =>
            obtain ⟨s', tr', h1, hlen, h2⟩ := evOps_seq hE (hcT _) ops.toList 0 (lock s) [] _ y hy (fun i => by simp)
            refine fin s' h1 fun Q ρ a w hlo hs hQ => wp_region ?_
            have := h2 Q ρ a w hlo hs hQ
            rw [List.range_eq_range']
            simpa using this
          | true =>
            obtain ⟨s', h1, h2, h3⟩ := evOps_any hE (hcF _) hy (id := id)
            exact fin s' h1 h3
        · cases h
      · cases draw with
        | false =>
          obtain ⟨s', tr', h1, hlen, h2⟩ := evOps_seq hE (hcT _) ops.toList 0 s [] _ r h (fun i => by simp)
          have h1 : force s' (K .normal) = some r := h1
          rw [force_eq] at h1
          refine ⟨.normal, s', h1, hlen, fun Q ρ a w hlo hs hQ => wp_region ?_⟩
          · have := h2 Q ρ a w hlo hs hQ
            rw [List.range_eq_range']
            simpa using this
        | true =>
          obtain ⟨s', h1, h2, h3⟩ := evOps_any (K := fun s' => force s' (K .normal)) hE (hcF _) h (id := id)
          rw [force_eq] at h1
          exact ⟨.normal, s', h1, h2, h3⟩
    | loop body =>
      unfold ev at h
      simp only at h
      split at h
      · rename_i An hAn
        split at h
        · rename_i hchk
          obtain ⟨hok, hall⟩ := hchk
          split at h
          · rename_i x0 hx0
            obtain ⟨y, hy, hr⟩ := obind_some h
            refine walk_loop ih hok (fun o ho => ?_) hx0 hy hr
            have := List.all_eq_true.1 hall o ho
            simp only [Bool.and_eq_true] at this
            exact this.1
          · cases h
        · cases h
      · cases h
    | _ => cases h

end Go.Ev

/-
  A function's contract out of its run.
-/
namespace Go.Ev

variable {E : Env}

theorem mget_snoc (m : List (Option (Bool × V))) (x : Option (Bool × V)) (b : Nat) : mget (m ++ [x]) b = if b = m.length then x else mget m b := by
  by_cases h : b < m.length
  · rw [mget_append_left h, if_neg (by omega)]
  · by_cases e : b = m.length
    · subst e
      have := mget_append_right (m := m) (n := [x]) (b := 0)
      rw [if_pos rfl]
      simpa [mget] using this
    · rw [if_neg e, mget_ge (by simp; omega), mget_ge (by omega)]

/-- One more block, at the end. -/
theorem RM.snoc {ρ : Ren} {m : List (Option (Bool × V))} {w : World} (h : RM ρ (mget m) w) (hnone : ∀ b, m.length ≤ b → ρ b = none) (wr : Bool) (c : V) (p : Info) (hh : ∀ ρ2, Held ρ2 p wr c w)
    (hne : ∀ y z q, mget m y = some z → ρ y = some q → q.nil = false → p.nil = false → (wr = true ∨ z.1 = true) → q.blk ≠ p.blk) :
    RM (fun b => if b = m.length then some p else ρ b) (mget (m ++ [some (wr, c)])) w ∧ Sub ρ (fun b => if b = m.length then some p else ρ b) := by
  have hs : Sub ρ (fun b => if b = m.length then some p else ρ b) := fun y q hq => by
    have : y ≠ m.length := fun e => by rw [e, hnone _ (Nat.le_refl _)] at hq; cases hq
    simp [this, hq]
  refine ⟨⟨fun b wr' d hb => ?_, fun x d x' y q q' hx hx' hxx hq hq' hn hn' => ?_⟩, hs⟩
  · rw [mget_snoc] at hb
    by_cases e : b = m.length
    · rw [if_pos e] at hb
      cases hb
      exact ⟨p, by simp [e], hh _⟩
    · rw [if_neg e] at hb
      obtain ⟨q, hq, hd⟩ := h.held b wr' d hb
      exact ⟨q, hs b q hq, hd.same hs (Nat.le_refl _) fun _ => rfl⟩
  · rw [mget_snoc] at hx hx'
    by_cases e : x = m.length <;> by_cases e' : x' = m.length
    · exact (hxx (e.trans e'.symm)).elim
    · rw [if_pos e] at hx; rw [if_neg e'] at hx'
      simp only [if_pos e, Option.some.injEq] at hq
      simp only [if_neg e'] at hq'
      cases hx
      subst hq
      exact (hne x' y q' hx' hq' hn' hn (.inl rfl)).symm
    · rw [if_neg e] at hx; rw [if_pos e'] at hx'
      simp only [if_neg e] at hq
      simp only [if_pos e', Option.some.injEq] at hq'
      cases hx'
      subst hq'
      exact hne x _ q hx hq hn hn' (.inr rfl)
    · rw [if_neg e] at hx; rw [if_neg e'] at hx'
      simp only [if_neg e] at hq
      simp only [if_neg e'] at hq'
      exact h.excl x d x' y q q' hx hx' hxx hq hq' hn hn'

/-! ### Arguments -/

/-- Where the blocks of a function's beginning come from. -/
def Src1 (ρ : Ren) (m1 : Mem) (SM SR : List Nat) (ρa : Ren) (ma : List (Option (Bool × V))) : Prop :=
  ∀ y z q, mget ma y = some z → ρa y = some q → q.nil = false → ∃ c, (c ∈ SM ∨ c ∈ SR) ∧ (z.1 = true → c ∈ SM) ∧ ∃ x0 p0, m1 c = some x0 ∧ ρ c = some p0 ∧ p0.nil = false ∧ p0.blk = q.blk

/-- The changed blocks' names, within and without. -/
def Pairs (ρ ρ' : Ren) (m : List (Option (Bool × V))) : List Nat → List Nat → Prop
  | [], [] => True
  | n :: ns, c :: cs => (∃ p, ρ c = some p ∧ ρ' n = some p) ∧ (∃ c0, mget m c = some (true, c0)) ∧ Pairs ρ ρ' m ns cs
  | _, _ => False

theorem Pairs.mono {ρ ρ1 ρ2 : Ren} {m : List (Option (Bool × V))} (hs : Sub ρ1 ρ2) : ∀ (ns cs : List Nat), Pairs ρ ρ1 m ns cs → Pairs ρ ρ2 m ns cs
  | [], [], _ => trivial
  | [], _ :: _, h => h.elim
  | _ :: _, [], h => h.elim
  | _ :: ns, _ :: cs, ⟨⟨p, h1, h2⟩, h3, h4⟩ => ⟨⟨p, h1, hs _ _ h2⟩, h3, Pairs.mono hs ns cs h4⟩

/-- What an argument's check asks. -/
def Acs.Pre : List Ac → List V → Prop
  | .sl _ :: r, v :: vs => (∀ b off len, v = .sl b off len → off = 0 ∨ 0 < len) ∧ Acs.Pre r vs
  | _ :: r, _ :: vs => Acs.Pre r vs
  | _, _ => True

theorem acs_chk {R : Type} {K : Option R} {r : R} : ∀ (l : List Ac) (vs : List V), Acs.chk l vs K = some r → Acs.Pre l vs ∧ K = some r
  | [], _, h => ⟨trivial, h⟩
  | .v _ :: l, [], h => ⟨trivial, h⟩
  | .sl _ :: l, [], h => ⟨trivial, h⟩
  | .ref _ :: l, [], h => ⟨trivial, h⟩
  | .ptr _ :: l, [], h => ⟨trivial, h⟩
  | .v _ :: l, v :: vs, h => acs_chk l vs h
  | .ref _ :: l, v :: vs, h => acs_chk l vs h
  | .ptr _ :: l, v :: vs, h => acs_chk l vs h
  | .sl c :: l, v :: vs, h => by
    unfold Acs.chk at h
    split at h
    · obtain ⟨h1, h2⟩ := acs_chk l vs h
      exact ⟨⟨fun b off len e => by cases e; exact .inl rfl, h1⟩, h2⟩
    · obtain ⟨hb, h⟩ := chk_some h
      obtain ⟨h1, h2⟩ := acs_chk l vs h
      exact ⟨⟨fun b off len e => by cases e; exact .inr (by simpa using hb), h1⟩, h2⟩
    · rename_i hns
      obtain ⟨h1, h2⟩ := acs_chk l vs h
      refine ⟨⟨fun b off len e => ?_, h1⟩, h2⟩
      exact (hns _ _ _ e).elim

/-- A slice that is read, under a name of its own. -/
theorem slice_arg {ρ : Ren} {m : List (Option (Bool × V))} {m1 : Mem} {w : World} {c : Cd} {v u : V} {x : c.T} {xv : Value} (h : rowArg m c.zero v = some u) (hd : c.dec u = some x) (hpre : ∀ b off len, v = .sl b off len → off = 0 ∨ 0 < len)
    (hv : VR ρ v xv) (hm : RM ρ m1 w) (hr : ∀ b ∈ v.names, m1 b = mget m b) :
    ∃ p : Info, (∀ (ρ2 : Ren) n, ρ2 n = some p → VR ρ2 (.own n) xv) ∧ (∀ ρ2, Held ρ2 p false (c.enc x) w) ∧
      (p.nil = false → ∃ b ∈ v.names, ∃ x0 p0, m1 b = some x0 ∧ ρ b = some p0 ∧ p0.nil = false ∧ p0.blk = p.blk) := by
  have e := dec_enc c u x hd
  subst e
  have hfit : fits c.zero (c.enc x) = true := by
    cases c <;> first | (simp [fits, Cd.enc, Cd.zero]; done) | skip
    all_goals
      exfalso
      unfold rowArg at h
      cases v <;> simp only [rowOf, zeroRow, Cd.zero, Cd.enc, reduceCtorEq] at h <;> first | (split at h <;> (try split at h) <;> simp at h; done) | (cases h; done)
  unfold rowArg at h
  split at h
  · cases h
  · rename_i hstr
    cases v with
    | nilsl =>
      obtain rfl : xv = .slice none 0 0 := by simpa [VR, wrapR, Cells] using hv
      refine ⟨{ nil := true, blk := 0, base := 0, psz := 0, cn := 0, n := 0, es := c.zero.size }, fun ρ2 n hn => ⟨_, hn, .inl ⟨rfl, rfl⟩⟩, fun ρ2 => ?_, by simp⟩
      have h1 : Cells ρ2 (c.enc x) [] ∧ rowLen (c.enc x) = 0 := by
        simp only [rowOf] at h
        cases c <;> first | (simp [zeroRow, Cd.zero] at h; done) | skip
        · rename_i k
          have h : V.row k [] = V.row k x := Option.some.inj h
          injection h with _ h2
          rw [show x = [] from h2.symm]
          exact ⟨⟨rfl, by simp⟩, rfl⟩
        · rename_i k n
          have h : V.rows k n [] = V.rows k n x := Option.some.inj h
          injection h with _ _ h2
          rw [show x = [] from h2.symm]
          exact ⟨⟨rfl, by simp, by simp⟩, rfl⟩
        · have h : V.brow [] = V.brow x := Option.some.inj h
          injection h with h2
          rw [show x = [] from h2.symm]
          exact ⟨rfl, rfl⟩
        · have h : V.srow [] = V.srow x := Option.some.inj h
          injection h with h2
          rw [show x = [] from h2.symm]
          exact ⟨⟨[], rfl, rfl, by simp⟩, rfl⟩
      exact ⟨⟨[], h1.1, rfl, by simp⟩, ((fits_size hfit h1.1).2 _).2 ⟨h1.2.symm, rfl⟩, fun _ => ⟨rfl, rfl⟩, by simp⟩
    | own b =>
      obtain ⟨wr, c0, hb, hc⟩ := rowOf_own h
      have hb : mget m b = some (wr, c0) := hb
      obtain ⟨p, hp, hx⟩ := vr_own hv
      have hb1 := (hr b (by simp [V.names])).trans hb
      obtain ⟨q, hq, ⟨cs, h1, h2, h3⟩, h4, h5, h6⟩ := hm.held b wr c0 hb1
      rw [hp] at hq; cases hq
      obtain ⟨k1, k2⟩ := rowC_ok hc h1 h4
      have hes := fits_es (off := 0) (len := 0) hfit (.inl hc) h4
      refine ⟨p, fun ρ2 n hn => ⟨p, hn, ?_⟩, fun ρ2 => ⟨⟨cs, Cells_enc k1, h2, h3⟩, ((fits_size hfit k1).2 _).2 ⟨k2.symm, hes⟩, h5, fun hn => ⟨(h6 hn).1, fun hw => by cases hw⟩⟩, fun hn => ⟨b, by simp [V.names], _, p, hb1, hp, hn, rfl⟩⟩
      rcases hx with ⟨h1, h2⟩ | ⟨h1, cap, h2, h3, h4⟩
      · exact .inl ⟨h1, by rw [h2]⟩
      · exact .inr ⟨h1, cap, h2, h3, by rw [h4]⟩
    | sl b off len =>
      obtain ⟨wr, c0, hb, hc⟩ := rowOf_sl h
      have hb : mget m b = some (wr, c0) := hb
      obtain ⟨p, hp, o0, l0, hle, hx⟩ := vr_sl hv
      have hb1 := (hr b (by simp [V.names])).trans hb
      obtain ⟨q, hq, ⟨cs, f1, f2, f3⟩, f4, f5, f6⟩ := hm.held b wr c0 hb1
      rw [hp] at hq; cases hq
      obtain ⟨k1, k2⟩ := rowP_ok hc f1 f4 f2 o0 l0 hle
      obtain ⟨a', ha'⟩ := rowC_of_rowP hc
      have hcn := EOK_cn ha' f1 f4
      have hes := fits_es hfit (.inr hc) f4
      have hmul : off.toNat * p.es + len.toNat * p.es ≤ p.n * p.es := by rw [← Nat.add_mul]; exact Nat.mul_le_mul_right _ (by omega)
      have hlen : (cut cs (off.toNat * p.es) (len.toNat * p.es)).length = len.toNat * p.es := cut_length _ _ _ (by omega)
      refine ⟨{ p with base := p.base + off.toNat * p.es, n := len.toNat, cn := len.toNat * p.es }, fun ρ2 m hm2 => ⟨_, hm2, ?_⟩, fun ρ2 => ?_, fun hn => ⟨b, by simp [V.names], _, p, hb1, hp, hn, rfl⟩⟩
      · rcases hx with ⟨h1, h2⟩ | ⟨h1, cap, ad, h2, h3, h4, h5⟩
        · exact .inl ⟨h1, by rw [h2]⟩
        · have had := h5 (by
            rcases hpre b off len rfl with h | h
            · exact .inr h
            · exact .inl (by omega))
          refine .inr ⟨h1, cap - off.toNat, by simp only; omega, ?_, by rw [h4, had]⟩
          simp only
          have : off.toNat * p.es + (cap - off.toNat) * p.es = cap * p.es := by rw [← Nat.add_mul]; congr 1; omega
          omega
      · refine ⟨⟨cut cs (off.toNat * p.es) (len.toNat * p.es), Cells_enc k1, hlen, fun hn j v hj => ?_⟩, ((fits_size hfit k1).2 _).2 ⟨k2.symm, by simp only; exact hes⟩, fun hn => ?_, fun hn => ⟨⟨(f6 hn).1.1, ?_⟩, fun hw => by cases hw⟩⟩
        · have hj' : cs[off.toNat * p.es + j]? = some v := by
            simp only [cut] at hj
            rw [List.getElem?_take] at hj
            split at hj
            · rw [List.getElem?_drop] at hj; exact hj
            · cases hj
          have := f3 hn _ v hj'
          simp only
          rw [Nat.add_assoc]
          exact this
        · have h5 := (f5 hn).2
          have : len.toNat = 0 := by omega
          simp only [this, Nat.zero_mul, and_self]
        · have := (f6 hn).1.2
          simp only
          omega
    | dead | bool _ | int _ _ | str _ | nilptr | ptr _ _ _ _ _ | rptr _ _ _ _ | nilfn | fn _ _ _ | niliface | iface _ _ | ints _ _ _ | bools _ _ | agg _ | tuple _ | row _ _ | rows _ _ _ | brow _ | srow _ =>
      first | exact (hstr _ rfl).elim | (simp [rowOf] at h; done)

theorem ref_arg {ρ : Ren} {m1 : Mem} {w : World} {c : Cd} {b : Nat} {wr : Bool} {u : V} {x : c.T} {xv : Value} (hd : c.dec u = some x) (hv : VR ρ (.ptr b 0 c.size 0 c.size) xv) (hm : RM ρ m1 w) (hb : m1 b = some (wr, u)) :
    ∃ p : Info, ρ b = some p ∧ p.nil = false ∧ (∀ (ρ2 : Ren) n, ρ2 n = some p → VR ρ2 (.ptr n 0 c.size 0 c.size) xv) ∧ ∀ ρ2, Held ρ2 p wr (c.enc x) w := by
  have e := dec_enc c u x hd
  subst e
  have hv : Cells ρ (.ptr b 0 c.size 0 c.size) [xv] := hv
  simp only [Cells] at hv
  obtain ⟨p, h1, h2, h3⟩ := hv
  obtain ⟨q, hq, ⟨cs, f1, f2⟩, f3⟩ := hm.held b wr _ hb
  rw [h1] at hq; cases hq
  refine ⟨p, h1, h2, fun ρ2 n hn => ?_, fun ρ2 => ⟨⟨cs, Cells_enc f1, f2⟩, f3⟩⟩
  show Cells ρ2 (.ptr n 0 c.size 0 c.size) [xv]
  simp only [Cells]
  exact ⟨p, hn, h2, h3⟩

theorem dec_v_inv {m : List (Option (Bool × V))} {c : Cd} {l : List Ac} {v : V} {vs : List V} {x : c.T × Acs.T l} (h : Acs.dec m (.v c :: l) (v :: vs) = some x) : c.dec v = some x.1 ∧ Acs.dec m l vs = some x.2 := by
  replace h : (match c.dec v with
    | some x => match Acs.dec m l vs with | some y => some (x, y) | none => none
    | none => none) = some x := h
  split at h
  · split at h
    · cases h; exact ⟨by assumption, by assumption⟩
    · cases h
  · cases h
theorem dec_sl_inv {m : List (Option (Bool × V))} {c : Cd} {l : List Ac} {v : V} {vs : List V} {x : c.T × Acs.T l} (h : Acs.dec m (.sl c :: l) (v :: vs) = some x) : ∃ u, rowArg m c.zero v = some u ∧ c.dec u = some x.1 ∧ Acs.dec m l vs = some x.2 := by
  replace h : (match rowArg m c.zero v with
    | some u => match c.dec u with
      | some x => match Acs.dec m l vs with | some y => some (x, y) | none => none
      | none => none
    | none => none) = some x := h
  split at h
  · split at h
    · split at h
      · cases h; exact ⟨_, by assumption, by assumption, by assumption⟩
      · cases h
    · cases h
  · cases h
theorem dec_ref_inv {m : List (Option (Bool × V))} {c : Cd} {l : List Ac} {v : V} {vs : List V} {x : c.T × Acs.T l} (h : Acs.dec m (.ref c :: l) (v :: vs) = some x) : ∃ b wr u, v = .ptr b 0 c.size 0 c.size ∧ mget m b = some (wr, u) ∧ c.dec u = some x.1 ∧ Acs.dec m l vs = some x.2 := by
  replace h : (match (generalizing := false) v with
    | .ptr b 0 ext (.ofNat 0) sz => if sz = c.size ∧ ext = c.size then match mget m b with
      | some (_, u) => match c.dec u with
        | some x => match Acs.dec m l vs with | some y => some (x, y) | none => none
        | none => none
      | none => none
      else none
    | _ => none) = some x := h
  split at h
  · split at h
    · rename_i hsz
      obtain ⟨rfl, rfl⟩ := hsz
      split at h
      · split at h
        · split at h
          · cases h; exact ⟨_, _, _, rfl, by assumption, by assumption, by assumption⟩
          · cases h
        · cases h
      · cases h
    · cases h
  · cases h
theorem dec_ptr_inv {m : List (Option (Bool × V))} {c : Cd} {l : List Ac} {v : V} {vs : List V} {x : c.T × Acs.T l} (h : Acs.dec m (.ptr c :: l) (v :: vs) = some x) : ∃ b u, v = .ptr b 0 c.size 0 c.size ∧ mget m b = some (true, u) ∧ c.dec u = some x.1 ∧ Acs.dec m l vs = some x.2 := by
  replace h : (match (generalizing := false) v with
    | .ptr b 0 ext (.ofNat 0) sz => if sz = c.size ∧ ext = c.size then match mget m b with
      | some (true, u) => match c.dec u with
        | some x => match Acs.dec m l vs with | some y => some (x, y) | none => none
        | none => none
      | _ => none
      else none
    | _ => none) = some x := h
  split at h
  · split at h
    · rename_i hsz
      obtain ⟨rfl, rfl⟩ := hsz
      split at h
      · split at h
        · split at h
          · cases h; exact ⟨_, _, rfl, by assumption, by assumption, by assumption⟩
          · cases h
        · cases h
      · cases h
    · cases h
  · cases h
theorem rdec_v_inv {m : List (Option (Bool × V))} {c : Cd} {r : List Rc} {v : V} {vs : List V} {x : c.T × Rcs.T r} (h : Rcs.dec m (.v c :: r) (v :: vs) = some x) : c.dec v = some x.1 ∧ Rcs.dec m r vs = some x.2 := by
  simp only [Rcs.dec, Rc.dec] at h
  split at h
  · split at h
    · cases h; exact ⟨by assumption, by assumption⟩
    · cases h
  · cases h
theorem rdec_own_inv {m : List (Option (Bool × V))} {c : Cd} {r : List Rc} {v : V} {vs : List V} {x : c.T × Rcs.T r} (h : Rcs.dec m (.own c :: r) (v :: vs) = some x) : ownOf m c v = some x.1 ∧ Rcs.dec m r vs = some x.2 := by
  simp only [Rcs.dec, Rc.dec] at h
  split at h
  · split at h
    · cases h; exact ⟨by assumption, by assumption⟩
    · cases h
  · cases h

theorem Src1.snoc {ρ : Ren} {m1 : Mem} {SM SR SM' SR' : List Nat} {ρa : Ren} {ma : List (Option (Bool × V))} (h : Src1 ρ m1 SM SR ρa ma) (hm : ∀ c ∈ SM, c ∈ SM') (hr : ∀ c ∈ SR, c ∈ SR') {wr : Bool} {c : V} {p : Info}
    (hp : p.nil = false → ∃ c, (c ∈ SM' ∨ c ∈ SR') ∧ (wr = true → c ∈ SM') ∧ ∃ x0 p0, m1 c = some x0 ∧ ρ c = some p0 ∧ p0.nil = false ∧ p0.blk = p.blk) :
    Src1 ρ m1 SM' SR' (fun b => if b = ma.length then some p else ρa b) (ma ++ [some (wr, c)]) := by
  intro y z q hy hq hn
  rw [mget_snoc] at hy
  by_cases e : y = ma.length
  · rw [if_pos e] at hy
    simp only [if_pos e, Option.some.injEq] at hq
    cases hy
    subst hq
    exact hp hn
  · rw [if_neg e] at hy
    simp only [if_neg e] at hq
    obtain ⟨c, h1, h2, h3⟩ := h y z q hy hq hn
    exact ⟨c, h1.imp (hm c) (hr c), fun hz => hm c (h2 hz), h3⟩

theorem args_enter {ρ : Ren} {m : List (Option (Bool × V))} {m1 : Mem} {w : World} (hm : RM ρ m1 w) : ∀ (l : List Ac) (args : List V) (avs : List Value) (x : Acs.T l) (SM SR : List Nat) (ρa : Ren) (ma : List (Option (Bool × V))),
    Acs.dec m l args = some x → Acs.Pre l args → VRL ρ args avs → (∀ b ∈ V.namesL args, m1 b = mget m b) →
    RM ρa (mget ma) w → (∀ b, ma.length ≤ b → ρa b = none) → nodup (Acs.muts l args) = true → (∀ b ∈ Acs.muts l args, b ∉ SM) → (∀ b ∈ SM, b ∉ Acs.refs l args) → (∀ b ∈ Acs.muts l args, b ∉ SR) →
    (∀ b ∈ Acs.muts l args, b ∉ Acs.refs l args) → Src1 ρ m1 SM SR ρa ma → (∀ b ∈ SM, b ∉ SR) → (∀ c ∈ SM, ∃ c0, m1 c = some (true, c0)) →
    ∃ ρb, RM ρb (mget (ma ++ Acs.blks l x)) w ∧ Sub ρa ρb ∧ (∀ b, b < ma.length → ρb b = ρa b) ∧ (∀ b, (ma ++ Acs.blks l x).length ≤ b → ρb b = none) ∧ VRL ρb (Acs.vals ma.length l x) avs ∧
      Src1 ρ m1 (SM ++ Acs.muts l args) (SR ++ Acs.refs l args) ρb (ma ++ Acs.blks l x) ∧ Pairs ρ ρb m (Acs.mutN ma.length l) (Acs.muts l args) := by
  -- one block more
  have step : ∀ {SM SR SM' SR' : List Nat} {ρa : Ren} {ma : List (Option (Bool × V))} {wr : Bool} {c : V} {p : Info}, RM ρa (mget ma) w → (∀ b, ma.length ≤ b → ρa b = none) → Src1 ρ m1 SM SR ρa ma → (∀ c ∈ SM, c ∈ SM') → (∀ c ∈ SR, c ∈ SR') →
      (∀ c ∈ SM, ∃ c0, m1 c = some (true, c0)) → (∀ ρ2, Held ρ2 p wr c w) →
      (p.nil = false → ∃ c, ((c ∈ SM' ∧ wr = true ∧ c ∉ SM ∧ c ∉ SR ∧ ∃ c0, m1 c = some (true, c0)) ∨ (c ∈ SR' ∧ wr = false ∧ c ∉ SM)) ∧ ∃ x0 p0, m1 c = some x0 ∧ ρ c = some p0 ∧ p0.nil = false ∧ p0.blk = p.blk) →
      RM (fun b => if b = ma.length then some p else ρa b) (mget (ma ++ [some (wr, c)])) w ∧ Sub ρa (fun b => if b = ma.length then some p else ρa b) ∧
        (∀ b, (ma ++ [some (wr, c)]).length ≤ b → (fun b => if b = ma.length then some p else ρa b) b = none) ∧ Src1 ρ m1 SM' SR' (fun b => if b = ma.length then some p else ρa b) (ma ++ [some (wr, c)]) := by
    intro SM SR SM' SR' ρa ma wr c p h1 h2 h3 hsm hsr h4 h5 h6
    have hs := h1.snoc h2 wr c p h5 fun y z q hy hq hqn hpn hf => by
      obtain ⟨c', k1, k2, x0, p0, k3, k4, k5, k6⟩ := h3 y z q hy hq hqn
      obtain ⟨d, hd, y0, q0, l3, l4, l5, l6⟩ := h6 hpn
      rw [← k6, ← l6]
      rcases hd with ⟨d1, d2, d3, d4, d0, d5⟩ | ⟨d1, d2, d3⟩
      · have hne : d ≠ c' := fun e => by
          rcases k1 with k1 | k1
          · exact d3 (e ▸ k1)
          · exact d4 (e ▸ k1)
        exact (hm.excl d d0 c' x0 q0 p0 d5 k3 hne l4 k4 l5 k5).symm
      · have hz : z.1 = true := hf.resolve_left (by simp [d2])
        obtain ⟨c0, hc0⟩ := h4 c' (k2 hz)
        have hne : c' ≠ d := fun e => d3 (e ▸ k2 hz)
        exact hm.excl c' c0 d y0 p0 q0 hc0 l3 hne k4 l4 k5 l5
    refine ⟨hs.1, hs.2, fun b hb => ?_, h3.snoc hsm hsr fun hpn => ?_⟩
    · simp at hb
      have : ¬ b = ma.length := by omega
      simp only [this, if_false]
      exact h2 b (by omega)
    · obtain ⟨d, hd, y0, q0, l3⟩ := h6 hpn
      rcases hd with ⟨d1, d2, _⟩ | ⟨d1, d2, _⟩
      · exact ⟨d, .inl d1, fun _ => d1, y0, q0, l3⟩
      · exact ⟨d, .inr d1, (fun e => by rw [d2] at e; cases e), y0, q0, l3⟩
  intro l
  induction l with
  | nil =>
    intro args avs x SM SR ρa ma hd _ hv _ ha hna _ _ _ _ _ hsrc _ _
    cases args with
    | nil =>
      simp only [VRL] at hv
      subst hv
      refine ⟨ρa, by simpa [Acs.blks] using ha, Sub.refl _, fun _ _ => rfl, by simpa [Acs.blks] using hna, rfl, by simpa [Acs.blks, Acs.muts, Acs.refs] using hsrc, trivial⟩
    | cons v vs => exact none_some hd
  | cons a l ih =>
    intro args avs x SM SR ρa ma hd hpre hv hr ha hna hnd h1 h2 h3 h4 hsrc h5 h6
    cases args with
    | nil => cases a <;> exact none_some hd
    | cons v vs =>
      simp only [VRL] at hv
      obtain ⟨xv, rest, rfl, hv1, hv2⟩ := hv
      have hr1 : ∀ b ∈ v.names, m1 b = mget m b := fun b hb => hr b (by simp [V.namesL, hb])
      have hr2 : ∀ b ∈ V.namesL vs, m1 b = mget m b := fun b hb => hr b (by simp [V.namesL, hb])
      cases a with
      | v c =>
        obtain ⟨x1, y⟩ := x
        obtain ⟨hx1, hy⟩ := dec_v_inv hd
        obtain ⟨ρb, k1, k2, k3, k4, k5, k6, k7⟩ := ih vs rest y SM SR ρa ma hy hpre hv2 hr2 ha hna hnd h1 h2 h3 h4 hsrc h5 h6
        refine ⟨ρb, k1, k2, k3, k4, ⟨xv, rest, rfl, ?_, k5⟩, k6, k7⟩
        have e := dec_enc c v x1 hx1
        rw [e] at hv1
        exact VR_enc hv1
      | sl c =>
        obtain ⟨x1, y⟩ := x
        obtain ⟨u, hu, hx1, hy⟩ := dec_sl_inv hd
        have hpre : (∀ b off len, v = .sl b off len → off = 0 ∨ 0 < len) ∧ Acs.Pre l vs := hpre
        have h2 : ∀ b ∈ SM, b ∉ v.names ++ Acs.refs l vs := h2
        have h4 : ∀ b ∈ Acs.muts l vs, b ∉ v.names ++ Acs.refs l vs := h4
        have h3 : ∀ b ∈ Acs.muts l vs, b ∉ SR := h3
        simp only [List.mem_append, not_or] at h2 h4
        obtain ⟨p, g1, g2, g3⟩ := slice_arg hu hx1 hpre.1 hv1 hm hr1
        obtain ⟨s1, s2, s3, s4⟩ := step (SM' := SM) (SR' := SR ++ v.names) ha hna hsrc (fun _ h => h) (fun c h => List.mem_append_left _ h) h6 g2 (fun hn => by
          obtain ⟨b, hb, r⟩ := g3 hn
          exact ⟨b, .inr ⟨List.mem_append_right _ hb, rfl, fun e => (h2 b e).1 hb⟩, r⟩)
        obtain ⟨ρb, k1, k2, k3, k4, k5, k6, k7⟩ := ih vs rest y SM (SR ++ v.names) _ _ hy hpre.2 hv2 hr2 s1 s3 hnd h1 (fun b hb => (h2 b hb).2) (fun b hb => by
          simp only [List.mem_append, not_or]
          exact ⟨h3 b hb, (h4 b hb).1⟩) (fun b hb => (h4 b hb).2) s4 (fun b hb => by
          simp only [List.mem_append, not_or]
          exact ⟨h5 b hb, (h2 b hb).1⟩) h6
        have hl : (ma ++ [some (false, c.enc x1)]).length = ma.length + 1 := by simp
        have he : ma ++ Acs.blks (.sl c :: l) (x1, y) = ma ++ [some (false, c.enc x1)] ++ Acs.blks l y := by simp [Acs.blks]
        rw [hl] at k3 k5 k7
        refine ⟨ρb, by rw [he]; exact k1, s2.trans k2, fun b hb => ?_, by rw [he]; exact k4, ⟨xv, rest, rfl, g1 ρb ma.length ?_, k5⟩, ?_, k7⟩
        · rw [k3 b (by omega)]
          simp [show ¬ b = ma.length by omega]
        · rw [k3 _ (by omega)]
          simp
        · rw [he]
          have : SR ++ Acs.refs (.sl c :: l) (v :: vs) = SR ++ v.names ++ Acs.refs l vs := by simp [Acs.refs]
          rw [this]
          exact k6
      | ref c =>
        obtain ⟨x1, y⟩ := x
        obtain ⟨b, wr, u, rfl, hb, hx1, hy⟩ := dec_ref_inv hd
        have hpre : Acs.Pre l vs := hpre
        have h2 : ∀ b' ∈ SM, b' ∉ (V.ptr b 0 c.size 0 c.size).names ++ Acs.refs l vs := h2
        have h4 : ∀ b' ∈ Acs.muts l vs, b' ∉ (V.ptr b 0 c.size 0 c.size).names ++ Acs.refs l vs := h4
        have h3 : ∀ b ∈ Acs.muts l vs, b ∉ SR := h3
        simp only [List.mem_append, not_or] at h2 h4
        obtain ⟨p, g1, g2, g3, g4⟩ := ref_arg hx1 hv1 hm ((hr1 b (by simp [V.names])).trans hb)
        obtain ⟨s1, s2, s3, s4⟩ := step (SM' := SM) (SR' := SR ++ [b]) (wr := false) (c := c.enc x1) (p := p) ha hna hsrc (fun _ h => h) (fun c h => List.mem_append_left _ h) h6 (fun ρ2 => by
          cases wr with
          | true => exact (g4 ρ2).lock
          | false => exact g4 ρ2) (fun hn => ⟨b, .inr ⟨List.mem_append_right _ (by simp), rfl, fun e => (h2 b e).1 (by simp [V.names])⟩, _, p, (hr1 b (by simp [V.names])).trans hb, g1, hn, rfl⟩)
        obtain ⟨ρb, k1, k2, k3, k4, k5, k6, k7⟩ := ih vs rest y SM (SR ++ [b]) _ _ hy hpre hv2 hr2 s1 s3 hnd h1 (fun b hb => (h2 b hb).2) (fun b' hb' => by
          simp only [List.mem_append, not_or]
          exact ⟨h3 b' hb', (h4 b' hb').1⟩) (fun b hb => (h4 b hb).2) s4 (fun b' hb' => by
          simp only [List.mem_append, not_or]
          exact ⟨h5 b' hb', (h2 b' hb').1⟩) h6
        have hl : (ma ++ [some (false, c.enc x1)]).length = ma.length + 1 := by simp
        have he : ma ++ Acs.blks (.ref c :: l) (x1, y) = ma ++ [some (false, c.enc x1)] ++ Acs.blks l y := by simp [Acs.blks]
        rw [hl] at k3 k5 k7
        refine ⟨ρb, by rw [he]; exact k1, s2.trans k2, fun b hb => ?_, by rw [he]; exact k4, ⟨xv, rest, rfl, g3 ρb ma.length ?_, k5⟩, ?_, k7⟩
        · rw [k3 b (by omega)]
          simp [show ¬ b = ma.length by omega]
        · rw [k3 _ (by omega)]
          simp
        · rw [he]
          have : SR ++ Acs.refs (.ref c :: l) (V.ptr b 0 c.size 0 c.size :: vs) = SR ++ [b] ++ Acs.refs l vs := by simp [Acs.refs, V.names]
          rw [this]
          exact k6
      | ptr c =>
        obtain ⟨x1, y⟩ := x
        obtain ⟨b, u, rfl, hb, hx1, hy⟩ := dec_ptr_inv hd
        have hpre : Acs.Pre l vs := hpre
        have hnd : nodup (b :: Acs.muts l vs) = true := hnd
        obtain ⟨nd1, nd2⟩ := nodup_cons hnd
        have h1 : ∀ b' ∈ b :: Acs.muts l vs, b' ∉ SM := h1
        have h2 : ∀ b' ∈ SM, b' ∉ Acs.refs l vs := h2
        have h4 : ∀ b' ∈ b :: Acs.muts l vs, b' ∉ Acs.refs l vs := h4
        have h3 : ∀ b' ∈ b :: Acs.muts l vs, b' ∉ SR := h3
        have hb1 := (hr1 b (by simp [V.names])).trans hb
        obtain ⟨p, g1, g2, g3, g4⟩ := ref_arg hx1 hv1 hm hb1
        obtain ⟨s1, s2, s3, s4⟩ := step (SM' := SM ++ [b]) (SR' := SR) (wr := true) (c := c.enc x1) (p := p) ha hna hsrc (fun c h => List.mem_append_left _ h) (fun _ h => h) h6 g4
          (fun hn => ⟨b, .inl ⟨List.mem_append_right _ (by simp), rfl, h1 b (by simp), h3 b (by simp), u, hb1⟩, _, p, hb1, g1, hn, rfl⟩)
        obtain ⟨ρb, k1, k2, k3, k4, k5, k6, k7⟩ := ih vs rest y (SM ++ [b]) SR _ _ hy hpre hv2 hr2 s1 s3 nd2 (fun b' hb' => by
          simp only [List.mem_append, List.mem_singleton, not_or]
          exact ⟨h1 b' (by simp [hb']), fun e => nd1 (e ▸ hb')⟩) (fun b' hb' => by
          rcases List.mem_append.1 hb' with h | h
          · exact h2 b' h
          · simp at h; subst h; exact h4 b' (by simp)) (fun b' hb' => h3 b' (by simp [hb'])) (fun b' hb' => h4 b' (by simp [hb'])) s4 (fun b' hb' => by
          rcases List.mem_append.1 hb' with h | h
          · exact h5 b' h
          · simp at h; subst h; exact h3 b' (by simp)) (fun c hc => by
          rcases List.mem_append.1 hc with h | h
          · exact h6 c h
          · simp at h; subst h; exact ⟨u, hb1⟩)
        have hl : (ma ++ [some (true, c.enc x1)]).length = ma.length + 1 := by simp
        have he : ma ++ Acs.blks (.ptr c :: l) (x1, y) = ma ++ [some (true, c.enc x1)] ++ Acs.blks l y := by simp [Acs.blks]
        rw [hl] at k3 k5 k7
        have hbn : ρb ma.length = some p := by
          rw [k3 _ (by omega)]
          simp
        refine ⟨ρb, by rw [he]; exact k1, s2.trans k2, fun b hb => ?_, by rw [he]; exact k4, ⟨xv, rest, rfl, g3 ρb ma.length hbn, k5⟩, ?_, ?_⟩
        · rw [k3 b (by omega)]
          simp [show ¬ b = ma.length by omega]
        · rw [he]
          have : SM ++ Acs.muts (.ptr c :: l) (V.ptr b 0 c.size 0 c.size :: vs) = SM ++ [b] ++ Acs.muts l vs := by simp [Acs.muts, V.names]
          rw [this]
          exact k6
        · show Pairs ρ ρb m (ma.length :: Acs.mutN (ma.length + 1) l) (b :: Acs.muts l vs)
          exact ⟨⟨p, g1, hbn⟩, ⟨u, hb⟩, k7⟩

/-! ### Results -/

def newF : Nat → List V → Mem → Mem
  | _, [], m => m
  | n, c :: cs, m => newF (n + 1) cs (fun x => if x = n then some (true, c) else m x)
def updF : List (Nat × V) → Mem → Mem
  | [], m => m
  | (b, c) :: r, m => updF r (fun x => if x = b then some (true, c) else m x)

theorem newF_spec : ∀ (cs : List V) (n : Nat) (m : Mem) (b : Nat), newF n cs m b = if n ≤ b ∧ b < n + cs.length then (cs[b - n]?).map fun c => (true, c) else m b
  | [], n, m, b => by simp [newF]; omega
  | c :: cs, n, m, b => by
    rw [newF, newF_spec cs (n + 1)]
    by_cases e : b = n
    · subst e
      rw [if_neg (by omega), if_pos rfl, if_pos (by simp)]
      simp
    · by_cases h : n + 1 ≤ b ∧ b < n + 1 + cs.length
      · rw [if_pos h, if_pos (by simp; omega)]
        rw [show b - n = (b - (n + 1)) + 1 by omega]
        simp
      · rw [if_neg h, if_neg e, if_neg]
        simp
        omega

theorem rets_ok {ρ' : Ren} {s' : St} {w' : World} (hsrc : RM ρ' (mget s'.m) w') : ∀ (r : List Rc) (vs : List V) (xs : List Value) (y : Rcs.T r) (ρB : Ren) (M : Mem) (n : Nat), Rcs.dec s'.m r vs = some y → VRL ρ' vs xs → RM ρB M w' →
    (∀ b, n ≤ b → b < n + (Rcs.blks r y).length → ρB b = none ∧ M b = none) → nodup (Rcs.gives r vs) = true → Off ρB M (From ρ' (mget s'.m) (Rcs.gives r vs)) →
    ∃ ρ2, RM ρ2 (newF n (Rcs.blks r y) M) w' ∧ Sub ρB ρ2 ∧ (∀ b, ¬ (n ≤ b ∧ b < n + (Rcs.blks r y).length) → ρ2 b = ρB b) ∧ VRL ρ2 (Rcs.vals n r y) xs ∧ ∀ k, Mine ρ2 (newF n (Rcs.blks r y) M) k → Mine ρB M k ∨ From ρ' (mget s'.m) (Rcs.gives r vs) k
  | [], vs, xs, y, ρB, M, n, hd, hv, hB, _, _, _ => by
    cases vs with
    | nil => exact ⟨ρB, hB, Sub.refl _, fun _ _ => rfl, hv, fun k h => .inl h⟩
    | cons v vs => exact none_some hd
  | c :: r, [], xs, y, ρB, M, n, hd, hv, hB, _, _, _ => by cases c <;> exact none_some hd
  | .v c :: r, v :: vs, xs, y, ρB, M, n, hd, hv, hB, hnew, hnd, hoff => by
    simp only [VRL] at hv
    obtain ⟨xv, rest, rfl, hv1, hv2⟩ := hv
    obtain ⟨x1, y2⟩ := y
    obtain ⟨hx1, hy⟩ := rdec_v_inv hd
    obtain ⟨ρ2, k1, k2, k3, k4, k5⟩ := rets_ok hsrc r vs rest y2 ρB M n hy hv2 hB hnew hnd hoff
    refine ⟨ρ2, k1, k2, k3, ⟨xv, rest, rfl, ?_, k4⟩, k5⟩
    have e := dec_enc c v x1 hx1
    rw [e] at hv1
    exact VR_enc hv1
  | .own c :: r, v :: vs, xs, y, ρB, M, n, hd, hv, hB, hnew, hnd, hoff => by
    simp only [VRL] at hv
    obtain ⟨xv, rest, rfl, hv1, hv2⟩ := hv
    obtain ⟨x1, y2⟩ := y
    obtain ⟨hx1, hy⟩ := rdec_own_inv hd
    have hnd : nodup (v.names ++ Rcs.gives r vs) = true := hnd
    obtain ⟨nd1, nd2, nd3⟩ := nodup_append _ _ hnd
    have hoff : Off ρB M (From ρ' (mget s'.m) (v.names ++ Rcs.gives r vs)) := hoff
    obtain ⟨p, h1, h2, h3⟩ := own_ok hx1 hv1 hsrc
    have hnew : ∀ b, n ≤ b → b < n + (c.enc x1 :: Rcs.blks r y2).length → ρB b = none ∧ M b = none := hnew
    have hn := hnew n (Nat.le_refl _) (by simp)
    have hs : Sub ρB (fun y => if y = n then some p else ρB y) := fun y q hq => by
      have : y ≠ n := fun e => by rw [e, hn.1] at hq; cases hq
      simp [this, hq]
    have hfrom : p.nil = false → From ρ' (mget s'.m) v.names p.blk := fun hpn => h3 hpn
    have hB1 := hB.insert hs n (c.enc x1) p (by simp) (h2 _) fun y z q hy _ hq hqn hpn e => hoff y z q hy hq hqn (by
      rw [e]
      exact (hfrom hpn).mono fun b hb => List.mem_append_left _ hb)
    obtain ⟨ρ2, k1, k2, k3, k4, k5⟩ := rets_ok hsrc r vs rest y2 _ _ (n + 1) hy hv2 hB1 (fun b hb1 hb2 => by
      have := hnew b (by omega) (by simp; omega)
      have hne : ¬ b = n := by omega
      simp only [hne, if_false]
      exact this) nd2 (fun y z q hy hq hqn hf => by
      by_cases e : y = n
      · subst e
        simp at hq
        subst hq
        exact From_disj hsrc nd3 _ (hfrom hqn) hf
      · simp [e] at hy hq
        exact hoff y z q hy hq hqn (hf.mono fun b hb => List.mem_append_right _ hb))
    refine ⟨ρ2, k1, hs.trans k2, fun b hb => ?_, ⟨xv, rest, rfl, h1 ρ2 n (k2 n p (by simp)), k4⟩, fun k hk => ?_⟩
    · replace hb : ¬ (n ≤ b ∧ b < n + (c.enc x1 :: Rcs.blks r y2).length) := hb
      simp at hb
      rw [k3 b (by omega)]
      have hne : ¬ b = n := fun e => by subst e; have := hb (Nat.le_refl _); omega
      simp [hne]
    · rcases k5 k hk with ⟨b, d, q, e1, e2, e3, e4⟩ | hf
      · by_cases e : b = n
        · subst e
          simp at e2
          subst e2
          exact .inr (by rw [← e4]; exact (hfrom e3).mono fun b hb => List.mem_append_left _ hb)
        · simp [e] at e1 e2
          exact .inl ⟨b, d, q, e1, e2, e3, e4⟩
      · exact .inr (hf.mono fun b hb => List.mem_append_right _ hb)

theorem muts_ok {ρ ρ' : Ren} {m : List (Option (Bool × V))} {s' : St} {w' : World} (hsrc : RM ρ' (mget s'.m) w') : ∀ (l : List Cd) (ns cs : List Nat) (z : Cd.TL l) (M : Mem), Muts.dec s'.m l ns = some z → Pairs ρ ρ' m ns cs → RM ρ M w' →
    (∀ y z q c p, M y = some z → ρ y = some q → q.nil = false → c ∈ cs → ρ c = some p → p.nil = false → y ≠ c → q.blk ≠ p.blk) →
    (∀ c c' p p', c ∈ cs → c' ∈ cs → c ≠ c' → ρ c = some p → ρ c' = some p' → p.nil = false → p'.nil = false → p.blk ≠ p'.blk) →
    RM ρ (updF (Muts.upd l z cs) M) w' ∧ (Muts.upd l z cs).map (·.1) = cs
  | [], [], [], z, M, _, _, hM, _, _ => ⟨hM, rfl⟩
  | [], [], c :: cs, z, M, _, h, _, _, _ => h.elim
  | [], n :: ns, cs, z, M, h, _, _, _, _ => none_some h
  | c :: l, [], cs, z, M, h, _, _, _, _ => none_some h
  | c :: l, n :: ns, [], z, M, _, h, _, _, _ => h.elim
  | c :: l, n :: ns, b :: cs, z, M, hd, ⟨⟨p, hp1, hp2⟩, _, hpr⟩, hM, h1, h2 => by
    replace hd : (match mget s'.m n with
      | some (true, v) => match c.dec v with
        | some x => match Muts.dec s'.m l ns with | some y => some (x, y) | none => none
        | none => none
      | _ => none) = some z := hd
    split at hd
    · rename_i v hv
      split at hd
      · rename_i x hx
        split at hd
        · rename_i y hy
          cases hd
          have e := dec_enc c v x hx
          subst e
          obtain ⟨q, hq, ⟨cells, f1, f2⟩, f3⟩ := hsrc.held n true _ hv
          rw [hp2] at hq; cases hq
          have hM1 := hM.insert (Sub.refl _) b (c.enc x) p hp1 ⟨⟨cells, Cells_enc f1, f2⟩, f3⟩ fun y z q hy hyb hq hqn hpn => h1 y z q b p hy hq hqn (by simp) hp1 hpn hyb
          obtain ⟨k1, k2⟩ := muts_ok hsrc l ns cs y _ hy hpr hM1 (fun y z q c' p' hy hq hqn hc' hp' hpn' hne => by
            by_cases e : y = b
            · subst e
              rw [hp1] at hq; cases hq
              exact h2 y c' _ p' (by simp) (by simp [hc']) hne hp1 hp' hqn hpn'
            · simp [e] at hy
              exact h1 y z q c' p' hy hq hqn (by simp [hc']) hp' hpn' hne) (fun c c' p p' hc hc' => h2 c c' p p' (by simp [hc]) (by simp [hc']))
          exact ⟨k1, by show b :: _ = _; rw [k2]⟩
        · cases hd
      · cases hd
    · cases hd

theorem mget_updM : ∀ (us : List (Nat × V)) (m : List (Option (Bool × V))) (b : Nat), (∀ u ∈ us, u.1 < m.length) → mget (updM us m) b = updF us (mget m) b
  | [], m, b, _ => rfl
  | (c, v) :: us, m, b, h => by
    rw [updM, updF, mget_updM us _ b (fun u hu => by simp; exact h u (by simp [hu]))]
    congr 1
    funext y
    exact setM_get (h (c, v) (by simp)) y
theorem length_updM : ∀ (us : List (Nat × V)) (m : List (Option (Bool × V))), (updM us m).length = m.length
  | [], _ => rfl
  | (c, v) :: us, m => by rw [updM, length_updM us]; simp

theorem updF_other : ∀ (us : List (Nat × V)) (m : Mem) (b : Nat), b ∉ us.map (·.1) → updF us m b = m b
  | [], _, _, _ => rfl
  | (c, v) :: us, m, b, h => by
    simp only [List.map_cons, List.mem_cons, not_or] at h
    rw [updF, updF_other us _ b h.2, if_neg h.1]
theorem updF_congr : ∀ (us : List (Nat × V)) (m m' : Mem) (b : Nat), (b ∈ us.map (·.1) ∨ m b = m' b) → updF us m b = updF us m' b
  | [], m, m', b, h => by
    rcases h with h | h
    · simp at h
    · exact h
  | (c, v) :: us, m, m', b, h => by
    rw [updF, updF]
    refine updF_congr us _ _ b ?_
    by_cases e : b = c
    · exact .inr (by simp [e])
    · rcases h with h | h
      · simp only [List.map_cons, List.mem_cons] at h
        exact .inl (h.resolve_left e)
      · exact .inr (by simp [e, h])

/-! ### The beginning -/

theorem eqK_eq {u v : V} (h : u.eqK v = true) : u = v ∧ u.names = [] := by
  unfold V.eqK at h
  split at h
  · simp at h
    obtain ⟨rfl, rfl, rfl⟩ := h
    exact ⟨rfl, rfl⟩
  · cases h

theorem length_globM : ∀ (gl : List (Option V)), (globM gl).length = gl.length
  | [] => rfl
  | none :: r => by simp [globM, length_globM r]
  | some v :: r => by simp [globM, length_globM r]

theorem glob_spec : ∀ (gl : List (Option V)) (m : List (Option (Bool × V))) (b : Nat) (x : Bool × V), globOK gl m = true → mget (globM gl) b = some x → x.1 = false ∧ mget m b = some x ∧ x.2.names = []
  | [], m, b, x, _, h => by simp [globM, mget] at h
  | none :: r, [], b, x, h, _ => by simp [globOK] at h
  | none :: r, y :: m, b, x, h, hb => by
    cases b with
    | zero => simp [globM, mget] at hb
    | succ b => exact glob_spec r m b x (by simpa [globOK] using h) hb
  | some v :: r, [], b, x, h, _ => by simp [globOK] at h
  | some v :: r, none :: m, b, x, h, hb => by simp [globOK] at h
  | some v :: r, some (true, u) :: m, b, x, h, hb => by simp [globOK] at h
  | some v :: r, some (false, u) :: m, b, x, h, hb => by
    simp only [globOK, Bool.and_eq_true] at h
    cases b with
    | zero =>
      simp [globM, mget] at hb
      subst hb
      obtain ⟨e1, e2⟩ := eqK_eq h.1
      exact ⟨rfl, by simp [mget, e1], e2⟩
    | succ b => exact glob_spec r _ b x h.2 hb

theorem muts_spec {m : List (Option (Bool × V))} : ∀ (l : List Ac) (args : List V) (x : Acs.T l), Acs.dec m l args = some x → ∀ b ∈ Acs.muts l args, (∃ c0, mget m b = some (true, c0)) ∧ b ∈ V.namesL args := by
  intro l
  induction l with
  | nil => intro args x _ b hb; cases args <;> cases hb
  | cons a l ih =>
    intro args x hx b hb
    cases args with
    | nil => cases a <;> cases hb
    | cons v vs =>
      have up : (∃ c0, mget m b = some (true, c0)) ∧ b ∈ V.namesL vs → (∃ c0, mget m b = some (true, c0)) ∧ b ∈ V.namesL (v :: vs) := fun h => ⟨h.1, by simp [V.namesL, h.2]⟩
      cases a with
      | v c =>
        replace hx : (match c.dec v with
          | some x => match Acs.dec m l vs with | some y => some (x, y) | none => none
          | none => none) = some x := hx
        split at hx
        · split at hx
          · rename_i y hy; exact up (ih vs y hy b hb)
          · cases hx
        · cases hx
      | sl c =>
        replace hx : (match rowArg m c.zero v with
          | some u => match c.dec u with
            | some x => match Acs.dec m l vs with | some y => some (x, y) | none => none
            | none => none
          | none => none) = some x := hx
        split at hx
        · split at hx
          · split at hx
            · rename_i y hy; exact up (ih vs y hy b hb)
            · cases hx
          · cases hx
        · cases hx
      | ref c =>
        replace hx : (match (generalizing := false) v with
          | .ptr b 0 ext (.ofNat 0) sz => if sz = c.size ∧ ext = c.size then match mget m b with
            | some (_, u) => match c.dec u with
              | some x => match Acs.dec m l vs with | some y => some (x, y) | none => none
              | none => none
            | none => none
            else none
          | _ => none) = some x := hx
        split at hx
        · split at hx
          · split at hx
            · split at hx
              · split at hx
                · rename_i y hy; exact up (ih vs y hy b hb)
                · cases hx
              · cases hx
            · cases hx
          · cases hx
        · cases hx
      | ptr c =>
        replace hx : (match (generalizing := false) v with
          | .ptr b 0 ext (.ofNat 0) sz => if sz = c.size ∧ ext = c.size then match mget m b with
            | some (true, u) => match c.dec u with
              | some x => match Acs.dec m l vs with | some y => some (x, y) | none => none
              | none => none
            | _ => none
            else none
          | _ => none) = some x := hx
        split at hx
        · rename_i b' ext sz
          split at hx
          · split at hx
            · rename_i u hu
              split at hx
              · split at hx
                · rename_i y hy
                  have hb : b ∈ b' :: Acs.muts l vs := hb
                  rcases List.mem_cons.1 hb with rfl | hb
                  · exact ⟨⟨u, hu⟩, by simp [V.namesL, V.names]⟩
                  · exact up (ih vs y hy b hb)
                · cases hx
              · cases hx
            · cases hx
          · cases hx
        · cases hx

theorem pairs_dec {ρ ρ' : Ren} {m : List (Option (Bool × V))} {s' : St} : ∀ (l : List Cd) (ns cs : List Nat) (z : Cd.TL l), Muts.dec s'.m l ns = some z → Pairs ρ ρ' m ns cs → ∀ c ∈ cs, ∃ n ∈ ns, ∃ p v, ρ c = some p ∧ ρ' n = some p ∧ mget s'.m n = some (true, v)
  | [], [], [], z, _, _ => fun c hc => by cases hc
  | [], [], c :: cs, z, _, h => h.elim
  | [], n :: ns, cs, z, h, _ => none_some h
  | c :: l, [], cs, z, h, _ => none_some h
  | c :: l, n :: ns, [], z, _, h => h.elim
  | c :: l, n :: ns, b :: cs, z, hd, ⟨⟨p, hp1, hp2⟩, _, hpr⟩ => by
    replace hd : (match mget s'.m n with
      | some (true, v) => match c.dec v with
        | some x => match Muts.dec s'.m l ns with | some y => some (x, y) | none => none
        | none => none
      | _ => none) = some z := hd
    split at hd
    · rename_i v hv
      split at hd
      · split at hd
        · rename_i y hy
          intro c' hc'
          rcases List.mem_cons.1 hc' with rfl | hc'
          · exact ⟨n, by simp, p, v, hp1, hp2, hv⟩
          · obtain ⟨n', h1, h2⟩ := pairs_dec l ns cs y hy hpr c' hc'
            exact ⟨n', by simp [h1], h2⟩
        · cases hd
      · cases hd
    · cases hd

theorem fun_ok (hE : EnvOK E) (hsig : ∀ f g, E.sig f = some g → SigOK E f g) {f : FuncId} {fn : Func} {l : List Ac} {r : List Rc} {F : Acs.T l → Option (Rcs.T r × Cd.TL (Acs.mutC l))} (hf : E.P.funcs[f]? = some fn)
    (hF : ∀ x, fun_ E fn l r x = F x) : SigOK E f (sigOf E.gl l r F) := by
  intro R args s K ret h
  unfold sigOf at h
  split at h
  · rename_i hchk
    obtain ⟨hgl, hnd⟩ := hchk
    simp only [Bool.and_eq_true] at hnd
    obtain ⟨hnd, hdj⟩ := hnd
    split at h
    · rename_i x hx
      obtain ⟨hpre, h⟩ := acs_chk l args h
      obtain ⟨y, hy, hK⟩ := obind_some h
      refine ⟨_, _, _, hK, fun full => ?_⟩
      rw [← hF] at hy
      unfold fun_ at hy
      split at hy
      · rename_i c hc
        obtain ⟨e, s', hk, hlen, hrun⟩ := ev_ok hE hsig 200 _ 0 [] c _ _ _ hy
        have he : (e = .normal ∨ e = .ret) ∧ retK E s' fn.results.toList (fun vs => if (nodup (Rcs.gives r vs) && disj (Rcs.gives r vs) (Acs.mutN E.gl.length l)) = true then match Rcs.dec s'.m r vs with
            | some y => match Muts.dec s'.m (Acs.mutC l) (Acs.mutN E.gl.length l) with
              | some z => some (y, z)
              | none => none
            | none => none
            else none) = some y := by
          cases e <;> first | exact ⟨.inl rfl, hk⟩ | exact ⟨.inr rfl, hk⟩ | cases hk
        obtain ⟨he, hk2⟩ := he
        obtain ⟨vs, hk3, hret⟩ := retK_ok _ _ _ hk2
        split at hk3
        · rename_i hck
          simp only [Bool.and_eq_true] at hck
          obtain ⟨hg1, hg2⟩ := hck
          have hg2 := disj_spec hg2
          split at hk3
          · rename_i y1 hy1
            split at hk3
            · rename_i z hz
              cases hk3
              have hmutlt := fun b hb => (muts_spec l args x hx b hb).1
              have husm : ∀ u ∈ Muts.upd (Acs.mutC l) z (Acs.muts l args), u.1 ∈ Acs.muts l args := by
                have : ∀ (l : List Cd) (z : Cd.TL l) (cs : List Nat), ∀ u ∈ Muts.upd l z cs, u.1 ∈ cs := by
                  intro l
                  induction l with
                  | nil => intro z cs u hu; cases cs <;> cases hu
                  | cons c l ih =>
                    intro z cs u hu
                    cases cs with
                    | nil => cases hu
                    | cons b bs =>
                      replace hu : u ∈ (b, c.enc z.1) :: Muts.upd l z.2 bs := hu
                      rcases List.mem_cons.1 hu with rfl | hu
                      · simp
                      · exact List.mem_cons_of_mem _ (ih z.2 bs u hu)
                exact this _ _ _
              have hus : ∀ u ∈ Muts.upd (Acs.mutC l) z (Acs.muts l args), u.1 < s.m.length := fun u hu => by
                obtain ⟨c0, h0⟩ := hmutlt _ (husm u hu)
                exact mget_lt h0
              have hlu := length_updM (Muts.upd (Acs.mutC l) z (Acs.muts l args)) s.m
              refine ⟨by simp only [List.length_append, hlu]; omega, rfl, fun b hb hlt => ?_, fun b hb => ?_, ⟨fn, c, hf, hc⟩, ?_⟩
              · simp only
                rw [mget_append_left (by rw [hlu]; exact hlt), mget_updM _ _ _ hus, updF_other _ _ _ hb]
              · obtain ⟨u, hu, rfl⟩ := List.mem_map.1 hb
                exact hus u hu
              · intro w ρ m1 avs hv hm hg hr hfr hfull
                have hrn : ∀ b ∈ V.namesL args, m1 b = mget s.m b := fun b hb => hr b (.inl (List.mem_append_left _ hb))
                have hrg : ∀ b, b < E.gn → m1 b = mget s.m b := fun b hb => hr b (.inl (List.mem_append_right _ (List.mem_range.2 hb)))
                have hgn := hE.gl
                have hlg : (globM E.gl).length = E.gn := by rw [length_globM, hgn]
                -- the package's variables
                let ρ0 : Ren := fun b => if b < E.gn then ρ b else none
                have hmg : ∀ b x, mget (globM E.gl) b = some x → x.1 = false ∧ m1 b = some x ∧ x.2.names = [] ∧ b < E.gn := fun b x hx => by
                  obtain ⟨k1, k2, k3⟩ := glob_spec E.gl s.m b x hgl hx
                  have hlt := mget_lt hx
                  rw [hlg] at hlt
                  exact ⟨k1, (hrg b hlt).trans k2, k3, hlt⟩
                have hrm0 : RM ρ0 (mget (globM E.gl)) w := by
                  refine (hm.less fun b x hx => ?_).agree fun b x hx => ⟨?_, fun y hy => ?_⟩
                  · obtain ⟨k1, k2, _⟩ := hmg b x hx
                    exact ⟨x.1, k2, fun h => h⟩
                  · exact if_pos (hmg b x hx).2.2.2
                  · rw [(hmg b x hx).2.2.1] at hy; cases hy
                let SR0 : List Nat := (List.range E.gn).filter fun b => (mget (globM E.gl) b).isSome
                have hsrc0 : Src1 ρ m1 [] SR0 ρ0 (globM E.gl) := fun b x q hx hq hn => by
                  obtain ⟨k1, k2, k3, k4⟩ := hmg b x hx
                  have : ρ0 b = ρ b := if_pos k4
                  rw [this] at hq
                  exact ⟨b, .inr (List.mem_filter.2 ⟨List.mem_range.2 k4, by rw [hx]; rfl⟩), (fun h => by rw [k1] at h; cases h), x, q, k2, hq, hn, rfl⟩
                have hmutg : ∀ b ∈ Acs.muts l args, b ∉ SR0 := fun b hb hb' => by
                  obtain ⟨_, hx⟩ := List.mem_filter.1 hb'
                  obtain ⟨x, hx⟩ := Option.isSome_iff_exists.1 hx
                  obtain ⟨k1, k2, k3⟩ := glob_spec E.gl s.m b x hgl hx
                  obtain ⟨c0, h0⟩ := hmutlt b hb
                  rw [k2] at h0; cases h0; cases k1
                have hmut1 : ∀ b ∈ Acs.muts l args, ∃ c0, m1 b = some (true, c0) := fun b hb => by
                  obtain ⟨⟨c0, h0⟩, h1⟩ := muts_spec l args x hx b hb
                  exact ⟨c0, (hrn b h1).trans h0⟩
                obtain ⟨ρb, a1, a2, a3, a4, a5, a6, a7⟩ := args_enter hm l args avs x [] SR0 ρ0 (globM E.gl) hx hpre hv hrn hrm0 (fun b hb => by rw [hlg] at hb; exact if_neg (by omega)) hnd (by simp) (by simp) hmutg (disj_spec hdj) hsrc0 (by simp) (by simp)
                rw [List.nil_append] at a6
                rw [length_globM] at a5 a7
                have hrs : RS E ρb (start E.gl fn.ntmps l x) { tmps := avs.toArray ++ Array.replicate (fn.ntmps - avs.toArray.size) undef, defers := [] } w :=
                  RS.enter a5 a1 a4 (fun g n hgz => by
                    obtain ⟨p, h1, h2⟩ := hg g n hgz
                    have hlt := hE.gn g (by rw [hgz]; omega)
                    refine ⟨p, ?_, h2⟩
                    rw [a3 g (by rw [hlg]; exact hlt)]
                    exact (if_pos hlt).trans h1)
                have mineM : ∀ k, Mine ρb (mget (start E.gl fn.ntmps l x).m) k → ∃ c ∈ Acs.muts l args, ∃ p, ρ c = some p ∧ p.nil = false ∧ p.blk = k := by
                  rintro k ⟨b, c, p, b1, b2, b3, b4⟩
                  obtain ⟨c', _, k2, x0, p0, k3, k4, k5, k6⟩ := a6 b _ p b1 b2 b3
                  exact ⟨c', k2 rfl, p0, k4, k5, k6.trans b4⟩
                have notMine : ∀ y z q, m1 y = some z → ρ y = some q → q.nil = false → y ∉ Acs.muts l args → ¬ Mine ρb (mget (start E.gl fn.ntmps l x).m) q.blk := by
                  intro y z q hy hq hqn hym hmine
                  obtain ⟨c', h1, p0, h2, h3, h4⟩ := mineM _ hmine
                  obtain ⟨c0, hc0⟩ := hmut1 c' h1
                  exact hm.excl c' c0 y z p0 q hc0 hy (fun e => hym (e ▸ h1)) h2 hq h3 hqn h4
                have old : ∀ y z q, m1 y = some z → ρ y = some q → q.nil = false → q.blk < w.heap.size := fun y z q hy hq hqn => by
                  obtain ⟨q', hq', hh⟩ := hm.held y z.1 z.2 hy
                  rw [hq] at hq'; cases hq'
                  exact (hh.2.2.2 hqn).1.1
                refine calls_of_wp hf hc (hrun _ ρb _ w trivial hrs fun ρ' a' w' hw => ?_)
                obtain ⟨xs, k1, k2⟩ := hret ρ' a' w' hw.rs
                let M0 : Mem := fun b => if b ∈ Acs.muts l args then none else m1 b
                have hM0 : ∀ b z, M0 b = some z → b ∉ Acs.muts l args ∧ m1 b = some z := fun b z hb => by
                  by_cases e : b ∈ Acs.muts l args
                  · have : M0 b = none := if_pos e
                    rw [this] at hb; cases hb
                  · have : M0 b = m1 b := if_neg e
                    rw [this] at hb
                    exact ⟨e, hb⟩
                have hR0 : RM ρ M0 w' := (hm.less fun b z hb => ⟨z.1, (hM0 b z hb).2, fun h => h⟩).same (Sub.refl _) hw.ext.size fun b z p hb hp hn => by
                  obtain ⟨h1, h2⟩ := hM0 b z hb
                  exact hw.ext.keep _ (old b z p h2 hp hn) (notMine b z p h2 hp hn h1)
                have hpairs : Pairs ρ ρ' s.m (Acs.mutN E.gl.length l) (Acs.muts l args) := a7.mono hw.ext.sub _ _
                obtain ⟨hR1, hmap⟩ := muts_ok hw.rs.m (Acs.mutC l) _ _ z M0 hz hpairs hR0 (fun y z q c p hy hq hqn hc hp hpn hne => by
                    obtain ⟨h1, h2⟩ := hM0 y z hy
                    obtain ⟨c0, hc0⟩ := hmut1 c hc
                    exact (hm.excl c c0 y z p q hc0 h2 (fun e => hne e.symm) hp hq hpn hqn).symm) (fun c c' p p' hc hc' hne hp hp' hn hn' => by
                    obtain ⟨c0, hc0⟩ := hmut1 c hc
                    obtain ⟨c1, hc1⟩ := hmut1 c' hc'
                    exact hm.excl c c0 c' _ p p' hc0 hc1 hne hp hp' hn hn')
                have hlnew : (updM (Muts.upd (Acs.mutC l) z (Acs.muts l args)) s.m ++ (Rcs.blks r y1).map fun c => some (true, c)).length = s.m.length + (Rcs.blks r y1).length := by simp [hlu]
                have hmutlt' : ∀ b ∈ Acs.muts l args, b < s.m.length := fun b hb => by
                  obtain ⟨c0, h0⟩ := hmutlt b hb
                  exact mget_lt h0
                have hupd : ∀ b, b ∉ Acs.muts l args → updF (Muts.upd (Acs.mutC l) z (Acs.muts l args)) M0 b = m1 b := fun b hb => by
                  rw [updF_other _ _ _ (by rw [hmap]; exact hb)]
                  exact if_neg hb
                have mineS : ∀ y z q, m1 y = some z → ρ y = some q → q.nil = false → y ∉ Acs.muts l args → ¬ Mine ρ' (mget s'.m) q.blk := fun y z q hy hq hqn hym hmine => by
                  rcases hw.ext.own _ hmine with h | h
                  · have := old y z q hy hq hqn
                    omega
                  · exact notMine y z q hy hq hqn hym h
                obtain ⟨ρ2, r1, r2, r3, r4, r5⟩ := rets_ok hw.rs.m r vs xs y1 ρ _ s.m.length hy1 k2 hR1 (fun b h1 h2 => by
                    have h3 := hfr b h1 (by simp only; rw [hlnew]; exact h2)
                    refine ⟨h3.1, ?_⟩
                    rw [hupd b fun e => by have := hmutlt' b e; omega]
                    exact h3.2) hg1 (fun y zz q hy hq hqn hf => by
                    by_cases e : y ∈ Acs.muts l args
                    · obtain ⟨n, n1, p, v, n2, n3, n4⟩ := pairs_dec _ _ _ _ hz hpairs y e
                      rw [hq] at n2; cases n2
                      obtain ⟨b, b1, c', p', b2, b3, b4, b5⟩ := hf
                      exact hw.rs.m.excl b c' n _ p' q b2 n4 (fun e => hg2 b b1 (e ▸ n1)) b3 n3 b4 hqn b5
                    · rw [hupd y e] at hy
                      exact mineS y zz q hy hq hqn e hf.mine)
                have hmerge : merge m1 ((Muts.upd (Acs.mutC l) z (Acs.muts l args)).map (·.1)) s { s with m := updM (Muts.upd (Acs.mutC l) z (Acs.muts l args)) s.m ++ (Rcs.blks r y1).map fun c => some (true, c) } =
                    newF s.m.length (Rcs.blks r y1) (updF (Muts.upd (Acs.mutC l) z (Acs.muts l args)) M0) := by
                  funext b
                  rw [newF_spec]
                  unfold merge
                  simp only [hlnew, hmap]
                  by_cases hnw : s.m.length ≤ b ∧ b < s.m.length + (Rcs.blks r y1).length
                  · rw [if_pos (.inr hnw), if_pos hnw]
                    have := mget_append_right (m := updM (Muts.upd (Acs.mutC l) z (Acs.muts l args)) s.m) (n := (Rcs.blks r y1).map fun c => some (true, c)) (b := b - s.m.length)
                    rw [hlu, show s.m.length + (b - s.m.length) = b by omega] at this
                    rw [this]
                    have gm : ∀ (l : List V) (i : Nat), mget (l.map fun c => some (true, c)) i = (l[i]?).map fun c => (true, c) := by
                      intro l
                      induction l with
                      | nil => intro i; simp [mget]
                      | cons v l ih => intro i; cases i with
                        | zero => simp [mget]
                        | succ i => simpa [mget] using ih i
                    exact gm _ _
                  · rw [if_neg hnw]
                    by_cases hmu : b ∈ Acs.muts l args
                    · rw [if_pos (.inl hmu), mget_append_left (by rw [hlu]; exact hmutlt' b hmu), mget_updM _ _ _ hus]
                      exact updF_congr _ _ _ _ (.inl (by rw [hmap]; exact hmu))
                    · rw [if_neg (fun h => h.elim hmu hnw), hupd b hmu]
                have hExt : Ext ρ m1 w ρ2 (newF s.m.length (Rcs.blks r y1) (updF (Muts.upd (Acs.mutC l) z (Acs.muts l args)) M0)) w' := by
                  have mm : ∀ k, Mine ρb (mget (start E.gl fn.ntmps l x).m) k → Mine ρ m1 k := fun k hk => by
                    obtain ⟨c', h1, p0, h2, h3, h4⟩ := mineM k hk
                    obtain ⟨c0, hc0⟩ := hmut1 c' h1
                    exact ⟨c', c0, p0, hc0, h2, h3, h4⟩
                  refine ⟨r2, hw.ext.size, hw.ext.os, hw.ext.output, hw.ext.tape, fun k hk hn => hw.ext.keep k hk fun h => hn (mm k h), fun k hk => ?_⟩
                  rcases r5 k hk with ⟨b, c', p, b1, b2, b3, b4⟩ | hf
                  · by_cases e : b ∈ Acs.muts l args
                    · obtain ⟨c0, hc0⟩ := hmut1 b e
                      exact .inr ⟨b, c0, p, hc0, b2, b3, b4⟩
                    · rw [hupd b e] at b1
                      exact .inr ⟨b, c', p, b1, b2, b3, b4⟩
                  · exact (hw.ext.own k hf.mine).imp id (mm k)
                have fin : a'.defers = [] ∧ ∃ v, (results fn a'.tmps).run E.P w' = .ok v w' ∧ ∃ ρ'' : Ren, (∀ b, ¬ (s.m.length ≤ b ∧ b < (updM (Muts.upd (Acs.mutC l) z (Acs.muts l args)) s.m ++ (Rcs.blks r y1).map fun c => some (true, c)).length) → ρ'' b = ρ b) ∧
                    VR ρ'' (ret1 (Rcs.vals s.m.length r y1)) v ∧
                    RM ρ'' (merge m1 ((Muts.upd (Acs.mutC l) z (Acs.muts l args)).map (·.1)) s { s with m := updM (Muts.upd (Acs.mutC l) z (Acs.muts l args)) s.m ++ (Rcs.blks r y1).map fun c => some (true, c) }) w' ∧
                    Ext ρ m1 w ρ'' (merge m1 ((Muts.upd (Acs.mutC l) z (Acs.muts l args)).map (·.1)) s { s with m := updM (Muts.upd (Acs.mutC l) z (Acs.muts l args)) s.m ++ (Rcs.blks r y1).map fun c => some (true, c) }) w' := by
                  rw [hmerge]
                  refine ⟨hw.rs.defers, _, run_results k1, ρ2, fun b hb => r3 b ?_, VR_ret1 r4, r1, hExt⟩
                  rw [hlnew] at hb
                  exact hb
                rcases he with rfl | rfl <;> exact fin
            · cases hk3
          · cases hk3
        · cases hk3
      · cases hy
    · cases h
  · cases h

end Go.Ev
