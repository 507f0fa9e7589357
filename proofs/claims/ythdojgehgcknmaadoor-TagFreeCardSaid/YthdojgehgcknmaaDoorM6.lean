/-
  Items put: the same frame and world, described anew.
-/
import Derived.Test.YthdojgehgcknmaaDoorM5
namespace Go.Ev

variable {E : Env}

theorem tget_set (l : List V) (i : Nat) (v : V) (j : Nat) : tget (l.set i v) j = v ∧ j = i ∨ tget (l.set i v) j = tget l j := by
  induction l generalizing i j with
  | nil => exact .inr rfl
  | cons y r ih =>
    cases i with
    | zero => cases j with
      | zero => exact .inl ⟨rfl, rfl⟩
      | succ j => exact .inr rfl
    | succ i => cases j with
      | zero => exact .inr rfl
      | succ j =>
        rcases ih i j with ⟨h1, h2⟩ | h
        · exact .inl ⟨h1, by rw [h2]⟩
        · exact .inr h

theorem mget_putM {s : St} {b : Nat} {x : Option (Bool × V)} (h : b < s.m.length) (c : Nat) : mget (putM s b x).m c = if c = b then x else mget s.m c := setM_get h c

theorem GOK.mono {ρ ρ' : Ren} (hs : Sub ρ ρ') (h : GOK E ρ) : GOK E ρ' := fun g n hg => by
  obtain ⟨p, h1, h2⟩ := h g n hg
  exact ⟨p, hs g p h1, h2⟩

theorem RS.putT {ρ : Ren} {s : St} {a : Act} {w : World} (h : RS E ρ s a w) (i : Nat) (v : V) (hv : VR ρ v (a.tmps.getD i undef)) : RS E ρ (putT s i v) a w where
  defers := h.defers
  size := by rw [h.size]; simp [Go.Ev.putT]
  t := fun j => by
    rcases tget_set s.t i v j with ⟨h1, rfl⟩ | h1
    · show VR ρ (tget (s.t.set j v) j) _
      rw [h1]; exact hv
    · show VR ρ (tget (s.t.set i v) j) _
      rw [h1]; exact h.t j
  m := h.m
  names := h.names
  g := h.g

/-- new names for what was there -/
theorem RS.insert {ρ ρ' : Ren} {s : St} {a : Act} {w : World} {b : Nat} {c : V} {p : Info} (h : RS E ρ s a w) (hs : Sub ρ ρ') (hnew : ∀ y, y ≠ b → ρ' y = ρ y) (hb : b < s.m.length) (hp : ρ' b = some p) (hh : Held ρ' p true c w)
    (hne : ∀ y z q, mget s.m y = some z → y ≠ b → ρ y = some q → q.nil = false → p.nil = false → q.blk ≠ p.blk) : RS E ρ' (putM s b (some (true, c))) a w where
  defers := h.defers
  size := h.size
  t := fun i => (h.t i).mono hs
  m := by
    have := h.m.insert hs b c p hp hh hne
    have e : mget (putM s b (some (true, c))).m = fun x => if x = b then some (true, c) else mget s.m x := by
      funext x; exact mget_putM hb x
    rw [e]; exact this
  names := fun y hy => by
    have hl : (putM s b (some (true, c))).m.length = s.m.length := by simp [putM]
    rw [hl] at hy
    rw [hnew y (by omega)]
    exact h.names y hy
  g := h.g.mono hs

/-- where a writable block is to be found in another description -/
def From (ρ : Ren) (m : Mem) (l : List Nat) (k : Nat) : Prop := ∃ b ∈ l, ∃ c p, m b = some (true, c) ∧ ρ b = some p ∧ p.nil = false ∧ p.blk = k

theorem From.mono {ρ : Ren} {m : Mem} {l l' : List Nat} {k : Nat} (h : ∀ b ∈ l, b ∈ l') (hf : From ρ m l k) : From ρ m l' k := by
  obtain ⟨b, hb, r⟩ := hf
  exact ⟨b, h b hb, r⟩

/-- no block of this memory is one of those -/
def Off (ρ : Ren) (m : Mem) (F : Nat → Prop) : Prop := ∀ y z q, m y = some z → ρ y = some q → q.nil = false → ¬ F q.blk

theorem put_own {ρ' ρB : Ren} {s' sB : St} {a : Act} {w : World} (hB : RS E ρB sB a w) {c : Cd} {v : V} {x : c.T} {xv : Value} (h : ownOf s'.m c v = some x) (hv : VR ρ' v xv)
    (hsrc : RM ρ' (mget s'.m) w) (n : Nat) (hn : n < sB.m.length) (hn1 : ρB n = none) (hoff : Off ρB (mget sB.m) (From ρ' (mget s'.m) v.names)) :
    ∃ p, RS E (fun y => if y = n then some p else ρB y) (putM sB n (some (true, c.enc x))) a w ∧ VR (fun y => if y = n then some p else ρB y) (.own n) xv ∧ (p.nil = false → From ρ' (mget s'.m) v.names p.blk) := by
  obtain ⟨p, h1, h2, h3⟩ := own_ok h hv hsrc
  have hs : Sub ρB (fun y => if y = n then some p else ρB y) := fun y q hq => by
    have : y ≠ n := fun e => by rw [e, hn1] at hq; cases hq
    simp [this, hq]
  refine ⟨p, hB.insert hs (b := n) (fun y hy => by simp [hy]) hn (by simp) (h2 _) (fun y z q hy _ hq hqn hpn e => ?_), h1 _ n (by simp), fun hpn => ?_⟩
  · obtain ⟨b, hb, c0, p0, k1, k2, k3, k4⟩ := h3 hpn
    exact hoff y z q hy hq hqn ⟨b, hb, c0, p0, k1, k2, k3, by rw [k4, e]⟩
  · obtain ⟨b, hb, c0, p0, k1, k2, k3, k4⟩ := h3 hpn
    exact ⟨b, hb, c0, p0, k1, k2, k3, k4⟩

/-- What a put leaves. -/
structure Put (E : Env) (ρB : Ren) (sB : St) (ρ1 : Ren) (s1 : St) (a : Act) (w : World) (news blks : List Nat) (F : Nat → Prop) : Prop where
  rs : RS E ρ1 s1 a w
  sub : Sub ρB ρ1
  agree : ∀ b, b ∉ news → ρ1 b = ρB b
  rest : ∀ b, b ∉ news → b ∉ blks → mget s1.m b = mget sB.m b
  mlen : s1.m.length = sB.m.length
  tlen : s1.t.length = sB.t.length
  from_ : ∀ y z q, mget s1.m y = some z → ρ1 y = some q → q.nil = false → (mget sB.m y = some z ∧ ρB y = some q) ∨ F q.blk

theorem Put.refl {ρB : Ren} {sB : St} {a : Act} {w : World} (hB : RS E ρB sB a w) (F : Nat → Prop) : Put E ρB sB ρB sB a w [] [] F :=
  ⟨hB, Sub.refl _, fun _ _ => rfl, fun _ _ _ => rfl, rfl, rfl, fun _ _ _ h h' _ => .inl ⟨h, h'⟩⟩

theorem Put.mono {ρB ρ1 : Ren} {sB s1 : St} {a : Act} {w : World} {news news' blks blks' : List Nat} {F F' : Nat → Prop} (h : Put E ρB sB ρ1 s1 a w news blks F)
    (hn : ∀ b ∈ news, b ∈ news') (hb : ∀ b ∈ blks, b ∈ blks') (hF : ∀ k, F k → F' k) : Put E ρB sB ρ1 s1 a w news' blks' F' :=
  ⟨h.rs, h.sub, fun b hb' => h.agree b fun e => hb' (hn b e), fun b h1 h2 => h.rest b (fun e => h1 (hn b e)) (fun e => h2 (hb b e)), h.mlen, h.tlen, fun y z q h1 h2 h3 => (h.from_ y z q h1 h2 h3).imp id (hF _)⟩

theorem Put.trans {ρB ρ1 ρ2 : Ren} {sB s1 s2 : St} {a : Act} {w : World} {n1 n2 b1 b2 : List Nat} {F1 F2 : Nat → Prop} (h : Put E ρB sB ρ1 s1 a w n1 b1 F1) (h' : Put E ρ1 s1 ρ2 s2 a w n2 b2 F2) :
    Put E ρB sB ρ2 s2 a w (n1 ++ n2) (b1 ++ b2) (fun k => F1 k ∨ F2 k) where
  rs := h'.rs
  sub := h.sub.trans h'.sub
  agree := fun b hb => by
    rw [h'.agree b (fun e => hb (List.mem_append_right _ e)), h.agree b (fun e => hb (List.mem_append_left _ e))]
  rest := fun b hb hb' => by
    rw [h'.rest b (fun e => hb (List.mem_append_right _ e)) (fun e => hb' (List.mem_append_right _ e)), h.rest b (fun e => hb (List.mem_append_left _ e)) (fun e => hb' (List.mem_append_left _ e))]
  mlen := h'.mlen.trans h.mlen
  tlen := h'.tlen.trans h.tlen
  from_ := fun y z q h1 h2 h3 => by
    rcases h'.from_ y z q h1 h2 h3 with ⟨k1, k2⟩ | k
    · rcases h.from_ y z q k1 k2 h3 with k | k
      · exact .inl k
      · exact .inr (.inl k)
    · exact .inr (.inr k)

/-- Nothing of a put's outcome is among others' blocks. -/
theorem Put.off {ρB ρ1 : Ren} {sB s1 : St} {a : Act} {w : World} {news blks : List Nat} {F G : Nat → Prop} (h : Put E ρB sB ρ1 s1 a w news blks F) (hG : Off ρB (mget sB.m) G) (hd : ∀ k, F k → ¬ G k) : Off ρ1 (mget s1.m) G :=
  fun y z q h1 h2 h3 hg => by
    rcases h.from_ y z q h1 h2 h3 with ⟨k1, k2⟩ | k
    · exact hG y z q k1 k2 h3 hg
    · exact hd _ k hg

theorem put_own_put {ρ' ρB : Ren} {s' sB : St} {a : Act} {w : World} (hB : RS E ρB sB a w) {c : Cd} {v : V} {x : c.T} {xv : Value} (h : ownOf s'.m c v = some x) (hv : VR ρ' v xv)
    (hsrc : RM ρ' (mget s'.m) w) (n : Nat) (hn : n < sB.m.length) (hn1 : ρB n = none) (hoff : Off ρB (mget sB.m) (From ρ' (mget s'.m) v.names)) :
    ∃ ρ1, Put E ρB sB ρ1 (putM sB n (some (true, c.enc x))) a w [n] [] (From ρ' (mget s'.m) v.names) ∧ VR ρ1 (.own n) xv := by
  obtain ⟨p, h1, h2, h3⟩ := put_own hB h hv hsrc n hn hn1 hoff
  refine ⟨_, ⟨h1, fun y q hq => ?_, fun b hb => ?_, fun b hb _ => ?_, by simp [putM], rfl, fun y z q hy hq hqn => ?_⟩, h2⟩
  · have : y ≠ n := fun e => by rw [e, hn1] at hq; cases hq
    simp [this, hq]
  · simp at hb; simp [hb]
  · rw [mget_putM hn, if_neg (by simpa using hb)]
  · rw [mget_putM hn] at hy
    by_cases e : y = n
    · subst e
      simp at hq
      subst hq
      exact .inr (h3 hqn)
    · rw [if_neg e] at hy
      simp [e] at hq
      exact .inl ⟨hy, hq⟩

theorem From_disj {ρ : Ren} {m : Mem} {w : World} (h : RM ρ m w) {l l' : List Nat} (hd : ∀ b ∈ l, b ∉ l') (k : Nat) (h1 : From ρ m l k) : ¬ From ρ m l' k := by
  rintro ⟨b', hb', c', p', k1', k2', k3', k4'⟩
  obtain ⟨b, hb, c, p, k1, k2, k3, k4⟩ := h1
  exact h.excl b c b' _ p p' k1 k1' (fun e => hd b hb (e ▸ hb')) k2 k2' k3 k3' (by rw [k4, k4'])

theorem nodup_cons {x : Nat} {l : List Nat} (h : nodup (x :: l) = true) : x ∉ l ∧ nodup l = true := by
  simp only [nodup, Bool.and_eq_true, Bool.not_eq_true', List.contains_eq_mem, decide_eq_false_iff_not] at h
  exact h
theorem nodup_append : ∀ (a b : List Nat), nodup (a ++ b) = true → nodup a = true ∧ nodup b = true ∧ ∀ x ∈ a, x ∉ b
  | [], b, h => ⟨rfl, h, by simp⟩
  | x :: a, b, h => by
    obtain ⟨h1, h2⟩ := nodup_cons (l := a ++ b) h
    obtain ⟨k1, k2, k3⟩ := nodup_append a b h2
    simp only [List.mem_append, not_or] at h1
    refine ⟨?_, k2, fun y hy => ?_⟩
    · simp only [nodup, Bool.and_eq_true, Bool.not_eq_true', List.contains_eq_mem, decide_eq_false_iff_not]
      exact ⟨h1.1, k1⟩
    · rcases List.mem_cons.1 hy with rfl | hy
      · exact h1.2
      · exact k3 y hy

end Go.Ev

/-
  Items put: the theorem.
-/
namespace Go.Ev

variable {E : Env}

theorem Put.blk {ρB ρ1 : Ren} {sB s1 : St} {a : Act} {w : World} {news blks : List Nat} {F : Nat → Prop} {b : Nat} {c : V} {p : Info} (h : Put E ρB sB ρ1 s1 a w news blks F)
    (hb : b < sB.m.length) (hp : ρ1 b = some p) (hh : Held ρ1 p true c w) (hne : Off ρ1 (mget s1.m) (fun k => p.nil = false ∧ p.blk = k)) (hF : p.nil = false → F p.blk) :
    Put E ρB sB ρ1 (putM s1 b (some (true, c))) a w news (b :: blks) F where
  rs := h.rs.insert (Sub.refl _) (fun _ _ => rfl) (by rw [h.mlen]; exact hb) hp hh fun y z q h1 _ h2 h3 h4 e => hne y z q h1 h2 h3 ⟨h4, e.symm⟩
  sub := h.sub
  agree := h.agree
  rest := fun y hy hy' => by
    simp only [List.mem_cons, not_or] at hy'
    rw [mget_putM (by rw [h.mlen]; exact hb), if_neg hy'.1]
    exact h.rest y hy hy'.2
  mlen := by rw [← h.mlen]; simp [putM]
  tlen := h.tlen
  from_ := fun y z q h1 h2 h3 => by
    rw [mget_putM (by rw [h.mlen]; exact hb)] at h1
    by_cases e : y = b
    · subst e
      rw [hp] at h2
      cases h2
      exact .inr (hF h3)
    · rw [if_neg e] at h1
      exact h.from_ y z q h1 h2 h3

theorem Put.slot {ρB ρ1 : Ren} {sB s1 : St} {a : Act} {w : World} {news blks : List Nat} {F : Nat → Prop} (h : Put E ρB sB ρ1 s1 a w news blks F) (i : Nat) (v : V) (hv : VR ρ1 v (a.tmps.getD i undef)) :
    Put E ρB sB ρ1 (putT s1 i v) a w news blks F where
  rs := h.rs.putT i v hv
  sub := h.sub
  agree := h.agree
  rest := h.rest
  mlen := h.mlen
  tlen := by rw [← h.tlen]; simp [putT]
  from_ := h.from_

theorem ownOf_scal {m : List (Option (Bool × V))} {c : Cd} {v : V} {x : c.T} (h : ownOf m c v = some x) : v.scal = true := by
  unfold ownOf at h
  split at h <;> first | rfl | cases h

theorem Off.mono {ρ : Ren} {m : Mem} {F G : Nat → Prop} (h : Off ρ m F) (hF : ∀ k, G k → F k) : Off ρ m G := fun y z q h1 h2 h3 hg => h y z q h1 h2 h3 (hF _ hg)

theorem put_parts {ρ' : Ren} {s' : St} {a : Act} {w : World} (hsrc : RM ρ' (mget s'.m) w) (n0 : Nat) : ∀ (l : List Pc) (vs : List V) (x : Pcs.T l) (cs : List Value) (ρB : Ren) (sB : St), Pcs.dec s'.m l vs = some x → RS E ρB sB a w → CellsL ρ' vs cs →
    nodup (l.flatMap Pc.news) = true → (∀ n ∈ l.flatMap Pc.news, n < sB.m.length ∧ ρB n = none ∧ n0 ≤ n) → (∀ b ∈ l.flatMap Pc.kept, ρB b = ρ' b ∧ b < n0) → nodup (Pcs.gives l vs) = true →
    Off ρB (mget sB.m) (From ρ' (mget s'.m) (Pcs.gives l vs)) →
    ∃ ρ1, Put E ρB sB ρ1 (Pcs.put sB l x) a w (l.flatMap Pc.news) [] (From ρ' (mget s'.m) (Pcs.gives l vs)) ∧ CellsL ρ1 (Pcs.vals l x) cs
  | [], [], x, cs, ρB, sB, _, hB, hc, _, _, _, _, _ => ⟨ρB, Put.refl hB _, hc⟩
  | [], _ :: _, _, _, _, _, h, _, _, _, _, _, _, _ => none_some h
  | .v _ :: _, [], _, _, _, _, h, _, _, _, _, _, _, _ => none_some h
  | .own _ _ :: _, [], _, _, _, _, h, _, _, _, _, _, _, _ => none_some h
  | .k _ :: _, [], _, _, _, _, h, _, _, _, _, _, _, _ => none_some h
  | .v c :: r, v :: vs, x, cs, ρB, sB, h, hB, hc, hn, hnew, hk, hg, hoff => by
    have h : (match c.dec v with
      | some x => match Pcs.dec s'.m r vs with | some y => some (x, y) | none => none
      | none => none) = some x := h
    split at h
    · rename_i x1 h1
      split at h
      · rename_i y h2
        cases h
        simp only [CellsL] at hc
        obtain ⟨c1, c2, rfl, hl, hc1, hc2⟩ := hc
        obtain ⟨ρ1, k1, k2⟩ := put_parts hsrc n0 r vs y c2 ρB sB h2 hB hc2 hn hnew hk hg hoff
        have e := dec_enc c v x1 h1
        subst e
        exact ⟨ρ1, k1, c1, c2, rfl, hl, Cells_enc hc1, k2⟩
      · cases h
    · cases h
  | .own n c :: r, v :: vs, x, cs, ρB, sB, h, hB, hc, hn, hnew, hk, hg, hoff => by
    have h : (match ownOf s'.m c v with
      | some x => match Pcs.dec s'.m r vs with | some y => some (x, y) | none => none
      | none => none) = some x := h
    split at h
    · rename_i x1 h1
      split at h
      · rename_i y h2
        cases h
        simp only [CellsL] at hc
        obtain ⟨c1, c2, rfl, hl, hc1, hc2⟩ := hc
        obtain ⟨xv, rfl, hxv⟩ := Cells_scal (ownOf_scal h1) hc1
        have hn : nodup (n :: r.flatMap Pc.news) = true := hn
        obtain ⟨hn1, hn2⟩ := nodup_cons hn
        have hg : nodup (v.names ++ Pcs.gives r vs) = true := hg
        obtain ⟨g1, g2, g3⟩ := nodup_append _ _ hg
        obtain ⟨f1, f2, f3⟩ := hnew n (by simp [Pc.news])
        have hoff : Off ρB (mget sB.m) (From ρ' (mget s'.m) (v.names ++ Pcs.gives r vs)) := hoff
        obtain ⟨ρ1, p1, p2⟩ := put_own_put hB h1 hxv hsrc n f1 f2 (hoff.mono fun k => From.mono fun b hb => List.mem_append_left _ hb)
        obtain ⟨ρ2, q1, q2⟩ := put_parts hsrc n0 r vs y c2 ρ1 _ h2 p1.rs hc2 hn2 (fun m hm => by
            obtain ⟨e1, e2, e3⟩ := hnew m (by simp only [List.flatMap_cons, List.mem_append]; exact .inr hm)
            refine ⟨by rw [p1.mlen]; exact e1, ?_, e3⟩
            rw [p1.agree m (fun e => hn1 (by simp at e; rw [← e]; exact hm)), e2]) (fun b hb => by
            obtain ⟨e1, e2⟩ := hk b (by simp only [List.flatMap_cons, List.mem_append]; exact .inr hb)
            refine ⟨?_, e2⟩
            rw [p1.agree b (fun e => by simp at e; omega), e1]) g2
          (p1.off (hoff.mono fun k => From.mono fun b hb => List.mem_append_right _ hb) fun k hk1 hk2 => From_disj hsrc g3 k hk1 hk2)
        refine ⟨ρ2, (p1.trans q1).mono (by intro b hb; simpa [Pc.news] using hb) (by simp) (fun k hk => ?_), [xv], c2, rfl, ⟨rfl, rfl⟩, ?_, q2⟩
        · rcases hk with hk | hk
          · exact hk.mono fun b hb => List.mem_append_left _ hb
          · exact hk.mono fun b hb => List.mem_append_right _ hb
        · exact Cells.mono q1.sub _ _ p2
      · cases h
    · cases h
  | .k u :: r, v :: vs, x, cs, ρB, sB, h, hB, hc, hn, hnew, hk, hg, hoff => by
    have h : (match u.same v with
      | true => match Pcs.dec s'.m r vs with | some y => some ((), y) | none => none
      | false => none) = some x := h
    split at h
    · rename_i h1
      split at h
      · rename_i y h2
        cases h
        simp only [CellsL] at hc
        obtain ⟨c1, c2, rfl, hl, hc1, hc2⟩ := hc
        have e := same_eq u v h1
        subst e
        obtain ⟨ρ1, k1, k2⟩ := put_parts hsrc n0 r vs y c2 ρB sB h2 hB hc2 hn hnew (fun b hb => hk b (by simp only [List.flatMap_cons, List.mem_append]; exact .inr hb)) hg hoff
        refine ⟨ρ1, k1, c1, c2, rfl, hl, Cells.agree _ _ (fun b hb => ?_) hc1, k2⟩
        obtain ⟨e1, e2⟩ := hk b (by simp only [List.flatMap_cons, List.mem_append]; exact .inl hb)
        rw [k1.agree b (fun hm => ?_), e1]
        have := (hnew b hm).2.2
        omega
      · cases h
    · cases h

theorem blk_dec {α : Type} {m : Option (Bool × V)} {f : V → Option α} {x : α} (h : (match m with | some (true, v) => f v | _ => none) = some x) : ∃ v, m = some (true, v) ∧ f v = some x := by
  cases m with
  | none => cases h
  | some y =>
    obtain ⟨b, v⟩ := y
    cases b with
    | false => cases h
    | true => exact ⟨v, rfl, h⟩
theorem blkS_dec {α : Type} {m : Option (Bool × V)} {f : List V → Option α} {x : α} (h : (match m with | some (true, .agg vs) => f vs | _ => none) = some x) : ∃ vs, m = some (true, .agg vs) ∧ f vs = some x := by
  cases m with
  | none => cases h
  | some y =>
    obtain ⟨b, v⟩ := y
    cases b with
    | false => cases h
    | true => cases v <;> first | cases h | exact ⟨_, rfl, h⟩

theorem put_item {ρ' ρB : Ren} {s' sB : St} {a : Act} {w : World} (hsrc : RS E ρ' s' a w) (hB : RS E ρB sB a w) (n0 : Nat) (i : It) (x : i.T) (h : i.dec s' = some x)
    (hn : nodup i.news = true) (hnew : ∀ n ∈ i.news, n < sB.m.length ∧ ρB n = none ∧ n0 ≤ n) (hk : ∀ b ∈ i.kept, ρB b = ρ' b ∧ b < n0) (hb : ∀ b ∈ i.blks, b < sB.m.length ∧ ρB b = ρ' b ∧ b < n0)
    (hg : nodup (i.gives s') = true) (hd : ∀ b ∈ i.gives s', b ∉ i.blks) (hoff : Off ρB (mget sB.m) (From ρ' (mget s'.m) (i.gives s' ++ i.blks))) :
    ∃ ρ1, Put E ρB sB ρ1 (i.put sB x) a w i.news i.blks (From ρ' (mget s'.m) (i.gives s' ++ i.blks)) := by
  cases i with
  | slot j c =>
    have h : c.dec (s'.tv j) = some x := h
    have e := dec_enc _ _ _ h
    have ht := hsrc.t j
    rw [e] at ht
    exact ⟨ρB, (Put.refl hB _).slot j _ (VR_enc ht)⟩
  | own j n c =>
    have h : ownOf s'.m c (s'.tv j) = some x := h
    obtain ⟨e1, e2, e3⟩ := hnew n (by simp [It.news])
    obtain ⟨ρ1, p1, p2⟩ := put_own_put hB h (hsrc.t j) hsrc.m n e1 e2 (hoff.mono fun k => From.mono fun b hb => List.mem_append_left _ hb)
    exact ⟨ρ1, (p1.slot j _ p2).mono (fun b hb => hb) (by simp) fun k hk => hk.mono fun b hb => List.mem_append_left _ hb⟩
  | blk b c =>
    replace h : (match s'.mv b with | some (true, v) => c.dec v | _ => none) = some x := h
    · obtain ⟨v, hv, h⟩ := blk_dec h
      have e := dec_enc _ _ _ h
      obtain ⟨f1, f2, f3⟩ := hb b (by simp [It.blks])
      obtain ⟨p, hp, hh⟩ := hsrc.m.held b true v hv
      have hF : p.nil = false → From ρ' (mget s'.m) [b] p.blk := fun hn => ⟨b, by simp, v, p, hv, hp, hn, rfl⟩
      have hh' : Held ρB p true (c.enc x) w := by
        obtain ⟨⟨cs, h1, h2⟩, h3⟩ := hh
        rw [e] at h1 h3
        exact ⟨⟨cs, Cells_enc h1, h2⟩, h3⟩
      exact ⟨ρB, (Put.refl hB _).blk f1 (by rw [f2, hp]) hh' (hoff.mono fun k hk => by
        obtain ⟨hk1, rfl⟩ := hk
        exact (hF hk1).mono fun y hy => List.mem_append_right _ hy) (fun hn => (hF hn).mono fun y hy => List.mem_append_right _ hy)⟩
  | blkS b l =>
    replace h : (match s'.mv b with | some (true, .agg vs) => Pcs.dec s'.m l vs | _ => none) = some x := h
    · obtain ⟨vs, hv, h⟩ := blkS_dec h
      have hv : mget s'.m b = some (true, .agg vs) := hv
      obtain ⟨f1, f2, f3⟩ := hb b (by simp [It.blks])
      obtain ⟨p, hp, ⟨cs, hc, hl, hcs⟩, hh⟩ := hsrc.m.held b true _ hv
      have hgi : It.gives s' (.blkS b l) = Pcs.gives l vs := by
        show (match s'.mv b with | some (_, .agg vs) => Pcs.gives l vs | _ => []) = _
        rw [show s'.mv b = some (true, .agg vs) from hv]
      rw [hgi] at hg hd hoff ⊢
      obtain ⟨ρ1, p1, p2⟩ := put_parts hsrc.m n0 l vs x cs ρB sB h hB hc hn hnew hk hg (hoff.mono fun k => From.mono fun b hb => List.mem_append_left _ hb)
      have hF : p.nil = false → From ρ' (mget s'.m) [b] p.blk := fun hn => ⟨b, by simp, _, p, hv, hp, hn, rfl⟩
      have hbn : b ∉ l.flatMap Pc.news := fun hm => by
        have := (hnew b hm).2.2
        omega
      have hh' : Held ρ1 p true (.agg (Pcs.vals l x)) w := ⟨⟨cs, p2, hl, hcs⟩, trivial, hh.2⟩
      refine ⟨ρ1, (((p1.mono (fun b hb => hb) (fun b hb => hb) (fun k hk => hk.mono fun y hy => List.mem_append_left _ hy)).blk f1 (by rw [p1.agree b hbn, f2, hp]) hh' ?_ fun hn => (hF hn).mono fun y hy => List.mem_append_right _ hy))⟩
      refine p1.off (hoff.mono fun k hk => ?_) fun k hk1 hk2 => ?_
      · obtain ⟨hk1, rfl⟩ := hk
        exact (hF hk1).mono fun y hy => List.mem_append_right _ hy
      · obtain ⟨hk3, rfl⟩ := hk2
        exact From_disj hsrc.m hd _ hk1 (hF hk3)
  | blkO b n c =>
    replace h : (match s'.mv b with | some (true, v) => ownOf s'.m c v | _ => none) = some x := h
    · obtain ⟨v, hv, h⟩ := blk_dec h
      have hv : mget s'.m b = some (true, v) := hv
      obtain ⟨f1, f2, f3⟩ := hb b (by simp [It.blks])
      obtain ⟨e1, e2, e3⟩ := hnew n (by simp [It.news])
      obtain ⟨p, hp, ⟨cs, hc, hl, hcs⟩, hh⟩ := hsrc.m.held b true _ hv
      have hgi : It.gives s' (.blkO b n c) = v.names := by
        show (match s'.mv b with | some (_, v) => v.names | _ => []) = _
        rw [show s'.mv b = some (true, v) from hv]
      rw [hgi] at hg hd hoff ⊢
      obtain ⟨xv, rfl, hxv⟩ := Cells_scal (ownOf_scal h) hc
      obtain ⟨ρ1, p1, p2⟩ := put_own_put hB h hxv hsrc.m n e1 e2 (hoff.mono fun k => From.mono fun b hb => List.mem_append_left _ hb)
      have hF : p.nil = false → From ρ' (mget s'.m) [b] p.blk := fun hn => ⟨b, by simp, _, p, hv, hp, hn, rfl⟩
      have hbn : b ∉ [n] := fun hm => by simp at hm; omega
      have hh' : Held ρ1 p true (.own n) w := ⟨⟨[xv], p2, hl, hcs⟩, trivial, hh.2⟩
      refine ⟨ρ1, (((p1.mono (fun b hb => hb) (fun b hb => hb) (fun k hk => hk.mono fun y hy => List.mem_append_left _ hy)).blk f1 (by rw [p1.agree b hbn, f2, hp]) hh' ?_ fun hn => (hF hn).mono fun y hy => List.mem_append_right _ hy))⟩
      refine p1.off (hoff.mono fun k hk => ?_) fun k hk1 hk2 => ?_
      · obtain ⟨hk1, rfl⟩ := hk
        exact (hF hk1).mono fun y hy => List.mem_append_right _ hy
      · obtain ⟨hk3, rfl⟩ := hk2
        exact From_disj hsrc.m hd _ hk1 (hF hk3)

end Go.Ev

/-
  All items put; what a piece of code leaves.
-/
namespace Go.Ev

variable {E : Env}

theorem put_items {ρ' : Ren} {s' : St} {a : Act} {w : World} (hsrc : RS E ρ' s' a w) (n0 : Nat) : ∀ (l : List It) (x : Its.T l) (ρB : Ren) (sB : St), Its.dec s' l = some x → RS E ρB sB a w →
    nodup (l.flatMap It.news) = true → (∀ n ∈ l.flatMap It.news, n < sB.m.length ∧ ρB n = none ∧ n0 ≤ n) → (∀ b ∈ l.flatMap It.kept, ρB b = ρ' b ∧ b < n0) →
    nodup (l.flatMap It.blks) = true → (∀ b ∈ l.flatMap It.blks, b < sB.m.length ∧ ρB b = ρ' b ∧ b < n0) →
    nodup (Its.gives s' l) = true → (∀ b ∈ Its.gives s' l, b ∉ l.flatMap It.blks) → Off ρB (mget sB.m) (From ρ' (mget s'.m) (Its.gives s' l ++ l.flatMap It.blks)) →
    ∃ ρ1, Put E ρB sB ρ1 (Its.put sB l x) a w (l.flatMap It.news) (l.flatMap It.blks) (From ρ' (mget s'.m) (Its.gives s' l ++ l.flatMap It.blks))
  | [], x, ρB, sB, _, hB, _, _, _, _, _, _, _, _ => ⟨ρB, Put.refl hB _⟩
  | i :: r, x, ρB, sB, h, hB, hn, hnew, hk, hbn, hb, hg, hd, hoff => by
    replace h : (match i.dec s' with
      | some x => match Its.dec s' r with
        | some y => some (x, y)
        | none => none
      | none => none) = some x := h
    split at h
    · rename_i x1 h1
      split at h
      · rename_i y h2
        cases h
        have hn : nodup (i.news ++ r.flatMap It.news) = true := hn
        obtain ⟨n1, n2, n3⟩ := nodup_append _ _ hn
        have hbn : nodup (i.blks ++ r.flatMap It.blks) = true := hbn
        obtain ⟨b1, b2, b3⟩ := nodup_append _ _ hbn
        have hg : nodup (i.gives s' ++ Its.gives s' r) = true := hg
        obtain ⟨g1, g2, g3⟩ := nodup_append _ _ hg
        have hnew : ∀ n ∈ i.news ++ r.flatMap It.news, n < sB.m.length ∧ ρB n = none ∧ n0 ≤ n := hnew
        have hk : ∀ b ∈ i.kept ++ r.flatMap It.kept, ρB b = ρ' b ∧ b < n0 := hk
        have hb : ∀ b ∈ i.blks ++ r.flatMap It.blks, b < sB.m.length ∧ ρB b = ρ' b ∧ b < n0 := hb
        have hd : ∀ b ∈ i.gives s' ++ Its.gives s' r, b ∉ i.blks ++ r.flatMap It.blks := hd
        have hoff : Off ρB (mget sB.m) (From ρ' (mget s'.m) ((i.gives s' ++ Its.gives s' r) ++ (i.blks ++ r.flatMap It.blks))) := hoff
        simp only [List.mem_append, not_or] at hd
        obtain ⟨ρ1, p1⟩ := put_item hsrc hB n0 i x1 h1 n1 (fun n hn => hnew n (List.mem_append_left _ hn)) (fun b hb => hk b (List.mem_append_left _ hb)) (fun b hb' => hb b (List.mem_append_left _ hb')) g1
          (fun b hb' => (hd b (.inl hb')).1) (hoff.mono fun k => From.mono fun b hb' => by
            rcases List.mem_append.1 hb' with h | h
            · exact List.mem_append_left _ (List.mem_append_left _ h)
            · exact List.mem_append_right _ (List.mem_append_left _ h))
        have old : ∀ b, b < n0 → ρ1 b = ρB b := fun b hb' => p1.agree b fun e => by
          have := (hnew b (List.mem_append_left _ e)).2.2
          omega
        obtain ⟨ρ2, p2⟩ := put_items hsrc n0 r y ρ1 _ h2 p1.rs n2 (fun n hn => by
            obtain ⟨e1, e2, e3⟩ := hnew n (List.mem_append_right _ hn)
            exact ⟨by rw [p1.mlen]; exact e1, by rw [p1.agree n (fun e => n3 n e hn), e2], e3⟩) (fun b hb' => by
            obtain ⟨e1, e2⟩ := hk b (List.mem_append_right _ hb')
            exact ⟨by rw [old b e2, e1], e2⟩) b2 (fun b hb' => by
            obtain ⟨e1, e2, e3⟩ := hb b (List.mem_append_right _ hb')
            exact ⟨by rw [p1.mlen]; exact e1, by rw [old b e3, e2], e3⟩) g2 (fun b hb' => (hd b (.inr hb')).2)
          (p1.off (hoff.mono fun k => From.mono fun b hb' => by
            rcases List.mem_append.1 hb' with h | h
            · exact List.mem_append_left _ (List.mem_append_right _ h)
            · exact List.mem_append_right _ (List.mem_append_right _ h)) fun k hk1 hk2 => From_disj hsrc.m (fun b h1 h2 => by
              rcases List.mem_append.1 h1 with h1 | h1 <;> rcases List.mem_append.1 h2 with h2 | h2
              · exact g3 b h1 h2
              · exact (hd b (.inl h1)).2 h2
              · exact (hd b (.inr h2)).1 h1
              · exact b3 b h1 h2) k hk1 hk2)
        refine ⟨ρ2, (p1.trans p2).mono (fun b hb => hb) (fun b hb => hb) fun k hk => ?_⟩
        rcases hk with hk | hk
        · exact hk.mono fun b hb' => by
            rcases List.mem_append.1 hb' with h | h
            · exact List.mem_append_left _ (List.mem_append_left _ h)
            · exact List.mem_append_right _ (List.mem_append_left _ h)
        · exact hk.mono fun b hb' => by
            rcases List.mem_append.1 hb' with h | h
            · exact List.mem_append_left _ (List.mem_append_right _ h)
            · exact List.mem_append_right _ (List.mem_append_right _ h)
      · cases h
    · cases h

theorem disj_spec {a b : List Nat} (h : disj a b = true) : ∀ x ∈ a, x ∉ b := by
  simpa [disj] using h

theorem take_spec {s : St} {l : List It} {x : Its.T l} (h : Its.take s l = some x) : nodup (Its.gives s l) = true ∧ (∀ b ∈ Its.gives s l, b ∉ l.flatMap It.blks) ∧ Its.dec s l = some x := by
  unfold Its.take at h
  split at h
  · rename_i hb
    simp only [Bool.and_eq_true] at hb
    exact ⟨hb.1, disj_spec hb.2, h⟩
  · cases h

theorem ok_spec {nx fresh : Nat} {l : List It} (h : Its.ok nx fresh l = true) : nodup (l.flatMap It.news) = true ∧ (∀ b ∈ l.flatMap It.news, nx ≤ b ∧ b < nx + fresh) ∧ nodup (l.flatMap It.blks) = true ∧
    (∀ b ∈ l.flatMap It.blks, b < nx) ∧ (∀ b ∈ l.flatMap It.kept, b < nx) := by
  simp only [Its.ok, Bool.and_eq_true, List.all_eq_true, decide_eq_true_eq] at h
  obtain ⟨⟨⟨⟨h1, h2⟩, h3⟩, h4⟩, h5⟩ := h
  exact ⟨h1, fun b hb => h2 b hb, h3, fun b hb => h4 b hb, fun b hb => h5 b hb⟩

/-! ### Dropping, locking, room -/

theorem tget_dropAt (l : List Nat) : ∀ (r : List V) (i j : Nat), tget (dropAt l i r) j = if l.contains (i + j) then .dead else tget r j
  | [], i, j => by simp [dropAt, tget]
  | v :: r, i, 0 => by simp [dropAt, tget]
  | v :: r, i, j + 1 => by
    simp only [dropAt, tget]
    rw [tget_dropAt l r (i + 1) j, show i + 1 + j = i + (j + 1) by omega]
theorem length_dropAt (l : List Nat) : ∀ (r : List V) (i : Nat), (dropAt l i r).length = r.length
  | [], _ => rfl
  | v :: r, i => by simp [dropAt, length_dropAt l r]
theorem mget_dropMAt (l : List Nat) : ∀ (r : List (Option (Bool × V))) (i j : Nat), mget (dropMAt l i r) j = if l.contains (i + j) then none else mget r j
  | [], i, j => by simp [dropMAt, mget]
  | v :: r, i, 0 => by simp [dropMAt, mget]
  | v :: r, i, j + 1 => by
    simp only [dropMAt, mget]
    rw [mget_dropMAt l r (i + 1) j, show i + 1 + j = i + (j + 1) by omega]
theorem length_dropMAt (l : List Nat) : ∀ (r : List (Option (Bool × V))) (i : Nat), (dropMAt l i r).length = r.length
  | [], _ => rfl
  | v :: r, i => by simp [dropMAt, length_dropMAt l r]
theorem mget_lockL : ∀ (r : List (Option (Bool × V))) (j : Nat), mget (lockL r) j = lockX (mget r j)
  | [], j => by simp [lockL, mget, lockX]
  | v :: r, 0 => by simp [lockL, mget]
  | v :: r, j + 1 => by simp only [lockL, mget]; exact mget_lockL r j
theorem length_lockL : ∀ (r : List (Option (Bool × V))), (lockL r).length = r.length
  | [] => rfl
  | v :: r => by simp [lockL, length_lockL r]
theorem mget_lockButAt (l : List Nat) : ∀ (r : List (Option (Bool × V))) (i j : Nat), mget (lockButAt l i r) j = if l.contains (i + j) then mget r j else lockX (mget r j)
  | [], i, j => by simp [lockButAt, mget, lockX]
  | v :: r, i, 0 => by simp [lockButAt, mget]
  | v :: r, i, j + 1 => by
    simp only [lockButAt, mget]
    rw [mget_lockButAt l r (i + 1) j, show i + 1 + j = i + (j + 1) by omega]
theorem length_lockButAt (l : List Nat) : ∀ (r : List (Option (Bool × V))) (i : Nat), (lockButAt l i r).length = r.length
  | [], _ => rfl
  | v :: r, i => by simp [lockButAt, length_lockButAt l r]
theorem mget_none (n b : Nat) : mget (List.replicate n none) b = none := by
  induction n generalizing b with
  | zero => rfl
  | succ n ih => cases b with
    | zero => rfl
    | succ b => exact ih b
theorem mget_addM (n : Nat) (s : St) (b : Nat) : mget (addM n s).m b = mget s.m b := by
  show mget (s.m ++ List.replicate n none) b = _
  by_cases h : b < s.m.length
  · exact mget_append_left h
  · have := mget_append_right (m := s.m) (n := List.replicate n none) (b := b - s.m.length)
    rw [show s.m.length + (b - s.m.length) = b by omega] at this
    rw [this, mget_none, mget_ge (by omega)]

/-- A state that tells less. -/
structure Less (s s1 : St) : Prop where
  t : ∀ i, s1.tv i = s.tv i ∨ s1.tv i = .dead
  tl : s1.t.length = s.t.length
  m : ∀ b x, mget s1.m b = some x → ∃ wr, mget s.m b = some (wr, x.2) ∧ (x.1 = true → wr = true)
  ml : s.m.length ≤ s1.m.length

theorem RS.less {ρ : Ren} {s s1 : St} {a : Act} {w : World} (h : RS E ρ s a w) (hl : Less s s1) : RS E ρ s1 a w where
  defers := h.defers
  size := by rw [h.size, hl.tl]
  t := fun i => by
    rcases hl.t i with e | e
    · rw [e]; exact h.t i
    · rw [e]; trivial
  m := h.m.less hl.m
  names := fun b hb => h.names b (Nat.le_trans hl.ml hb)
  g := h.g

end Go.Ev

/-
  What holds since a piece of code was entered; what is known behind it.
-/
namespace Go.Ev

variable {E : Env}

/-- Since (ρ, s, w0): only the blocks of T, and new ones, have changed. -/
structure Since (ρ : Ren) (s : St) (w0 : World) (T : List Nat) (ρ' : Ren) (m' : Mem) (w' : World) : Prop where
  size : w0.heap.size ≤ w'.heap.size
  os : w'.os = w0.os
  output : w'.output = w0.output
  tape : w'.tape = w0.tape
  keep : ∀ k, k < w0.heap.size → ¬ From ρ (mget s.m) T k → w'.heap[k]? = w0.heap[k]?
  own : ∀ k, Mine ρ' m' k → w0.heap.size ≤ k ∨ From ρ (mget s.m) T k
  agree : ∀ b, b < s.m.length → ρ' b = ρ b

theorem Since.step {ρ : Ren} {s : St} {w0 : World} {T : List Nat} {ρ1 ρ2 : Ren} {m1 m2 : Mem} {w1 w2 : World} {n1 : Nat} (h : Since ρ s w0 T ρ1 m1 w1) (he : Ext ρ1 m1 w1 ρ2 m2 w2) (hn : s.m.length ≤ n1) (ha : ∀ b, b < n1 → ρ2 b = ρ1 b) :
    Since ρ s w0 T ρ2 m2 w2 where
  size := Nat.le_trans h.size he.size
  os := he.os.trans h.os
  output := he.output.trans h.output
  tape := he.tape.trans h.tape
  keep := fun k hk hf => by
    rw [he.keep k (Nat.lt_of_lt_of_le hk h.size) (fun hm => ?_), h.keep k hk hf]
    rcases h.own k hm with h1 | h1
    · omega
    · exact hf h1
  own := fun k hk => by
    rcases he.own k hk with h1 | h1
    · exact .inl (Nat.le_trans h.size h1)
    · exact h.own k h1
  agree := fun b hb => by rw [ha b (by omega), h.agree b hb]

theorem From.mine {ρ : Ren} {m : Mem} {l : List Nat} {k : Nat} (h : From ρ m l k) : Mine ρ m k := by
  obtain ⟨b, _, c, p, h1, h2, h3, h4⟩ := h
  exact ⟨b, c, p, h1, h2, h3, h4⟩

/-- A ground to put items on. -/
structure Ground (s : St) (as : List Nat) (T : List Nat) (fresh : Nat) (sB : St) : Prop where
  t : ∀ i, sB.tv i = .dead ∨ (sB.tv i = s.tv i ∧ i ∉ as)
  tl : sB.t.length = s.t.length
  m : ∀ b x, mget sB.m b = some x → b ∉ T ∧ ∃ wr, mget s.m b = some (wr, x.2) ∧ (x.1 = true → wr = true)
  ml : sB.m.length = s.m.length + fresh

theorem put_since {ρ ρ' : Ren} {s s' sB : St} {a a' : Act} {w0 w' : World} {as T : List Nat} {fresh : Nat} (hs : RS E ρ s a w0) (hg : Ground s as T fresh sB) (hsrc : RS E ρ' s' a' w') (hsi : Since ρ s w0 T ρ' (mget s'.m) w')
    (hsl : ∀ i, i ∉ as → a'.tmps.getD i undef = a.tmps.getD i undef) (hsz : a'.tmps.size = a.tmps.size) {l : List It} {y : Its.T l} (hok : Its.ok s.nx fresh l = true) (hy : Its.take s' l = some y) :
    ∃ ρ2, RS E ρ2 (Its.put sB l y) a' w' ∧ Sub ρ ρ2 ∧ (∀ b, b < s.m.length → ρ2 b = ρ b) ∧ (Its.put sB l y).m.length = s.m.length + fresh ∧ (Its.put sB l y).t.length = s.t.length ∧
      ∀ k, Mine ρ2 (mget (Its.put sB l y).m) k → Mine ρ (mget sB.m) k ∨ w0.heap.size ≤ k ∨ From ρ (mget s.m) T k := by
  obtain ⟨t1, t2, t3⟩ := take_spec hy
  obtain ⟨o1, o2, o3, o4, o5⟩ := ok_spec hok
  have hB0 : RM ρ (mget sB.m) w0 := hs.m.less fun b x hb => (hg.m b x hb).2
  have far : ∀ b x q, mget sB.m b = some x → ρ b = some q → q.nil = false → q.blk < w0.heap.size ∧ ¬ From ρ (mget s.m) T q.blk := by
    intro b x q hb hq hn
    obtain ⟨h1, wr, h2, h3⟩ := hg.m b x hb
    obtain ⟨q', hq', hd⟩ := hs.m.held b wr x.2 h2
    rw [hq] at hq'; cases hq'
    refine ⟨(hd.2.2.2 hn).1.1, ?_⟩
    rintro ⟨b', hb', c', p', k1, k2, k3, k4⟩
    exact hs.m.excl b' c' b _ p' q k1 h2 (fun e => h1 (e ▸ hb')) k2 hq k3 hn k4
  have hB : RS E ρ sB a' w' := by
    refine ⟨hsrc.defers, by rw [hsz, hs.size, hg.tl], fun i => ?_, hB0.same (Sub.refl _) hsi.size fun b x q hb hq hn => ?_, fun b hb => hs.names b (by rw [hg.ml] at hb; omega), hs.g⟩
    · rcases hg.t i with e | ⟨e, hi⟩
      · rw [e]; trivial
      · rw [e, hsl i hi]; exact hs.t i
    · obtain ⟨h1, h2⟩ := far b x q hb hq hn
      exact hsi.keep _ h1 h2
  have hsrcMine : ∀ k L, From ρ' (mget s'.m) L k → w0.heap.size ≤ k ∨ From ρ (mget s.m) T k := fun k L hf => hsi.own k hf.mine
  obtain ⟨ρ2, hp⟩ := put_items hsrc s.m.length l y ρ sB t3 hB o1 (fun n hn => by
      obtain ⟨e1, e2⟩ := o2 n hn
      exact ⟨by rw [hg.ml]; exact e2, hs.names n e1, e1⟩) (fun b hb => ⟨(hsi.agree b (o5 b hb)).symm, o5 b hb⟩) o3 (fun b hb => ⟨by rw [hg.ml]; have := o4 b hb; exact Nat.lt_of_lt_of_le this (Nat.le_add_right _ _), (hsi.agree b (o4 b hb)).symm, o4 b hb⟩) t1 t2
    (fun b x q hb hq hn hf => by
      obtain ⟨h1, h2⟩ := far b x q hb hq hn
      rcases hsrcMine _ _ hf with h | h
      · omega
      · exact h2 h)
  refine ⟨ρ2, hp.rs, hp.sub, fun b hb => hp.agree b fun e => ?_, by rw [hp.mlen, hg.ml], by rw [hp.tlen, hg.tl], fun k hk => ?_⟩
  · have := (o2 b e).1
    exact absurd this (Nat.not_le.2 hb)
  · obtain ⟨b, c, p, h1, h2, h3, h4⟩ := hk
    rcases hp.from_ b _ p h1 h2 h3 with ⟨k1, k2⟩ | hf
    · exact .inl ⟨b, c, p, k1, k2, h3, h4⟩
    · rw [h4] at hf
      exact .inr (hsrcMine _ _ hf)

/-- Put on a ground that is locked: it goes on. -/
theorem put_again {ρ ρ' : Ren} {s s' sB : St} {a a' : Act} {w0 w' : World} {as T : List Nat} {fresh : Nat} (hs : RS E ρ s a w0) (hg : Ground s as T fresh sB) (hlock : ∀ b c, mget sB.m b ≠ some (true, c)) (hsrc : RS E ρ' s' a' w') (hsi : Since ρ s w0 T ρ' (mget s'.m) w')
    (hsl : ∀ i, i ∉ as → a'.tmps.getD i undef = a.tmps.getD i undef) (hsz : a'.tmps.size = a.tmps.size) {l : List It} {y : Its.T l} (hok : Its.ok s.nx fresh l = true) (hy : Its.take s' l = some y) :
    ∃ ρ2, RS E ρ2 (Its.put sB l y) a' w' ∧ Since ρ s w0 T ρ2 (mget (Its.put sB l y).m) w' ∧ (Its.put sB l y).m.length = s.m.length + fresh ∧ (Its.put sB l y).t.length = s.t.length := by
  obtain ⟨ρ2, h1, h2, h3, h4, h5, h6⟩ := put_since hs hg hsrc hsi hsl hsz hok hy
  refine ⟨ρ2, h1, ⟨hsi.size, hsi.os, hsi.output, hsi.tape, hsi.keep, fun k hk => ?_, h3⟩, h4, h5⟩
  rcases h6 k hk with ⟨b, c, _, hb, _⟩ | h
  · exact (hlock b c hb).elim
  · exact h

/-- Put at the end. -/
theorem put_end {ρ ρ' : Ren} {s s' sB : St} {a a' : Act} {w0 w' : World} {as T : List Nat} {fresh : Nat} (hs : RS E ρ s a w0) (hg : Ground s as T fresh sB) (hsrc : RS E ρ' s' a' w') (hsi : Since ρ s w0 T ρ' (mget s'.m) w')
    (hsl : ∀ i, i ∉ as → a'.tmps.getD i undef = a.tmps.getD i undef) (hsz : a'.tmps.size = a.tmps.size) {l : List It} {y : Its.T l} (hok : Its.ok s.nx fresh l = true) (hy : Its.take s' l = some y) :
    ∃ ρ2, RS E ρ2 (Its.put sB l y) a' w' ∧ Ext ρ (mget s.m) w0 ρ2 (mget (Its.put sB l y).m) w' ∧ (∀ b, b < s.m.length → ρ2 b = ρ b) ∧ (Its.put sB l y).m.length = s.m.length + fresh ∧ (Its.put sB l y).t.length = s.t.length := by
  obtain ⟨ρ2, h1, h2, h3, h4, h5, h6⟩ := put_since hs hg hsrc hsi hsl hsz hok hy
  refine ⟨ρ2, h1, ⟨h2, hsi.size, hsi.os, hsi.output, hsi.tape, fun k hk hm => hsi.keep k hk fun hf => hm hf.mine, fun k hk => ?_⟩, h3, h4, h5⟩
  rcases h6 k hk with ⟨b, c, p, k1, k2, k3, k4⟩ | h | h
  · obtain ⟨_, wr, e1, e2⟩ := hg.m b _ k1
    rw [e2 rfl] at e1
    exact .inr ⟨b, c, p, e1, k2, k3, k4⟩
  · exact .inl h
  · exact .inr h.mine

/-! ### The grounds -/

theorem ground_base (s : St) (c : Code) (fresh : Nat) (l : List It) : Ground s (asg c) (Its.gives s l ++ l.flatMap It.blks) fresh (dropM (l.flatMap It.blks) (baseSt s c fresh l)) where
  t := fun i => by
    have e : (dropM (l.flatMap It.blks) (baseSt s c fresh l)).tv i = if (asg c).contains i then .dead else s.tv i := by
      show tget (dropAt (asg c) 0 s.t) i = _
      rw [tget_dropAt, Nat.zero_add]
    rw [e]
    split
    · exact .inl rfl
    · rename_i h
      exact .inr ⟨rfl, by simpa using h⟩
  tl := length_dropAt _ _ _
  m := fun b x hb => by
    have e : mget (dropM (l.flatMap It.blks) (baseSt s c fresh l)).m b = if (l.flatMap It.blks).contains b then none else if (Its.gives s l).contains b then none else mget s.m b := by
      show mget (dropMAt _ 0 _) b = _
      rw [mget_dropMAt, Nat.zero_add]
      congr 1
      show mget (addM fresh (dropL (asg c) (dropM (Its.gives s l) s))).m b = _
      rw [mget_addM]
      show mget (dropMAt _ 0 _) b = _
      rw [mget_dropMAt, Nat.zero_add]
    rw [e] at hb
    split at hb
    · cases hb
    · rename_i h1
      split at hb
      · cases hb
      · rename_i h2
        refine ⟨?_, x.1, hb, fun h => h⟩
        simp only [List.mem_append, not_or]
        exact ⟨by simpa using h2, by simpa using h1⟩
  ml := by
    show (dropMAt _ 0 _).length = _
    rw [length_dropMAt]
    show ((dropMAt _ 0 s.m) ++ List.replicate fresh none).length = _
    rw [List.length_append, length_dropMAt, List.length_replicate]

theorem ground_lock (s : St) (c : Code) (fresh : Nat) (l : List It) : Ground s (asg c) (Its.gives s l ++ l.flatMap It.blks) fresh (dropM (l.flatMap It.blks) (lock (baseSt s c fresh l))) ∧
    ∀ b d, mget (dropM (l.flatMap It.blks) (lock (baseSt s c fresh l))).m b ≠ some (true, d) := by
  have g := ground_base s c fresh l
  have e : ∀ b, mget (dropM (l.flatMap It.blks) (lock (baseSt s c fresh l))).m b = lockX (mget (dropM (l.flatMap It.blks) (baseSt s c fresh l)).m b) := by
    intro b
    show mget (dropMAt _ 0 (lockL _)) b = lockX (mget (dropMAt _ 0 _) b)
    rw [mget_dropMAt, mget_dropMAt, mget_lockL]
    split <;> rfl
  refine ⟨⟨g.t, g.tl, fun b x hb => ?_, ?_⟩, fun b d hb => ?_⟩
  · rw [e] at hb
    cases hm : mget (dropM (l.flatMap It.blks) (baseSt s c fresh l)).m b with
    | none => rw [hm] at hb; cases hb
    | some z =>
      rw [hm] at hb
      cases hb
      obtain ⟨h1, wr, h2, _⟩ := g.m b z hm
      exact ⟨h1, wr, h2, fun h => by cases h⟩
  · rw [← g.ml]
    show (dropMAt _ 0 (lockL _)).length = (dropMAt _ 0 _).length
    rw [length_dropMAt, length_dropMAt, length_lockL]
  · rw [e] at hb
    cases hm : mget (dropM (l.flatMap It.blks) (baseSt s c fresh l)).m b with
    | none => rw [hm] at hb; cases hb
    | some z => rw [hm] at hb; cases hb

end Go.Ev

/-
  Regions that run in the order of the text.
-/
namespace Go.Ev

variable {E : Env}

mutual
theorem forceV_eq {R : Type} : ∀ (v : V) (K : V → Option R), forceV v K = K v
  | .dead, _ => rfl
  | .bool _, _ => rfl
  | .int _ _, _ => rfl
  | .str _, _ => rfl
  | .nilptr, _ => rfl
  | .ptr _ _ _ _ _, _ => rfl
  | .rptr _ _ _ _, _ => rfl
  | .nilsl, _ => rfl
  | .own _, _ => rfl
  | .sl _ _ _, _ => rfl
  | .nilfn, _ => rfl
  | .fn a b c, K => by simp only [forceV]; rw [forceVs_eq b, forceVs_eq c]
  | .niliface, _ => rfl
  | .iface a b, K => by simp only [forceV]; rw [forceV_eq b]
  | .ints _ _ _, _ => rfl
  | .bools _ _, _ => rfl
  | .agg a, K => by simp only [forceV]; rw [forceVs_eq a]
  | .tuple a, K => by simp only [forceV]; rw [forceVs_eq a]
  | .row _ _, _ => rfl
  | .rows _ _ _, _ => rfl
  | .brow _, _ => rfl
  | .srow _, _ => rfl
theorem forceVs_eq {R : Type} : ∀ (v : List V) (K : List V → Option R), forceVs v K = K v
  | [], _ => rfl
  | v :: r, K => by simp only [forceVs]; rw [forceV_eq v, forceVs_eq r]
end

theorem forceM_eq {R : Type} : ∀ (m : List (Option (Bool × V))) (K : List (Option (Bool × V)) → Option R), forceM m K = K m
  | [], _ => rfl
  | none :: r, K => by simp only [forceM]; rw [forceM_eq r]
  | some (true, v) :: r, K => by simp only [forceM]; rw [forceV_eq v, forceM_eq r]
  | some (false, v) :: r, K => by simp only [forceM]; rw [forceV_eq v, forceM_eq r]

theorem force_eq {R : Type} (s : St) (K : St → Option R) : force s K = K s := by
  unfold force
  rw [forceVs_eq, forceM_eq]

/-- From one state to a later one. -/
structure Went (E : Env) (as : List Nat) (ρ : Ren) (s : St) (a : Act) (w : World) (ρ' : Ren) (s' : St) (a' : Act) (w' : World) : Prop where
  rs : RS E ρ' s' a' w'
  ext : Ext ρ (mget s.m) w ρ' (mget s'.m) w'
  agree : ∀ b, b < s.m.length → ρ' b = ρ b
  ml : s.m.length ≤ s'.m.length
  tl : s'.t.length = s.t.length
  sl : ∀ i, i ∉ as → a'.tmps.getD i undef = a.tmps.getD i undef

theorem Went.refl {as : List Nat} {ρ : Ren} {s : St} {a : Act} {w : World} (h : RS E ρ s a w) : Went E as ρ s a w ρ s a w :=
  ⟨h, Ext.refl _ _ _, fun _ _ => rfl, Nat.le_refl _, rfl, fun _ _ => rfl⟩

theorem Went.trans {as as' : List Nat} {ρ ρ1 ρ2 : Ren} {s s1 s2 : St} {a a1 a2 : Act} {w w1 w2 : World} (h : Went E as ρ s a w ρ1 s1 a1 w1) (h' : Went E as' ρ1 s1 a1 w1 ρ2 s2 a2 w2) :
    Went E (as ++ as') ρ s a w ρ2 s2 a2 w2 where
  rs := h'.rs
  ext := h.ext.trans h'.ext
  agree := fun b hb => by rw [h'.agree b (Nat.lt_of_lt_of_le hb h.ml), h.agree b hb]
  ml := Nat.le_trans h.ml h'.ml
  tl := h'.tl.trans h.tl
  sl := fun i hi => by
    rw [h'.sl i (fun e => hi (List.mem_append_right _ e)), h.sl i (fun e => hi (List.mem_append_left _ e))]

theorem Went.mono {as as' : List Nat} {ρ ρ1 : Ren} {s s1 : St} {a a1 : Act} {w w1 : World} (h : Went E as ρ s a w ρ1 s1 a1 w1) (hs : ∀ i ∈ as, i ∈ as') : Went E as' ρ s a w ρ1 s1 a1 w1 :=
  ⟨h.rs, h.ext, h.agree, h.ml, h.tl, fun i hi => h.sl i fun e => hi (hs i e)⟩

theorem merge_full {s s' : St} {wr : List Nat} (hr : ∀ b, b ∉ wr → b < s.m.length → mget s'.m b = mget s.m b) : merge (mget s.m) wr s s' = mget s'.m := by
  funext b
  unfold merge
  split
  · rfl
  · rename_i h
    simp only [not_or] at h
    by_cases hb : b < s.m.length
    · exact (hr b h.1 hb).symm
    · rw [mget_ge (by omega), mget_ge (by have := h.2; omega)]

theorem put_getD {a : Act} {d : Nat} {v : Value} (i : Nat) : (a.put (some d) v).tmps.getD i undef = if i = d ∧ d < a.tmps.size then v else a.tmps.getD i undef := by
  simp only [Act.put, Array.getD_eq_getD_getElem?, Array.getElem?_setIfInBounds]
  by_cases h : d = i
  · subst h
    by_cases hd : d < a.tmps.size
    · simp [hd]
    · simp [hd]
  · have : ¬ i = d := fun e => h e.symm
    simp [h, this]

theorem tget_set' (l : List V) (d : Nat) (v : V) (j : Nat) : tget (l.set d v) j = if j = d ∧ d < l.length then v else tget l j := by
  induction l generalizing d j with
  | nil => simp
  | cons y r ih =>
    cases d with
    | zero => cases j <;> simp [tget]
    | succ d => cases j with
      | zero => simp [tget]
      | succ j => simp only [List.set_cons_succ, tget, ih d j, List.length_cons, Nat.add_right_cancel_iff, Nat.add_lt_add_iff_right]

theorem putD_spec {s s2 : St} {dst : Option Tmp} {x : V} (h : putD s dst x = some s2) :
    s2.m = s.m ∧ s2.t.length = s.t.length ∧ (∀ i, dst ≠ some i → s2.tv i = s.tv i) ∧ ∀ d, dst = some d → d < s.t.length ∧ s2.tv d = x := by
  cases dst with
  | none => cases h; exact ⟨rfl, rfl, fun _ _ => rfl, fun _ h => by cases h⟩
  | some d =>
    simp only [Go.Ev.putD] at h
    split at h
    · rename_i hd
      cases h
      refine ⟨rfl, by simp [Go.Ev.putT], fun i hi => ?_, fun d' hd' => ?_⟩
      · show tget (s.t.set d x) i = _
        rw [tget_set', if_neg (fun e => hi (by rw [e.1]))]
      · cases hd'
        refine ⟨hd, ?_⟩
        show tget (s.t.set d x) d = _
        rw [tget_set', if_pos ⟨rfl, hd⟩]
    · cases h

/-- The result put in its place. -/
theorem RS.putD {ρ : Ren} {s s' : St} {a : Act} {w : World} {dst : Option Tmp} {x : V} {v : Value} (h : RS E ρ s a w) (hp : putD s dst x = some s') (hv : VR ρ x v) :
    RS E ρ s' (a.put dst v) w ∧ s'.m = s.m ∧ s'.t.length = s.t.length ∧ ∀ i, i ∉ dst.toList → (a.put dst v).tmps.getD i undef = a.tmps.getD i undef := by
  cases dst with
  | none => cases hp; exact ⟨h, rfl, rfl, fun _ _ => rfl⟩
  | some d =>
    simp only [Go.Ev.putD] at hp
    split at hp
    · rename_i hd
      cases hp
      refine ⟨⟨h.defers, ?_, fun i => ?_, h.m, h.names, h.g⟩, rfl, by simp [Go.Ev.putT], fun i hi => ?_⟩
      · simp [Act.put, Go.Ev.putT, h.size]
      · rw [put_getD]
        show VR ρ (tget (s.t.set d x) i) _
        rw [tget_set', h.size]
        split
        · exact hv
        · exact h.t i
      · rw [put_getD]
        have : i ≠ d := fun e => hi (by simp [e])
        simp [this]
    · cases hp

theorem yielded_of {ρ : Ren} {s : St} {a : Act} {w : World} (h : RS E ρ s a w) {ops : Array Oper} {g : Nat} {d : Nat} (hd : (match ops[g]? with | some o => o.dst | none => none) = some d) :
    (∀ b, s.tv d = .bool b → yielded ops a.tmps g = some b ∧ a.tmps.getD d undef = .bool b) ∧ (s.tv d = .tuple [] → yielded ops a.tmps g = none) := by
  have hb : (ops[g]?).bind (·.dst) = some d := by
    cases ho : ops[g]? with
    | none => rw [ho] at hd; cases hd
    | some o => rw [ho] at hd; exact hd
  have ht := h.t d
  refine ⟨fun b e => ?_, fun e => ?_⟩
  · rw [e] at ht
    have hx := vr_bool ht
    refine ⟨?_, hx⟩
    unfold yielded
    rw [hb]
    show (match a.tmps[d]? with | some (.bool b) => some b | _ => none) = _
    rw [Array.getD_eq_getD_getElem?] at hx
    cases hy : a.tmps[d]? with
    | none => rw [hy] at hx; cases hx
    | some y => rw [hy] at hx; simp at hx; subst hx; rfl
  · rw [e] at ht
    obtain ⟨cs, hx, hc⟩ := ht
    replace hc : VRL ρ [] cs := hc
    simp only [VRL] at hc
    subst hc
    unfold yielded
    rw [hb]
    show (match a.tmps[d]? with | some (.bool b) => some b | _ => none) = _
    rw [Array.getD_eq_getD_getElem?] at hx
    cases hy : a.tmps[d]? with
    | none => rfl
    | some y => rw [hy] at hx; simp at hx; subst hx; rfl

/-- An operation done, its result put. -/
theorem went_op {full : Bool} {o : Oper} {ρ ρ' : Ren} {s s' s'' : St} {a : Act} {w w' : World} {x : V} {v : Value} {rd wr : List Nat} (hs : RS E ρ s a w) (hop : OpOK E full o s x s' rd wr) (hp : putD s' o.dst x = some s'')
    (h1 : ∀ b, ¬ (s.m.length ≤ b ∧ b < s'.m.length) → ρ' b = ρ b) (h2 : VR ρ' x v) (h3 : RM ρ' (merge (mget s.m) wr s s') w') (h4 : Ext ρ (mget s.m) w ρ' (merge (mget s.m) wr s s') w') :
    Went E o.dst.toList ρ s a w ρ' s'' (a.put o.dst v) w' := by
  rw [merge_full hop.rest] at h3 h4
  have hrs' : RS E ρ' s' a w' := by
    refine ⟨hs.defers, by rw [hop.t]; exact hs.size, fun i => ?_, h3, fun b hb => ?_, hs.g.mono h4.sub⟩
    · show VR ρ' (tget s'.t i) _
      rw [hop.t]
      exact (hs.t i).mono h4.sub
    · rw [h1 b (by omega)]
      exact hs.names b (Nat.le_trans hop.len hb)
  obtain ⟨k1, k2, k3, k4⟩ := hrs'.putD hp h2
  exact ⟨k1, by rw [k2]; exact h4, fun b hb => h1 b (by omega), by rw [k2]; exact hop.len, by rw [k3, hop.t], k4⟩

/-- What is asked of calls. -/
def CallsOK (E : Env) (full : Bool) {R : Type} (call : List Nat → CallF R) : Prop :=
  ∀ cx' cx f args s K r, call cx' cx f args s K = some r → ∃ x s' rd wr, K x s' rd wr = some r ∧ CallOK E full f args s x s' rd wr

theorem evOps_seq (hE : EnvOK E) {R : Type} {call : List Nat → CallF R} (hcall : CallsOK E true call) {rid : Nat} {cx : List Nat} {ops : Array Oper} :
    ∀ (l : List Oper) (j : Nat) (s : St) (tr : List (List Nat × List Nat)) (K : St → List (List Nat × List Nat) → Option R) (r : R), evOps E call rid cx ops l j s tr K = some r → (∀ i, ops[j + i]? = l[i]?) →
      ∃ s' tr', K s' tr' = some r ∧ s.m.length ≤ s'.m.length ∧ ∀ (Q : Exit → Act → World → Prop) (ρ : Ren) (a : Act) (w : World), True → RS E ρ s a w →
      (∀ ρ' a' w', Went E (l.filterMap (·.dst)) ρ s a w ρ' s' a' w' → Q .normal a' w') → wpOps E.P ops Q (List.range' j l.length) a w
  | [], j, s, tr, K, r, h, _ => ⟨s, tr, h, Nat.le_refl _, fun Q ρ a w _ hs hQ => hQ ρ a w (Went.refl hs)⟩
  | o :: l, j, s, tr, K, r, h, hl => by
    have ho : ops[j]? = some o := by have := hl 0; simpa using this
    have hl' : ∀ i, ops[j + 1 + i]? = l[i]? := fun i => by
      have := hl (i + 1)
      rw [show j + 1 + i = j + (i + 1) by omega]
      simpa using this
    have hmono : ∀ i, i ∈ o.dst.toList ++ l.filterMap (·.dst) → i ∈ (o :: l).filterMap (·.dst) := by
      intro i hi
      cases hd : o.dst with
      | none => rw [hd] at hi; simpa [List.filterMap_cons, hd] using hi
      | some d => rw [hd] at hi; simpa [List.filterMap_cons, hd] using hi
    have hrun : ∀ (s1 : St), s1.m = s.m → s1.t.length = s.t.length → (evOp E (call ((rid * 1000 + j) :: cx)) cx s1 o fun x s' rd wr => match putD s' o.dst x with
        | some s'' => evOps E call rid cx ops l (j + 1) s'' ((rd, wr ++ List.range' s1.nx (s'.nx - s1.nx)) :: tr) K
        | none => none) = some r → ∃ s' tr', K s' tr' = some r ∧ s.m.length ≤ s'.m.length ∧ ∀ (Q : Exit → Act → World → Prop) (ρ : Ren) (a : Act) (w : World), True → RS E ρ s1 a w →
          (∀ ρ' a' w', Went E ((o :: l).filterMap (·.dst)) ρ s a w ρ' s' a' w' → Q .normal a' w') →
          o.wp E.P a w (wpOps E.P ops Q (List.range' (j + 1) l.length)) Q := by
      intro s1 hm ht h
      obtain ⟨x, s', rd, wr, hk, hop⟩ := evOp_ok (full := true) hE (hcall _) h
      split at hk
      · rename_i s'' hp
        obtain ⟨sf, trf, hK, hlf, hrest⟩ := evOps_seq hE hcall l (j + 1) s'' _ K r hk hl'
        refine ⟨sf, trf, hK, by rw [(putD_spec hp).1] at hlf; rw [← hm]; exact Nat.le_trans hop.len hlf, fun Q ρ a w hlo hs1 hQ => ?_⟩
        rcases hop.run a w ρ (mget s1.m) (fun y _ => eopd_ok hs1 y) hs1.m hs1.g (fun _ _ => rfl) (fun b h1 _ => ⟨hs1.names b h1, mget_ge h1⟩) (fun _ => hs1.names) Q (wpOps E.P ops Q (List.range' (j + 1) l.length)) hlo (fun ρ' w' v h1 h2 h3 h4 => by
          have hw := went_op hs1 hop hp h1 h2 h3 h4
          have hw' : Went E o.dst.toList ρ s a w ρ' s'' (a.put o.dst v) w' := ⟨hw.rs, by rw [← hm]; exact hw.ext, by rw [← hm]; exact hw.agree, by rw [← hm]; exact hw.ml, by rw [← ht]; exact hw.tl, hw.sl⟩
          exact hrest Q ρ' _ w' hlo hw.rs fun ρ2 a2 w2 hw2 => hQ ρ2 a2 w2 ((hw'.trans hw2).mono hmono)) with h | h
        · exact h
        · exact h.elim
      · cases hk
    have hskip : ∀ (s1 : St), s1.m = s.m → s1.t.length = s.t.length → (match putD s1 o.dst (.tuple []) with
        | some s'' => evOps E call rid cx ops l (j + 1) s'' (([], []) :: tr) K
        | none => none) = some r → ∃ s' tr', K s' tr' = some r ∧ s.m.length ≤ s'.m.length ∧ ∀ (Q : Exit → Act → World → Prop) (ρ : Ren) (a : Act) (w : World), True → RS E ρ s1 a w →
          (∀ ρ' a' w', Went E ((o :: l).filterMap (·.dst)) ρ s a w ρ' s' a' w' → Q .normal a' w') → wpOps E.P ops Q (List.range' (j + 1) l.length) (a.put o.dst undef) w := by
      intro s1 hm ht h
      split at h
      · rename_i s'' hp
        obtain ⟨sf, trf, hK, hlf, hrest⟩ := evOps_seq hE hcall l (j + 1) s'' _ K r h hl'
        refine ⟨sf, trf, hK, by rw [(putD_spec hp).1, hm] at hlf; exact hlf, fun Q ρ a w hlo hs1 hQ => ?_⟩
        obtain ⟨k1, k2, k3, k4⟩ := hs1.putD (v := undef) hp ⟨[], rfl, rfl⟩
        have hw : Went E o.dst.toList ρ s a w ρ s'' (a.put o.dst undef) w := ⟨k1, by rw [k2, hm]; exact Ext.refl _ _ _, fun _ _ => rfl, by rw [k2, hm]; exact Nat.le_refl _, by rw [k3, ht], k4⟩
        exact hrest Q ρ _ w hlo k1 fun ρ2 a2 w2 hw2 => hQ ρ2 a2 w2 ((hw.trans hw2).mono hmono)
      · cases h
    unfold evOps at h
    simp only at h
    simp only [List.length_cons, List.range'_succ]
    cases hg : o.guard with
    | none =>
      rw [hg] at h
      obtain ⟨sf, trf, hK, hlf, hrest⟩ := hrun s rfl rfl h
      refine ⟨sf, trf, hK, hlf, fun Q ρ a w hlo hs hQ => ?_⟩
      rw [wpOps_cons]
      unfold wpOp
      simp only [ho, Region.wanted, hg, if_true]
      exact .inl (hrest Q ρ a w hlo hs hQ)
    | some gw =>
      obtain ⟨g, want⟩ := gw
      rw [hg] at h
      simp only at h
      split at h
      · rename_i d hd
        have hset : ∀ b (ρ : Ren) (a : Act) (w : World), RS E ρ s a w → s.tv d = .bool b → RS E ρ (putT s d (.bool b)) a w := fun b ρ a w hs e => hs.putT d _ (by rw [((yielded_of hs (g := g) hd).1 b e).2]; rfl)
        have hlen : ∀ b, (putT s d (.bool b)).t.length = s.t.length := fun b => by simp [Go.Ev.putT]
        split at h
        · rename_i b hb
          by_cases hbw : b = want
          · have h' : (evOp E (call ((rid * 1000 + j) :: cx)) cx (putT s d (.bool b)) o fun x s' rd wr => match putD s' o.dst x with
                | some s'' => evOps E call rid cx ops l (j + 1) s'' ((rd, wr ++ List.range' (putT s d (.bool b)).nx (s'.nx - (putT s d (.bool b)).nx)) :: tr) K
                | none => none) = some r := by
              subst hbw
              cases b <;> simp only [br_true, br_false] at h <;> exact h
            obtain ⟨sf, trf, hK, hlf, hrest⟩ := hrun (putT s d (.bool b)) rfl (hlen b) h'
            refine ⟨sf, trf, hK, hlf, fun Q ρ a w hlo hs hQ => ?_⟩
            rw [wpOps_cons]
            unfold wpOp
            obtain ⟨e1, _⟩ := (yielded_of hs (g := g) hd).1 b hb
            simp only [ho, Region.wanted, hg, e1, hbw, beq_self_eq_true, if_true]
            exact .inl (hrest Q ρ a w hlo (hset b ρ a w hs hb) hQ)
          · have h' : (match putD (putT s d (.bool b)) o.dst (.tuple []) with
                | some s'' => evOps E call rid cx ops l (j + 1) s'' (([], []) :: tr) K
                | none => none) = some r := by
              cases want <;> cases b <;> first | exact (hbw rfl).elim | (simp only [br_true, br_false] at h; exact h)
            obtain ⟨sf, trf, hK, hlf, hrest⟩ := hskip (putT s d (.bool b)) rfl (hlen b) h'
            refine ⟨sf, trf, hK, hlf, fun Q ρ a w hlo hs hQ => ?_⟩
            rw [wpOps_cons]
            unfold wpOp
            obtain ⟨e1, _⟩ := (yielded_of hs (g := g) hd).1 b hb
            have : (some b == some want) = false := by simpa using hbw
            simp only [ho, Region.wanted, hg, e1, this, Bool.false_eq_true, if_false]
            exact hrest Q ρ a w hlo (hset b ρ a w hs hb) hQ
        · rename_i hb
          obtain ⟨sf, trf, hK, hlf, hrest⟩ := hskip s rfl rfl h
          refine ⟨sf, trf, hK, hlf, fun Q ρ a w hlo hs hQ => ?_⟩
          rw [wpOps_cons]
          unfold wpOp
          simp only [ho, Region.wanted, hg, (yielded_of hs (g := g) hd).2 hb, show ((none : Option Bool) == some want) = false by rfl, Bool.false_eq_true, if_false]
          exact hrest Q ρ a w hlo hs hQ
        · cases h
      · cases h

end Go.Ev
