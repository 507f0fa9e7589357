/-
  One operation: what the evaluator says of it is so, in whatever world, and whatever else the memory holds.
-/
import Derived.Test.YthdojgehgcknmaaDoorM1
import Derived.Laws.IdiomStrings
namespace Go.Ev

/-- memory behind an operation: what it wrote, what it made; the rest as it was -/
def merge (m1 : Mem) (wr : List Nat) (s s' : St) : Mem := fun b => if b ∈ wr ∨ (s.m.length ≤ b ∧ b < s'.m.length) then mget s'.m b else m1 b

/-- Names without which no state is: the package's variables. -/
def GOK (E : Env) (ρ : Ren) : Prop := ∀ g n, E.gsz g = n + 1 → ∃ p, ρ g = some p ∧ p.nil = false ∧ p.blk = g ∧ p.base = 0 ∧ n + 1 ≤ p.cn

/-- The operation leaves x (in its place), and a world for the memory behind it. -/
structure OpOK (E : Env) (full : Bool) (o : Oper) (s : St) (x : V) (s' : St) (rd wr : List Nat) : Prop where
  len : s.m.length ≤ s'.m.length
  t : s'.t = s.t
  rest : ∀ b, b ∉ wr → b < s.m.length → mget s'.m b = mget s.m b
  wrlt : ∀ b ∈ wr, b < s.m.length
  run : ∀ (a : Act) (w : World) (ρ : Ren) (m1 : Mem), (∀ y ∈ o.op.operands, VR ρ (eopd E s y) (a.eval y)) → RM ρ m1 w → GOK E ρ →
    (∀ b, b ∈ rd ∨ b ∈ wr → m1 b = mget s.m b) → (∀ b, s.m.length ≤ b → b < s'.m.length → ρ b = none ∧ m1 b = none) → (full = true → ∀ b, s.m.length ≤ b → ρ b = none) →
    ∀ (Q : Exit → Act → World → Prop) (next : Act → World → Prop), True →
    (∀ (ρ' : Ren) (w' : World) (v : Value), (∀ b, ¬ (s.m.length ≤ b ∧ b < s'.m.length) → ρ' b = ρ b) → VR ρ' x v → RM ρ' (merge m1 wr s s') w' → Ext ρ m1 w ρ' (merge m1 wr s s') w' → next (a.put o.dst v) w') →
    o.wp E.P a w next Q ∨ False

theorem merge_same {m1 : Mem} {s : St} : merge m1 [] s s = m1 := by
  funext b
  have : ¬ (s.m.length ≤ b ∧ b < s.m.length) := by omega
  simp [merge, this]

/-- An operation that leaves the world alone, or moves the count of draws. -/
theorem OpOK.read {E : Env} {full : Bool} {o : Oper} {s : St} {x : V} {rd : List Nat}
    (h : ∀ (a : Act) (w : World) (ρ : Ren) (m1 : Mem), (∀ y ∈ o.op.operands, VR ρ (eopd E s y) (a.eval y)) → RM ρ m1 w → (∀ b, b ∈ rd → m1 b = mget s.m b) →
      ∃ v, (execOp a.eval o).run E.P w = .ok (.value v) w ∧ VR ρ x v) : OpOK E full o s x s rd [] where
  len := Nat.le_refl _
  t := rfl
  rest := fun _ _ _ => rfl
  wrlt := fun _ h => by cases h
  run := fun a w ρ m1 hv hm _ hr _ _ Q next _ hn => by
    obtain ⟨v, hv1, hv2⟩ := h a w ρ m1 hv hm (fun b hb => hr b (.inl hb))
    left
    unfold Oper.wp
    rw [hv1]
    have := hn ρ w v (fun _ _ => rfl) hv2 (by rw [merge_same]; exact hm) (by rw [merge_same]; exact Ext.refl _ _ _)
    exact this

theorem setM_get {m : List (Option (Bool × V))} {b : Nat} {x : Option (Bool × V)} (h : b < m.length) (c : Nat) : mget (m.set b x) c = if c = b then x else mget m c := by
  induction m generalizing b c with
  | nil => simp at h
  | cons y r ih =>
    cases b with
    | zero => cases c <;> simp [mget]
    | succ b =>
      cases c with
      | zero => simp [mget]
      | succ c =>
        simp only [List.set_cons_succ, mget]
        rw [ih (by simpa using h)]
        simp

theorem mget_lt {m : List (Option (Bool × V))} {b : Nat} {x : Bool × V} (h : mget m b = some x) : b < m.length := by
  induction m generalizing b with
  | nil => simp [mget] at h
  | cons y r ih =>
    cases b with
    | zero => simp
    | succ b => simp [mget] at h; have := ih h; simp; omega

theorem mget_append_left {m n : List (Option (Bool × V))} {b : Nat} (h : b < m.length) : mget (m ++ n) b = mget m b := by
  induction m generalizing b with
  | nil => simp at h
  | cons y r ih =>
    cases b with
    | zero => rfl
    | succ b => simp only [List.cons_append, mget]; exact ih (by simpa using h)
theorem mget_append_right {m n : List (Option (Bool × V))} {b : Nat} : mget (m ++ n) (m.length + b) = mget n b := by
  induction m with
  | nil => simp
  | cons y r ih =>
    rw [show (y :: r).length + b = (r.length + b) + 1 by simp; omega]
    simp only [List.cons_append, mget]
    exact ih
theorem mget_ge {m : List (Option (Bool × V))} {b : Nat} (h : m.length ≤ b) : mget m b = none := by
  induction m generalizing b with
  | nil => rfl
  | cons y r ih =>
    cases b with
    | zero => simp at h
    | succ b => simp only [mget]; exact ih (by simpa using h)

theorem mget_newB (s : St) (c : V) (b : Nat) : mget (newB s c).m b = if b = s.m.length then some (true, c) else mget s.m b := by
  unfold newB
  by_cases h : b < s.m.length
  · rw [mget_append_left h, if_neg (by omega)]
  · by_cases e : b = s.m.length
    · subst e
      rw [if_pos rfl]
      have := mget_append_right (m := s.m) (n := [some (true, c)]) (b := 0)
      simpa [mget] using this
    · rw [if_neg e, mget_ge (by simp; omega), mget_ge (by omega)]

section
variable {E : Env} {R : Type}

theorem HeldAt.part {w : World} {p : Info} {cs : List Value} (h : HeldAt w p cs) (pos n : Nat) : ∀ (j : Nat) (v : Value), (cut cs pos n)[j]? = some v → w.cell? ((⟨p.blk, p.base + pos, none⟩ : Addr).add j) = some v := by
  intro j v hv
  rw [addr_add]
  have : (cut cs pos n)[j]? = if j < n then cs[pos + j]? else none := by
    simp only [cut]
    rw [List.getElem?_take]
    split
    · rw [List.getElem?_drop]
    · rfl
  rw [this] at hv
  split at hv
  · have := h _ _ hv
    rwa [show p.base + (pos + j) = p.base + pos + j by omega] at this
  · cases hv

/-- Reading a variable. -/
theorem run_loadVar {ρ : Ren} {w : World} {p : Info} {cs : List Value} {t : TypeId} {pos : Nat} {v : V} (hz : 0 < E.size t) (hh : HeldAt w p cs) (hp : pos + E.size t ≤ cs.length)
    (hs : SubPost ρ cs pos (E.agg t) (E.size t) v) : ∃ x, (loadVar t ⟨p.blk, p.base + pos, none⟩).run E.P w = .ok x w ∧ VR ρ v x := by
  unfold loadVar
  rw [Sem.run_bind, run_agg hz]
  cases ha : E.agg t with
  | true =>
    rw [ha] at hs
    refine ⟨_, ?_, hs.1 rfl⟩
    simp only [Result.andThen, if_true]
    rw [Sem.run_bind, run_size hz]
    simp only [Result.andThen]
    have hl := run_loadCells_list (P := E.P) w ⟨p.blk, p.base + pos, none⟩ (cut cs pos (E.size t)) (hh.part pos _)
    rw [cut_length _ _ _ hp] at hl
    rw [Sem.run_bind, hl]
    rfl
  | false =>
    rw [ha] at hs
    obtain ⟨x, hx, hv⟩ := hs.2 rfl
    refine ⟨x, ?_, hv⟩
    simp only [Result.andThen, Bool.false_eq_true, if_false]
    rw [run_load, hh _ _ hx]

theorem eLoad_ok {s : St} {t : TypeId} {x : V} {K : V → List Nat → Option R} {r : R} (h : eLoad E s t x K = some r) :
    ∃ v rd, K v rd = some r ∧ ∀ (ρ : Ren) (m1 : Mem) (xv : Value) (w : World), VR ρ x xv → RM ρ m1 w → (∀ b, b ∈ rd → m1 b = mget s.m b) →
      ∃ z, (Instr.loadAt t xv).run E.P w = .ok z w ∧ VR ρ v z := by
  unfold eLoad at h
  split at h
  · rename_i b base ext off sz
    split at h
    · rename_i hz
      split at h
      · rename_i wr c hb
        obtain ⟨v, hk, hs⟩ := sub_ok' h
        refine ⟨v, [b], hk, fun ρ m1 xv w hx hm hr => ?_⟩
        obtain ⟨p, h1, h2, h3, h4, rfl⟩ := vr_ptr hx
        have hb1 := (hr b (by simp)).trans hb
        obtain ⟨q, hq, hd⟩ := hm.held b wr c hb1
        rw [h1] at hq; cases hq
        obtain ⟨⟨cs, hc, hl, hh⟩, _⟩ := hd
        have hs := hs ρ cs hc h3 (by omega) (by omega) hz.1
        obtain ⟨z, hz1, hz2⟩ := run_loadVar (E := E) hz.1 (hh h2) (by omega) hs
        exact ⟨z, hz1, hz2⟩
      · cases h
    · cases h
  · rename_i b i off sz
    split at h
    · rename_i hz
      split at h
      · rename_i wr k n l hb
        have key : ∀ v, (∀ (l' : List Int), l' = atl l i.toNat → l'.length = n → (∀ y ∈ l', InR k y) → ∀ ρ, off.toNat + E.size t ≤ n → SubPost ρ (l'.map (Value.int k)) off.toNat (E.agg t) (E.size t) v) →
            ∀ (ρ : Ren) (m1 : Mem) (xv : Value) (w : World), VR ρ (.rptr b i off sz) xv → RM ρ m1 w → (∀ b', b' ∈ [b] → m1 b' = mget s.m b') →
              ∃ z, (Instr.loadAt t xv).run E.P w = .ok z w ∧ VR ρ v z := by
          intro v hv ρ m1 xv w hx hm hr
          obtain ⟨p, h1, h2, h3, h4, h5, h6, rfl⟩ := vr_rptr hx
          have hb1 := (hr b (by simp)).trans hb
          obtain ⟨q, hq, hd⟩ := hm.held b wr _ hb1
          rw [h1] at hq; cases hq
          obtain ⟨⟨cs, hc, hl, hh⟩, ⟨e1, e2⟩, _⟩ := hd
          obtain ⟨rfl, hr1, hr2⟩ := hc
          have hlt : i.toNat < l.length := by omega
          have hl' := hr1 _ (atl_mem hlt)
          have hs := hv _ rfl hl' (hr2 _ (atl_mem hlt)) ρ (by omega)
          -- the row within all cells
          have hflat : ∃ c1 c2, l.flatten.map (Value.int k) = c1 ++ ((atl l i.toNat).map (Value.int k) ++ c2) ∧ c1.length = i.toNat * n := by
            refine ⟨(l.take i.toNat).flatten.map (Value.int k), (l.drop (i.toNat + 1)).flatten.map (Value.int k), ?_, ?_⟩
            · rw [← List.map_append, ← List.map_append]
              congr 1
              have e : l = l.take i.toNat ++ (atl l i.toNat :: l.drop (i.toNat + 1)) := by
                have : atl l i.toNat = l[i.toNat] := by simp [atl, List.getD, List.getElem?_eq_getElem hlt]
                rw [this, ← List.drop_eq_getElem_cons hlt, List.take_append_drop]
              conv => lhs; rw [e]
              simp
            · rw [List.length_map, List.length_flatten]
              have : ∀ (ll : List (List Int)), (∀ x ∈ ll, x.length = n) → (ll.map List.length).sum = ll.length * n := by
                intro ll
                induction ll with
                | nil => simp
                | cons y r ih =>
                  intro hy
                  simp only [List.map_cons, List.sum_cons, List.length_cons]
                  rw [ih (fun x hx => hy x (by simp [hx])), hy y (by simp), Nat.add_mul]
                  omega
              rw [this _ (fun x hx => hr1 x (List.mem_of_mem_take hx)), List.length_take, Nat.min_eq_left (by omega)]
          obtain ⟨c1, c2, hfe, hfl⟩ := hflat
          have hs2 := (hs.left (c2 := c2) (by simp; omega) hz.1).right (c1 := c1)
          rw [← hfe] at hs2
          have hlen : c1.length + (atl l i.toNat).length ≤ (l.flatten.map (Value.int k)).length := by rw [hfe]; simp
          obtain ⟨z, hz1, hz2⟩ := run_loadVar (E := E) hz.1 (hh h2) (by omega) hs2
          refine ⟨z, ?_, hz2⟩
          rw [hfl] at hz1
          rw [e2]
          exact hz1
        split at h
        · rename_i ha
          split at h
          · rename_i e
            refine ⟨_, _, h, key _ fun l' hl he hr ρ hle => ⟨fun _ => ?_, by simp [ha]⟩⟩
            subst hl
            rw [show off.toNat = 0 by omega, cut_all _ _ (by simp [he, e])]
            exact VR_ints he hr
          · refine ⟨_, _, h, key _ fun l' hl he hr ρ hle => ⟨fun _ => ?_, by simp [ha]⟩⟩
            subst hl
            rw [cut_map]
            exact VR_ints (cut_length _ _ _ (by omega)) fun x hx => hr x (cut_mem hx)
        · rename_i ha
          refine ⟨_, _, h, key _ fun l' hl he hr ρ hle => ⟨by simp [ha], fun _ => ?_⟩⟩
          subst hl
          have := hz.1
          exact ⟨.int k (at0 (atl l i.toNat) off.toNat), by rw [List.getElem?_map, at0_some (by omega)]; rfl, VR_int (hr _ (at0_mem (by omega)))⟩
      · cases h
    · cases h
  · cases h

/-- Writing a variable. -/
theorem run_storeVar {w : World} {p : Info} {t : TypeId} {pos : Nat} {v : Value} (hz : 0 < E.size t) (ho : Owned w p) (hl : v.cells.size = E.size t) (hp : pos + v.cells.size ≤ p.psz)
    (h1 : ∀ x ∈ v.cells.toList, x.oneCell' = true) : (storeVar t ⟨p.blk, p.base + pos, none⟩ v).run E.P w = .ok () (w.setCells p.blk pos v.cells.toList) := by
  unfold storeVar
  rw [Sem.run_bind, run_size hz]
  simp only [Result.andThen, hl, ne_eq, not_true_eq_false, if_false]
  have := run_storeCells_cells (P := E.P) p.blk pos v.cells.toList 0 w (fun j hj => (ho.2.2 (pos + 0 + j) (by simp at hj; omega)).1) (fun j hj => (ho.2.2 (pos + 0 + j) (by simp at hj; omega)).2) h1
  rw [ho.1, Nat.zero_add]
  simpa using this

/-- A state in which one block's content is another one. -/
structure Wrote (s s' : St) (b : Nat) (c c' : V) : Prop where
  was : mget s.m b = some (true, c)
  now : s' = putM s b (some (true, c'))

theorem Wrote.lt {s s' : St} {b : Nat} {c c' : V} (h : Wrote s s' b c c') : b < s.m.length := mget_lt h.was
theorem Wrote.len {s s' : St} {b : Nat} {c c' : V} (h : Wrote s s' b c c') : s'.m.length = s.m.length := by rw [h.now]; simp [putM]
theorem Wrote.rest {s s' : St} {b : Nat} {c c' : V} (h : Wrote s s' b c c') (x : Nat) (hx : x ≠ b) : mget s'.m x = mget s.m x := by
  rw [h.now]; simp only [putM]; rw [setM_get h.lt, if_neg hx]
theorem Wrote.at {s s' : St} {b : Nat} {c c' : V} (h : Wrote s s' b c c') : mget s'.m b = some (true, c') := by
  rw [h.now]; simp only [putM]; rw [setM_get h.lt, if_pos rfl]
theorem Wrote.merge {s s' : St} {b : Nat} {c c' : V} (h : Wrote s s' b c c') (m1 : Mem) : merge m1 [b] s s' = fun x => if x = b then some (true, c') else m1 x := by
  funext x
  have hl := h.len
  by_cases e : x = b
  · subst e; simp [Go.Ev.merge, h.at]
  · have : ¬ (s.m.length ≤ x ∧ x < s'.m.length) := by omega
    simp [Go.Ev.merge, e, this]

theorem sum_len {n : Nat} : ∀ (l : List (List Int)), (∀ x ∈ l, x.length = n) → l.flatten.length = l.length * n
  | [], _ => by simp
  | x :: r, h => by
    simp only [List.flatten_cons, List.length_append, List.length_cons]
    rw [sum_len r (fun y hy => h y (by simp [hy])), h x (by simp), Nat.add_mul]
    omega

theorem rows_split {l : List (List Int)} {n i : Nat} (hn : ∀ x ∈ l, x.length = n) (hi : i < l.length) :
    ∃ c1 c2 : List Int, c1.length = i * n ∧ l.flatten = c1 ++ (atl l i ++ c2) ∧ ∀ y, (l.set i y).flatten = c1 ++ (y ++ c2) := by
  have hg : atl l i = l[i] := by simp [atl, List.getD, List.getElem?_eq_getElem hi]
  refine ⟨(l.take i).flatten, (l.drop (i + 1)).flatten, ?_, ?_, fun y => ?_⟩
  · rw [sum_len _ (fun x hx => hn x (List.mem_of_mem_take hx)), List.length_take, Nat.min_eq_left (by omega)]
  · have e : (l.take i ++ l[i] :: l.drop (i + 1)).flatten = l.flatten := by rw [← List.drop_eq_getElem_cons hi, List.take_append_drop]
    rw [hg, ← e, List.flatten_append, List.flatten_cons]
  · rw [List.set_eq_take_append_cons_drop, if_pos hi]
    simp

theorem rows_paste {l : List (List Int)} {n i off : Nat} {xs : List Int} (hn : ∀ x ∈ l, x.length = n) (hi : i < l.length) (ho : off + xs.length ≤ n) :
    paste l.flatten (i * n + off) xs = (l.set i (paste (atl l i) off xs)).flatten := by
  obtain ⟨c1, c2, h1, h2, h3⟩ := rows_split hn hi
  have hl := hn _ (atl_mem hi)
  rw [h2, h3, ← h1, paste_right, paste_left _ _ _ _ (by omega)]

theorem eStore_ok {s : St} {t : TypeId} {x u : V} {K : St → List Nat → Option R} {r : R} (h : eStore E s t x u K = some r) :
    ∃ s' b c c', K s' [b] = some r ∧ Wrote s s' b c c' ∧ ∀ (ρ : Ren) (m1 : Mem) (xv uv : Value) (w : World), VR ρ x xv → VR ρ u uv → RM ρ m1 w → m1 b = mget s.m b →
      ∃ w', (Instr.storeAt t xv uv).run E.P w = .ok () w' ∧ RM ρ (fun y => if y = b then some (true, c') else m1 y) w' ∧ Ext ρ m1 w ρ (fun y => if y = b then some (true, c') else m1 y) w' := by
  unfold eStore at h
  split at h
  · rename_i hsz
    split at h
    · rename_i b base ext off sz
      split at h
      · rename_i hz
        split at h
        · rename_i c hb
          obtain ⟨c', hk, hs⟩ := upd_ok' h
          refine ⟨_, b, c, c', hk, ⟨hb, rfl⟩, fun ρ m1 xv uv w hx hu hm hr => ?_⟩
          obtain ⟨p, h1, h2, h3, h4, rfl⟩ := vr_ptr hx
          have hb1 := hr.trans hb
          obtain ⟨q, hq, hd⟩ := hm.held b true c hb1
          rw [h1] at hq; cases hq
          obtain ⟨⟨cs, hc, hl, hh⟩, he, _, hno⟩ := hd
          have ho := (hno h2).2 rfl
          have hf : u.flat = true := hsz.2
          have hcu := VR_cells hf hu
          have hlu : uv.cells.toList.length = E.size t := by rw [Cells.length u _ hf hcu, hsz.1]
          have hcs := hs ρ cs uv.cells.toList hc hcu hf h3 (by omega) (by omega) (by omega)
          have hpsz := ho.2.1
          refine ⟨_, run_storeVar (E := E) hz.1 ho (by simpa using hlu) (by simp at hlu; omega) (Cells.one u _ (fun vs e => by subst e; simp [V.flat] at hf) hcu), ?_, Ext.write b c c' p _ _ hb1 h1 h2⟩
          exact hm.write b c c' p cs (base + off.toNat) _ hb1 h1 h2 hl (hh h2) (by omega) hcs.1 (hcs.2.1 p)
        · cases h
      · cases h
    · rename_i b i off sz
      split at h
      · rename_i hz
        split at h
        · rename_i k n l hb
          have key : ∀ (xs : List Int) (l' : List (List Int)), (∀ x ∈ xs, InR k x) → (∀ ρ cs, Cells ρ u cs → cs = xs.map (Value.int k)) →
              ((∀ x ∈ l, x.length = n) → i.toNat < l.length → off.toNat + xs.length ≤ n → l' = l.set i.toNat (paste (atl l i.toNat) off.toNat xs)) →
              ∀ (ρ : Ren) (m1 : Mem) (xv uv : Value) (w : World), VR ρ (.rptr b i off sz) xv → VR ρ u uv → RM ρ m1 w → m1 b = mget s.m b →
                ∃ w', (Instr.storeAt t xv uv).run E.P w = .ok () w' ∧ RM ρ (fun y => if y = b then some (true, .rows k n l') else m1 y) w' ∧ Ext ρ m1 w ρ (fun y => if y = b then some (true, .rows k n l') else m1 y) w' := by
            intro xs l' hxr hxs hl' ρ m1 xv uv w hx hu hm hr
            obtain ⟨p, h1, h2, h3, h4, h5, h6, rfl⟩ := vr_rptr hx
            have hb1 := hr.trans hb
            obtain ⟨q, hq, hd⟩ := hm.held b true _ hb1
            rw [h1] at hq; cases hq
            obtain ⟨⟨cs, hc, hl, hh⟩, ⟨e1, e2⟩, _, hno⟩ := hd
            obtain ⟨rfl, hr1, hr2⟩ := hc
            have ho := (hno h2).2 rfl
            have hcu := VR_cells hsz.2 hu
            have hlu : uv.cells.toList.length = E.size t := by rw [Cells.length u _ hsz.2 hcu, hsz.1]
            have hxe := hxs ρ _ hcu
            have hxl : xs.length = E.size t := by rw [← hlu, hxe, List.length_map]
            have hlt : i.toNat < l.length := by omega
            have hl' := hl' hr1 hlt (by omega)
            have hpsz := ho.2.1
            obtain ⟨c1, c2, hc1, hc2, _⟩ := rows_split hr1 hlt
            have hrow := hr1 _ (atl_mem hlt)
            have hfl : i.toNat * n + n ≤ l.flatten.length := by rw [hc2]; simp; omega
            rw [List.length_map] at hl
            rw [e2]
            refine ⟨_, run_storeVar (E := E) hz.1 ho (by simpa using hlu) (by simp at hlu; omega) (Cells.one u _ (fun vs e => by have := hsz.2; subst e; simp [V.flat] at this) hcu), ?_, Ext.write b _ _ p _ _ hb1 h1 h2⟩
            refine hm.write b _ _ p _ (i.toNat * n + off.toNat) _ hb1 h1 h2 (by rw [List.length_map]; exact hl) (hh h2) (by rw [List.length_map]; omega) ?_ ?_
            · rw [hxe, paste_map, rows_paste hr1 hlt (by omega), hl']
              refine ⟨rfl, fun x hx => ?_, fun x hx y hy => ?_⟩
              · rcases List.mem_or_eq_of_mem_set hx with hx | hx
                · exact hr1 x hx
                · rw [hx, paste_length _ _ _ (by omega)]; exact hrow
              · rcases List.mem_or_eq_of_mem_set hx with hx | hx
                · exact hr2 x hx y hy
                · rw [hx] at hy
                  rcases paste_mem hy with hy | hy
                  · exact hr2 _ (atl_mem hlt) y hy
                  · exact hxr y hy
            · rintro ⟨f1, f2⟩
              rw [hl']
              exact ⟨by simpa using f1, f2⟩
          split at h
          · rename_i k' m x
            split at h
            · rename_i hk
              subst hk
              split at h
              · rename_i hmn
                subst hmn
                refine ⟨_, b, _, _, h, ⟨hb, rfl⟩, fun ρ m1 xv uv w hx hu hm hr => ?_⟩
                obtain ⟨_, hxl, hxr⟩ := vr_ints hu
                refine key x _ hxr (fun ρ cs hc => hc.1) (fun hr1 hlt ho => ?_) ρ m1 xv uv w hx hu hm hr
                rw [show off.toNat = 0 by omega, paste_all _ _ (by rw [hr1 _ (atl_mem hlt)]; exact hxl)]
              · refine ⟨_, b, _, _, h, ⟨hb, rfl⟩, fun ρ m1 xv uv w hx hu hm hr => ?_⟩
                obtain ⟨_, hxl, hxr⟩ := vr_ints hu
                exact key x _ hxr (fun ρ cs hc => hc.1) (fun _ _ _ => rfl) ρ m1 xv uv w hx hu hm hr
            · cases h
          · rename_i k' z
            split at h
            · rename_i hk
              subst hk
              refine ⟨_, b, _, _, h, ⟨hb, rfl⟩, fun ρ m1 xv uv w hx hu hm hr => ?_⟩
              obtain ⟨_, hxr⟩ := vr_int hu
              refine key [z] _ (by simpa using hxr) (fun ρ cs hc => hc.1) (fun hr1 hlt ho => ?_) ρ m1 xv uv w hx hu hm hr
              rw [paste_one _ _ _ (by rw [hr1 _ (atl_mem hlt)]; simp at ho; omega)]
            · cases h
          · cases h
        · cases h
      · cases h
    · cases h
  · cases h

/-! ### New blocks -/

theorem merge_new {m1 : Mem} {s : St} {c : V} : merge m1 [] s (newB s c) = fun x => if x = s.m.length then some (true, c) else m1 x := by
  funext x
  by_cases e : x = s.m.length
  · subst e
    have h1 : s.m.length < (newB s c).m.length := by simp [newB]
    simp only [merge]
    rw [if_pos (.inr ⟨Nat.le_refl _, h1⟩), mget_newB, if_pos rfl]
    simp
  · have : ¬ (s.m.length ≤ x ∧ x < (newB s c).m.length) := by simp [newB]; omega
    simp [merge, this, e]

theorem heap_alloc_lt {w : World} {o : Obj} {k : Nat} (h : k < w.heap.size) : (w.alloc o).heap[k]? = w.heap[k]? := heap_alloc_old w o k h
theorem heap_alloc_size {w : World} {o : Obj} : (w.alloc o).heap.size = w.heap.size + 1 := Array.size_push _

/-- The block that 'newRow' lays is held. -/
theorem held_new {ρ : Ren} {b : Nat} {c : V} {w : World} {t : TypeId} {cells : Array Value} {fr : Nat × Nat} {cs : List Value} {n es : Nat} (hr : ρ b = none) (hfr : ∀ j, j < cells.size → ¬ (fr.1 ≤ j ∧ j < fr.2))
    (hc : Cells ρ c cs) (hcs : ∀ j, j < cs.length → cells[j]? = cs[j]?) (hle : cs.length ≤ cells.size)
    (he : EOK c { nil := false, blk := w.heap.size, base := 0, psz := cells.size, cn := cs.length, n := n, es := es }) :
    Held (fun x => if x = b then some { nil := false, blk := w.heap.size, base := 0, psz := cells.size, cn := cs.length, n := n, es := es } else ρ x)
      { nil := false, blk := w.heap.size, base := 0, psz := cells.size, cn := cs.length, n := n, es := es } true c (w.alloc (.cells cells t fr)) := by
  have hs : Sub ρ (fun x => if x = b then some { nil := false, blk := w.heap.size, base := 0, psz := cells.size, cn := cs.length, n := n, es := es } else ρ x) := fun x q hq => by
    have : x ≠ b := fun e => by rw [e, hr] at hq; cases hq
    simp [this, hq]
  refine ⟨⟨cs, Cells.mono hs c cs hc, rfl, fun _ j v hv => ?_⟩, he, by simp, fun _ => ⟨⟨by rw [heap_alloc_size]; exact Nat.lt_succ_self _, by simpa using hle⟩, fun _ => ⟨rfl, hle, fun j hj => ⟨?_, ?_⟩⟩⟩⟩
  · have hj : j < cs.length := by
      rcases Nat.lt_or_ge j cs.length with h | h
      · exact h
      · rw [List.getElem?_eq_none h] at hv; cases hv
    simp only [Nat.zero_add]
    rw [World.cell?_alloc_mark, hcs j hj, hv]
  · simp only
    rw [World.cell?_alloc_mark]
    simp at hj
    simp [hj]
  · have := hfr j hj
    obtain ⟨lo, hi⟩ := fr
    simp only
    rw [World.frozen?_alloc_mark]
    simp only at this
    simpa using this

/-- An operation that lays one new block, of these cells. -/
theorem OpOK.new {full : Bool} {o : Oper} {s : St} {x c : V}
    (h : ∀ (a : Act) (w : World) (ρ : Ren) (m1 : Mem), (∀ y ∈ o.op.operands, VR ρ (eopd E s y) (a.eval y)) → RM ρ m1 w → ρ s.m.length = none →
      ∃ (t : TypeId) (cells : Array Value) (fr : Nat × Nat) (cs : List Value) (n es : Nat) (v : Value) (d : Nat), (execOp a.eval o).run E.P w = .ok (.value v) { w.alloc (.cells cells t fr) with drawn := d } ∧ (∀ j, j < cells.size → ¬ (fr.1 ≤ j ∧ j < fr.2)) ∧
        Cells ρ c cs ∧ (∀ j, j < cs.length → cells[j]? = cs[j]?) ∧ cs.length ≤ cells.size ∧
        EOK c { nil := false, blk := w.heap.size, base := 0, psz := cells.size, cn := cs.length, n := n, es := es } ∧
        ∀ ρ' : Ren, ρ' s.m.length = some { nil := false, blk := w.heap.size, base := 0, psz := cells.size, cn := cs.length, n := n, es := es } → VR ρ' x v) :
    OpOK E full o s x (newB s c) [] [] where
  len := by simp [newB]
  t := rfl
  rest := fun b _ hb => by rw [mget_newB, if_neg (by omega)]
  wrlt := fun _ h => by cases h
  run := fun a w ρ m1 hv hm _ _ hf _ Q next _ hn => by
    obtain ⟨hρ, hm1⟩ := hf s.m.length (Nat.le_refl _) (by simp [newB])
    obtain ⟨t, cells, fr, cs, n, es, v, d, h1, h0, h2, h3, h4, h5, h6⟩ := h a w ρ m1 hv hm hρ
    left
    unfold Oper.wp
    rw [h1]
    have hheld := held_new (w := w) (t := t) hρ h0 h2 h3 h4 h5
    have hw : ({ w.alloc (.cells cells t fr) with drawn := d } : World).heap = (w.alloc (.cells cells t fr)).heap := rfl
    have hk : ∀ k, k < w.heap.size → ({ w.alloc (.cells cells t fr) with drawn := d } : World).heap[k]? = w.heap[k]? := fun k hk => heap_alloc_lt hk
    have hsz : w.heap.size ≤ ({ w.alloc (.cells cells t fr) with drawn := d } : World).heap.size := by
      show w.heap.size ≤ (w.alloc (.cells cells t fr)).heap.size
      rw [heap_alloc_size]; omega
    refine hn (fun x => if x = s.m.length then some { nil := false, blk := w.heap.size, base := 0, psz := cells.size, cn := cs.length, n := n, es := es } else ρ x) _ v (fun b hb => ?_) (h6 _ (by simp)) ?_ ?_
    · have : b ≠ s.m.length := fun e => hb ⟨by omega, by simp [newB]; omega⟩
      simp [this]
    · rw [merge_new]
      exact hm.push s.m.length hm1 hρ c _ hsz hk (fun _ => Nat.le_refl _) (hheld.same (Sub.refl _) (Nat.le_refl _) (fun _ => rfl))
    · rw [merge_new]
      exact Ext.push s.m.length hρ c _ hsz hk (fun _ => Nat.le_refl _) rfl rfl rfl

end
end Go.Ev

/-
  Slices as sources; append.
-/
namespace Go.Ev

section
variable {E : Env} {R : Type}

theorem part0_eq {α : Type} (l : List α) (off len : Int) : part0 l off len = cut l off.toNat len.toNat := by
  unfold part0
  split
  · simp [cut]
  · rfl

theorem rows_cut {n : Nat} : ∀ (l : List (List Int)) (i m : Nat), (∀ x ∈ l, x.length = n) → i + m ≤ l.length → cut l.flatten (i * n) (m * n) = (cut l i m).flatten := by
  intro l i m hn hle
  have e1 : l.flatten = (l.take i).flatten ++ (((l.drop i).take m).flatten ++ ((l.drop i).drop m).flatten) := by
    rw [← List.flatten_append, List.take_append_drop, ← List.flatten_append, List.take_append_drop]
  have l1 : (l.take i).flatten.length = i * n := by rw [sum_len _ (fun x hx => hn x (List.mem_of_mem_take hx)), List.length_take, Nat.min_eq_left (by omega)]
  have l2 : ((l.drop i).take m).flatten.length = m * n := by
    rw [sum_len _ (fun x hx => hn x (List.mem_of_mem_drop (List.mem_of_mem_take hx))), List.length_take, List.length_drop, Nat.min_eq_left (by omega)]
  rw [e1, cut, ← l1, List.drop_left, ← l2, List.take_left]
  rfl

/-- A slice, or a text, that elements are taken from. -/
structure Src (E : Env) (ρ : Ren) (w : World) (es : Nat) (a : V) (xv : Value) (cs : List Value) : Prop where
  cells : Cells ρ a cs
  size : cs.length = rowLen a * es
  len : (Builtin.lenOf xv).run E.P w = .ok (rowLen a) w
  firsts : ∀ d n, n ≤ rowLen a → (Builtin.firstCells es n xv).run E.P { w with drawn := d } = .ok (cs.take (n * es)).toArray { w with drawn := d }
  at_ : ∀ ad n cap, xv = .slice (some ad) n cap → ∀ (j : Nat) (v : Value), cs[j]? = some v → w.cell? (ad.add j) = some v

theorem Src.first {ρ : Ren} {w : World} {es : Nat} {a : V} {xv : Value} {cs : List Value} (h : Src E ρ w es a xv cs) (d : Nat) :
    (Builtin.firstCells es (rowLen a) xv).run E.P { w with drawn := d } = .ok cs.toArray { w with drawn := d } := by
  have := h.firsts d (rowLen a) (Nat.le_refl _)
  rwa [← h.size, List.take_length] at this

theorem fits_size {z a : V} (h : fits z a = true) {ρ : Ren} {cs : List Value} (hc : Cells ρ a cs) : cs.length = rowLen a * z.size ∧ (∀ p, EOK a p ↔ p.n = rowLen a ∧ p.es = z.size) := by
  unfold fits at h
  split at h
  · obtain ⟨rfl, _⟩ := hc
    exact ⟨by simp [rowLen, V.size], fun p => by simp [EOK, rowLen, V.size]⟩
  · simp only [Cells] at hc
    subst hc
    exact ⟨by simp [rowLen, V.size], fun p => by simp [EOK, rowLen, V.size]⟩
  · obtain ⟨ss, rfl, hl, _⟩ := hc
    exact ⟨by simp [rowLen, V.size, hl], fun p => by simp [EOK, rowLen, V.size]⟩
  · obtain ⟨rfl, h1, _⟩ := hc
    simp at h
    obtain ⟨rfl, rfl⟩ := h
    exact ⟨by simp only [List.length_map]; rw [sum_len _ h1]; simp [rowLen, V.size], fun p => by simp [EOK, rowLen, V.size]⟩
  · cases h

/-- Content that may be read as a row: its elements' cells. -/
theorem row_part {ρ : Ren} {c : V} {p : Info} {cs : List Value} (hc : Cells ρ c cs) (he : EOK c p) (hl : cs.length = p.cn) {off len : Int} (h0 : 0 ≤ off) (h1 : 0 ≤ len) (h2 : off + len ≤ p.n) :
    (∀ k l, c = .row k l ∨ (∃ n, c = .ints k n l) → Cells ρ (.row k (part0 l off len)) (cut cs (off.toNat * p.es) (len.toNat * p.es)) ∧ (part0 l off len).length = len.toNat) ∧
    (∀ l, c = .brow l ∨ (∃ n, c = .bools n l) → Cells ρ (.brow (part0 l off len)) (cut cs (off.toNat * p.es) (len.toNat * p.es)) ∧ (part0 l off len).length = len.toNat) ∧
    (∀ l, c = .srow l → Cells ρ (.srow (part0 l off len)) (cut cs (off.toNat * p.es) (len.toNat * p.es)) ∧ (part0 l off len).length = len.toNat) ∧
    (∀ k n l, c = .rows k n l → Cells ρ (.rows k n (part0 l off len)) (cut cs (off.toNat * p.es) (len.toNat * p.es)) ∧ (part0 l off len).length = len.toNat) := by
  refine ⟨fun k l e => ?_, fun l e => ?_, fun l e => ?_, fun k n l e => ?_⟩
  · have hh : p.n = l.length ∧ p.es = 1 ∧ cs = l.map (Value.int k) ∧ ∀ x ∈ l, InR k x := by
      rcases e with rfl | ⟨n, rfl⟩
      · obtain ⟨rfl, hr⟩ := hc
        exact ⟨he.1, he.2, rfl, hr⟩
      · obtain ⟨rfl, hn, hr⟩ := hc
        exact ⟨he.1.trans hn.symm, he.2, rfl, hr⟩
    obtain ⟨e1, e2, rfl, hr⟩ := hh
    rw [part0_eq, e2, Nat.mul_one, Nat.mul_one, cut_map]
    exact ⟨⟨rfl, fun x hx => hr x (cut_mem hx)⟩, cut_length _ _ _ (by omega)⟩
  · have hh : p.n = l.length ∧ p.es = 1 ∧ cs = l.map Value.bool := by
      rcases e with rfl | ⟨n, rfl⟩
      · exact ⟨he.1, he.2, hc⟩
      · obtain ⟨rfl, hn⟩ := hc
        exact ⟨he.1.trans hn.symm, he.2, rfl⟩
    obtain ⟨e1, e2, rfl⟩ := hh
    rw [part0_eq, e2, Nat.mul_one, Nat.mul_one, cut_map]
    exact ⟨rfl, cut_length _ _ _ (by omega)⟩
  · subst e
    obtain ⟨e1, e2⟩ := he
    obtain ⟨ss, rfl, hl1, hs⟩ := hc
    rw [part0_eq, e2, Nat.mul_one, Nat.mul_one, cut_map]
    refine ⟨⟨cut ss off.toNat len.toNat, rfl, ?_, fun i t ht => ?_⟩, cut_length _ _ _ (by omega)⟩
    · rw [cut_length _ _ _ (by omega), cut_length _ _ _ (by omega)]
    · simp only [cut, List.getElem?_take, List.getElem?_drop] at ht ⊢
      split at ht
      · rename_i hi
        rw [if_pos hi]
        exact hs _ _ ht
      · cases ht
  · subst e
    obtain ⟨e1, e2⟩ := he
    obtain ⟨rfl, hn, hr⟩ := hc
    rw [part0_eq, e2, cut_map, rows_cut l off.toNat len.toNat hn (by omega)]
    exact ⟨⟨rfl, fun x hx => hn x (cut_mem hx), fun x hx => hr x (cut_mem hx)⟩, cut_length _ _ _ (by omega)⟩

theorem src_none {es : Nat} {ρ : Ren} {a : V} {w : World} (hc : Cells ρ a []) (hn : rowLen a = 0) : Src E ρ w es a (.slice none 0 0) [] :=
  ⟨hc, by simp [hn], by rw [hn]; rfl, fun d n _ => by simp [Builtin.firstCells], fun _ _ _ e => by cases e⟩

theorem src_some {es : Nat} {ρ : Ren} {a : V} {w : World} {cs : List Value} {ad : Addr} {n cap : Nat} (hc : Cells ρ a cs) (hn : rowLen a = n) (hl : cs.length = n * es)
    (h : ∀ (j : Nat) (v : Value), cs[j]? = some v → w.cell? (ad.add j) = some v) : Src E ρ w es a (.slice (some ad) n cap) cs :=
  ⟨hc, by rw [hl, hn], by rw [hn]; rfl, fun d m hm => by
    have hle : m * es ≤ cs.length := by rw [hl]; exact Nat.mul_le_mul_right _ (by omega)
    exact run_firstCells_some { w with drawn := d } es m ad n cap (cs.take (m * es)) (by rw [List.length_take, Nat.min_eq_left hle]) (fun j v hv => h j v (by
      rw [List.getElem?_take] at hv
      split at hv
      · exact hv
      · cases hv)), fun _ _ _ e => by cases e; exact h⟩

/-- a content's own elements -/
def rowC : V → Option V
  | .ints k _ l => some (.row k l)
  | .bools _ l => some (.brow l)
  | .row k l => some (.row k l)
  | .brow l => some (.brow l)
  | .srow l => some (.srow l)
  | .rows k n l => some (.rows k n l)
  | _ => none

theorem rowC_ok {c a : V} (h : rowC c = some a) {ρ : Ren} {cs : List Value} (hc : Cells ρ c cs) {p : Info} (he : EOK c p) : Cells ρ a cs ∧ rowLen a = p.n := by
  unfold rowC at h
  split at h
  · cases h; obtain ⟨rfl, hl, hr⟩ := hc; exact ⟨⟨rfl, hr⟩, by simp [rowLen, hl, he.1]⟩
  · cases h; obtain ⟨rfl, hl⟩ := hc; exact ⟨rfl, by simp [rowLen, hl, he.1]⟩
  · cases h; exact ⟨hc, he.1.symm⟩
  · cases h; exact ⟨hc, he.1.symm⟩
  · cases h; exact ⟨hc, he.1.symm⟩
  · cases h; exact ⟨hc, he.1.symm⟩
  · cases h

/-- a part of a content's elements -/
def rowP (c : V) (off len : Int) : Option V :=
  match c with
  | .row k l => some (.row k (part0 l off len))
  | .ints k _ l => some (.row k (part0 l off len))
  | .brow l => some (.brow (part0 l off len))
  | .bools _ l => some (.brow (part0 l off len))
  | .srow l => some (.srow (part0 l off len))
  | .rows k n l => some (.rows k n (part0 l off len))
  | _ => none

theorem rowP_ok {c a : V} {off len : Int} (h : rowP c off len = some a) {ρ : Ren} {cs : List Value} (hc : Cells ρ c cs) {p : Info} (he : EOK c p) (hl : cs.length = p.cn)
    (h0 : 0 ≤ off) (h1 : 0 ≤ len) (h2 : off + len ≤ p.n) : Cells ρ a (cut cs (off.toNat * p.es) (len.toNat * p.es)) ∧ rowLen a = len.toNat := by
  obtain ⟨f1, f2, f3, f4⟩ := row_part hc he hl h0 h1 h2
  unfold rowP at h
  split at h <;> cases h
  · exact f1 _ _ (.inl rfl)
  · exact f1 _ _ (.inr ⟨_, rfl⟩)
  · exact f2 _ (.inl rfl)
  · exact f2 _ (.inr ⟨_, rfl⟩)
  · exact f3 _ rfl
  · exact f4 _ _ _ rfl

/-- the elements of one kind have one size -/
theorem fits_es {z c a : V} {off len : Int} (hf : fits z a = true) (h : rowC c = some a ∨ rowP c off len = some a) {p : Info} (he : EOK c p) : p.es = z.size := by
  cases c <;> simp only [rowC, rowP, or_self, Option.some.injEq, reduceCtorEq] at h <;> rcases h with h | h <;> subst h <;> cases z <;> simp [fits] at hf <;> simp [EOK] at he <;> simp [V.size, he] <;> simp [hf]

theorem EOK_cn {c : V} {p : Info} {ρ : Ren} {cs : List Value} {a : V} (h : rowC c = some a) (hc : Cells ρ c cs) (he : EOK c p) : cs.length = p.n * p.es := by
  unfold rowC at h
  split at h
  · obtain ⟨rfl, hl, _⟩ := hc; simp [he.1, he.2, hl]
  · obtain ⟨rfl, hl⟩ := hc; simp [he.1, he.2, hl]
  · obtain ⟨rfl, _⟩ := hc; simp [he.1, he.2]
  · simp only [Cells] at hc; subst hc; simp [he.1, he.2]
  · obtain ⟨ss, rfl, hl, _⟩ := hc; simp [he.1, he.2, hl]
  · obtain ⟨rfl, hn, _⟩ := hc; simp only [List.length_map]; rw [sum_len _ hn, he.1, he.2]
  · cases h

theorem rowC_of_rowP {c a : V} {off len : Int} (h : rowP c off len = some a) : ∃ a', rowC c = some a' := by
  cases c <;> simp [rowP] at h <;> exact ⟨_, rfl⟩

theorem rowOf_own {s : St} {z : V} {b : Nat} {a : V} (h : rowOf s z (.own b) = some a) : ∃ wr c, mget s.m b = some (wr, c) ∧ rowC c = some a := by
  simp only [rowOf] at h
  split at h
  · rename_i wr c hb
    exact ⟨wr, c, hb, by cases c <;> exact h⟩
  · cases h
theorem rowOf_sl {s : St} {z : V} {b : Nat} {off len : Int} {a : V} (h : rowOf s z (.sl b off len) = some a) : ∃ wr c, mget s.m b = some (wr, c) ∧ rowP c off len = some a := by
  simp only [rowOf] at h
  split at h
  · rename_i wr c hb
    exact ⟨wr, c, hb, by cases c <;> exact h⟩
  · cases h

theorem vr_own {ρ : Ren} {b : Nat} {x : Value} (h : VR ρ (.own b) x) : ∃ p, ρ b = some p ∧ ((p.nil = true ∧ x = .slice none 0 0) ∨ (p.nil = false ∧ ∃ cap, p.n ≤ cap ∧ p.base + cap * p.es ≤ p.psz ∧ x = .slice (some ⟨p.blk, p.base, none⟩) p.n cap)) := by
  simpa [VR, wrapR, Cells] using h
theorem vr_sl {ρ : Ren} {b : Nat} {off len : Int} {x : Value} (h : VR ρ (.sl b off len) x) : ∃ p, ρ b = some p ∧ 0 ≤ off ∧ 0 ≤ len ∧ off + len ≤ p.n ∧
      ((p.nil = true ∧ x = .slice none 0 0) ∨ (p.nil = false ∧ ∃ cap a, off.toNat + len.toNat ≤ cap ∧ p.base + cap * p.es ≤ p.psz ∧ x = .slice (some a) len.toNat (cap - off.toNat) ∧
        (off.toNat < cap ∨ off = 0 → a = ⟨p.blk, p.base + off.toNat * p.es, none⟩))) := by
  simpa [VR, wrapR, Cells] using h

theorem src_ok {s : St} {z x a : V} (h : rowOf s z x = some a) (hf : fits z a = true) {ρ : Ren} {m1 : Mem} {xv : Value} {w : World}
    (hx : VR ρ x xv) (hm : RM ρ m1 w) (hr : ∀ b ∈ x.names, m1 b = mget s.m b) : ∃ cs, Src E ρ w z.size a xv cs := by
  cases x with
  | nilsl =>
    obtain rfl : xv = .slice none 0 0 := by simpa [VR, wrapR, Cells] using hx
    refine ⟨[], src_none ?_ ?_⟩ <;> simp only [rowOf] at h <;> cases z <;> simp [zeroRow] at h <;> subst h <;> simp [Cells, rowLen]
  | own b =>
    obtain ⟨wr, c, hb, hc⟩ := rowOf_own h
    obtain ⟨p, hp, hx⟩ := vr_own hx
    obtain ⟨q, hq, ⟨cs, h1, h2, h3⟩, h4, h5, h6⟩ := hm.held b wr c ((hr b (by simp [V.names])).trans hb)
    rw [hp] at hq; cases hq
    obtain ⟨k1, k2⟩ := rowC_ok hc h1 h4
    have hes := fits_es (off := 0) (len := 0) hf (.inl hc) h4
    have hcn := EOK_cn hc h1 h4
    rcases hx with ⟨hn, rfl⟩ | ⟨hn, cap, hcap, hpsz, rfl⟩
    · obtain ⟨e1, e2⟩ := h5 hn
      have : cs = [] := List.eq_nil_of_length_eq_zero (by omega)
      subst this
      exact ⟨[], src_none k1 (by omega)⟩
    · refine ⟨cs, src_some k1 k2 (by rw [hcn, hes]) fun j v hv => ?_⟩
      rw [addr_add]
      exact h3 hn j v hv
  | sl b off len =>
    obtain ⟨wr, c, hb, hc⟩ := rowOf_sl h
    obtain ⟨p, hp, h0, h0', hle, hx⟩ := vr_sl hx
    obtain ⟨q, hq, ⟨cs, h1, h2, h3⟩, h4, h5, h6⟩ := hm.held b wr c ((hr b (by simp [V.names])).trans hb)
    rw [hp] at hq; cases hq
    obtain ⟨k1, k2⟩ := rowP_ok hc h1 h4 h2 h0 h0' hle
    have hes := fits_es hf (.inr hc) h4
    obtain ⟨a', ha'⟩ := rowC_of_rowP hc
    have hcn := EOK_cn ha' h1 h4
    rcases hx with ⟨hn, rfl⟩ | ⟨hn, cap, ad, hcap, hpsz, rfl, had⟩
    · obtain ⟨e1, e2⟩ := h5 hn
      have hl0 : len.toNat = 0 := by omega
      rw [hl0, Nat.zero_mul] at k1
      refine ⟨[], src_none ?_ (by omega)⟩
      simpa [cut] using k1
    · have hlen : (cut cs (off.toNat * p.es) (len.toNat * p.es)).length = len.toNat * p.es := cut_length _ _ _ (by
        rw [hcn, ← Nat.add_mul]; exact Nat.mul_le_mul_right _ (by omega))
      by_cases hz : len.toNat = 0
      · refine ⟨_, src_some k1 k2 (by rw [hlen, hes]) fun j v hv => ?_⟩
        rw [List.getElem?_eq_none (by rw [hlen, hz]; simp)] at hv
        cases hv
      · refine ⟨_, src_some k1 k2 (by rw [hlen, hes]) fun j v hv => ?_⟩
        rw [had (.inl (by omega))]
        exact (h3 hn).part _ _ j v hv
  | str l =>
    obtain ⟨t, rfl, hb⟩ := vr_str hx
    simp only [rowOf] at h
    split at h
    · cases h
      have hl : l.length = t.size := by rw [hb, List.length_map, Array.length_toList]; rfl
      have hcs : l.map (Value.int .u8) = (t.data.map fun b => Value.int .u8 b.toNat).toList := by
        rw [hb]; simp
      refine ⟨l.map (Value.int .u8), ⟨rfl, fun x hx => ?_⟩, by simp [rowLen, V.size], by simp [Builtin.lenOf, rowLen, hl], fun d n hn => ?_, fun _ _ _ e => by cases e⟩
      · rw [hb] at hx
        obtain ⟨y, _, rfl⟩ := List.mem_map.1 hx
        have := UInt8.toNat_lt y
        have e1 : IntKind.u8.min = 0 := by decide
        have e2 : IntKind.u8.max = 255 := by decide
        constructor <;> omega
      · rw [hcs]
        simp only [Builtin.firstCells, Sem.run_pure, V.size, Nat.mul_one]
        congr 1
        apply Array.ext'
        rw [ByteArray.data_extract]
        simp
    · cases h
  | _ => simp [rowOf] at h

theorem growBy_le (need : Nat) : ∀ (r c : Nat), c ≤ 2 * need + 200 → Builtin.growBy need r c ≤ 2 * need + 200
  | 0, c, h => h
  | r + 1, c, h => by
    unfold Builtin.growBy
    split
    · exact h
    · exact growBy_le need r _ (by omega)

theorem nextslicecap_le {need old : Nat} (h : old < need) : Builtin.nextslicecap need old ≤ 2 * need + 200 := by
  unfold Builtin.nextslicecap
  split
  · omega
  · split
    · omega
    · exact growBy_le _ _ _ (by omega)

theorem catRow_bind {a b : V} {K : V → Option R} : catRow a b K = obind (catRow a b some) K := by
  unfold catRow
  split <;> (repeat' split) <;> rfl

theorem catRow_ok {a b c : V} (h : catRow a b some = some c) {z : V} (ha : fits z a = true) {ρ : Ren} {c1 c2 : List Value} (h1 : Cells ρ a c1) (h2 : Cells ρ b c2) :
    Cells ρ c (c1 ++ c2) ∧ rowLen c = rowLen a + rowLen b ∧ fits z c = true := by
  unfold catRow at h
  split at h
  · split at h
    · rename_i e; subst e; cases h
      obtain ⟨rfl, r1⟩ := h1
      obtain ⟨rfl, r2⟩ := h2
      refine ⟨⟨by simp, fun x hx => ?_⟩, by simp [rowLen], by cases z <;> simp_all [fits]⟩
      rcases List.mem_append.1 hx with hx | hx
      · exact r1 x hx
      · exact r2 x hx
    · cases h
  · cases h
    simp only [Cells] at h1 h2
    subst h1; subst h2
    exact ⟨by simp [Cells], by simp [rowLen], by cases z <;> simp_all [fits]⟩
  · cases h
    obtain ⟨s1, rfl, l1, r1⟩ := h1
    obtain ⟨s2, rfl, l2, r2⟩ := h2
    refine ⟨⟨s1 ++ s2, by simp, by simp [l1, l2], fun i t ht => ?_⟩, by simp [rowLen], by cases z <;> simp_all [fits]⟩
    by_cases hi : i < s1.length
    · rw [List.getElem?_append_left hi] at ht
      rw [List.getElem?_append_left (by omega)]
      exact r1 i t ht
    · rw [List.getElem?_append_right (by omega)] at ht
      rw [List.getElem?_append_right (by omega), l1]
      exact r2 _ t ht
  · split at h
    · rename_i e; obtain ⟨rfl, rfl⟩ := e; cases h
      obtain ⟨rfl, n1, r1⟩ := h1
      obtain ⟨rfl, n2, r2⟩ := h2
      refine ⟨⟨by simp, fun x hx => ?_, fun x hx => ?_⟩, by simp [rowLen], by cases z <;> simp_all [fits]⟩
      · rcases List.mem_append.1 hx with hx | hx
        · exact n1 x hx
        · exact n2 x hx
      · rcases List.mem_append.1 hx with hx | hx
        · exact r1 x hx
        · exact r2 x hx
    · cases h
  · cases h

end
end Go.Ev

/-
  append: the run, and what becomes of the memory.
-/
namespace Go.Ev

section
variable {E : Env} {R : Type}

/-- the second type of an append: not the one of append(x, make(..)...) -/
def NoInt (E : Env) (u : TypeId) : Prop := (∃ e, E.P.underlying u = some (.slice e)) ∨ E.P.underlying u = some .string

theorem run_append_fits {ts : Array TypeId} {ty t u elem : TypeId} {args : Array Value} {base : Option Addr} {sLen sCap n : Nat} {yv : Value} {c2 : List Value} {w w' : World}
    (h1 : ts[0]? = some t) (h2 : ts[1]? = some u) (h3 : args[0]? = some (.slice base sLen sCap)) (h4 : args[1]? = some yv) (hu : E.P.underlying t = some (.slice elem)) (hk : NoInt E u)
    (hz : 0 < E.size elem) (hlen : (Builtin.lenOf yv).run E.P w = .ok n w) (hfirst : (Builtin.firstCells (E.size elem) n yv).run E.P w = .ok c2.toArray w) (hle : sLen + n ≤ sCap)
    (hst : ((match base with | some a => storeCells (a.add (sLen * E.size elem)) c2 | none => pure ()) : Sem Unit).run E.P w = .ok () w') :
    (Builtin.append_ ts ty args).run E.P w = .ok (.slice base (sLen + n) sCap) w' := by
  rcases hk with ⟨d, hd⟩ | hd
  all_goals
    unfold Builtin.append_
    simp only [h1, h2, h3, h4]
    rw [Sem.run_bind, run_und hu]
    simp only [Result.andThen_ok]
    rw [Sem.run_bind, run_size hz]
    simp only [Result.andThen_ok]
    rw [Sem.run_bind, run_und hd]
    simp only [Result.andThen_ok, pure_bind, Bool.false_eq_true, if_false, Bool.not_false, if_true]
    rw [Sem.run_bind, hlen]
    simp only [Result.andThen_ok, hle, if_true]
    rw [Sem.run_bind, hfirst]
    simp only [Result.andThen_ok]
    cases base with
    | none =>
      simp at hst
      subst hst
      rfl
    | some a =>
      simp only at hst ⊢
      rw [Sem.run_bind, hst]
      rfl

theorem run_append_grows {ts : Array TypeId} {ty t u elem : TypeId} {args : Array Value} {base : Option Addr} {sLen sCap n : Nat} {yv zv : Value} {c1 c2 : List Value} {w : World}
    (h1 : ts[0]? = some t) (h2 : ts[1]? = some u) (h3 : args[0]? = some (.slice base sLen sCap)) (h4 : args[1]? = some yv) (hu : E.P.underlying t = some (.slice elem)) (hk : NoInt E u)
    (hz : 0 < E.size elem) (hb : E.bytes elem ≤ 1000) (hlen : (Builtin.lenOf yv).run E.P w = .ok n w) (hold : ∀ d, (Builtin.firstCells (E.size elem) sLen (.slice base sLen sCap)).run E.P { w with drawn := d } = .ok c1.toArray { w with drawn := d })
    (hfirst : ∀ d, (Builtin.firstCells (E.size elem) n yv).run E.P { w with drawn := d } = .ok c2.toArray { w with drawn := d }) (hzero : ∀ w, (zeroValue elem).run E.P w = .ok zv w) (hlt : ¬ sLen + n ≤ sCap) (hmax : sLen + n ≤ maxLength) :
    ∃ (cap : Nat) (cells : Array Value) (dr : Nat), sLen + n ≤ cap ∧ (∀ j, j < (c1 ++ c2).length → cells[j]? = (c1 ++ c2)[j]?) ∧ cells.size = (c1 ++ c2).length + (cap - (sLen + n)) * zv.cells.size ∧
      (Builtin.append_ ts ty args).run E.P w = .ok (.slice (some ⟨w.heap.size, 0, none⟩) (sLen + n) cap) { w.alloc (.cells cells elem) with drawn := dr } := by
  obtain ⟨i, d', hi, _, _⟩ := size_pos hz
  have hbytes : i.bytes ≤ 1000 := by simpa [Env.bytes, hi] using hb
  have hinfo : ∀ w', (typeInfo elem).run E.P w' = .ok i w' := fun w' => by simp [typeInfo, hi]
  have hslice : ¬ (Builtin.nextslicecap (sLen + n) sCap * i.bytes > 2 ^ 48) := by
    have := nextslicecap_le (need := sLen + n) (old := sCap) (by omega)
    unfold maxLength at hmax
    have h5 : Builtin.nextslicecap (sLen + n) sCap * i.bytes ≤ 20000000200 * 1000 := Nat.mul_le_mul (by omega) hbytes
    omega
  have hmaxI : ¬ (((sLen + n : Nat) : Int) > IntKind.i64.max ∧ (false = true ∨ i.bytes = 0)) := by
    have : IntKind.i64.max = 9223372036854775807 := by decide
    unfold maxLength at hmax
    omega
  refine ⟨(Question.appendCap (sLen + n) sCap elem).cut (w.tape w.drawn (.appendCap (sLen + n) sCap elem)), (c1.toArray ++ c2.toArray ++ Builtin.zeroCells zv.cells ((Question.appendCap (sLen + n) sCap elem).cut (w.tape w.drawn (.appendCap (sLen + n) sCap elem)) - (sLen + n))), w.drawn + 1, by simp [Question.cut], ?_, ?_, ?_⟩
  · intro j hj
    rw [Array.getElem?_append_left (by simpa using hj), List.append_toArray]
    simp
  · simp [Builtin.zeroCells]
  · rcases hk with ⟨d, hd⟩ | hd
    all_goals
      unfold Builtin.append_
      simp only [h1, h2, h3, h4]
      rw [Sem.run_bind, run_und hu]
      simp only [Result.andThen_ok]
      rw [Sem.run_bind, run_size hz]
      simp only [Result.andThen_ok]
      rw [Sem.run_bind, run_und hd]
      simp only [Result.andThen_ok, pure_bind, Bool.false_eq_true, if_false, Bool.not_false, if_true]
      rw [Sem.run_bind, hlen]
      simp only [Result.andThen_ok, hlt, if_false]
      rw [Sem.run_bind, hinfo]
      simp only [Result.andThen_ok]
      rw [if_neg (by simpa using hmaxI)]
      rw [Sem.run_bind, hinfo]
      simp only [Result.andThen_ok]
      rw [if_neg hslice]
      rw [Sem.run_bind, run_choose]
      simp only [Question.forced, Bool.false_eq_true, if_false, Result.andThen_ok]
      rw [Sem.run_bind, hinfo]
      simp only [Result.andThen_ok]
      rw [Sem.run_bind, run_askRoom]
      simp only [Result.andThen_ok]
      rw [Sem.run_bind, hold]
      simp only [Result.andThen_ok]
      rw [Sem.run_bind, hfirst]
      simp only [Result.andThen_ok]
      rw [Sem.run_bind, hzero]
      simp only [Result.andThen_ok]
      rfl

end
end Go.Ev

/-
  append: the operation.
-/
namespace Go.Ev

theorem Ext.of_less {ρ ρ' : Ren} {m0 m m' : Mem} {w w' : World} (h : Ext ρ m0 w ρ' m' w') (hl : ∀ b x, m0 b = some x → m b = some x) : Ext ρ m w ρ' m' w' where
  sub := h.sub
  size := h.size
  os := h.os
  output := h.output
  tape := h.tape
  keep := fun k hk hn => h.keep k hk fun ⟨b, c, p, hb, r⟩ => hn ⟨b, c, p, hl b _ hb, r⟩
  own := fun k hk => (h.own k hk).imp id fun ⟨b, c, p, hb, r⟩ => ⟨b, c, p, hl b _ hb, r⟩

/-- A block handed on under a new name, something written in it. -/
theorem RM.move {ρ : Ren} {m : Mem} {w w' : World} (h : RM ρ m w) (b nb : Nat) (c c' : V) (p p' : Info) (hb : m b = some (true, c)) (hnb : m nb = none) (hρ : ρ nb = none) (hp : ρ b = some p)
    (hblk : p'.blk = p.blk) (hnil : p'.nil = false → p.nil = false) (hz : w.heap.size ≤ w'.heap.size) (hk : ∀ k, k < w.heap.size → (p.nil = false → k ≠ p.blk) → w'.heap[k]? = w.heap[k]?)
    (hh : Held (fun x => if x = nb then some p' else ρ x) p' true c' w') :
    RM (fun x => if x = nb then some p' else ρ x) (fun x => if x = nb then some (true, c') else if x = b then none else m x) w' := by
  have hs : Sub ρ (fun x => if x = nb then some p' else ρ x) := fun x q hq => by
    have : x ≠ nb := fun e => by rw [e, hρ] at hq; cases hq
    simp [this, hq]
  have hne : b ≠ nb := fun e => by rw [← e, hb] at hnb; cases hnb
  have other : ∀ x y, (if x = b then none else m x) = some y → x ≠ b ∧ m x = some y := by
    intro x y hx
    by_cases e : x = b
    · simp [e] at hx
    · simp [e] at hx; exact ⟨e, hx⟩
  have far : ∀ x y q, x ≠ b → m x = some y → ρ x = some q → q.nil = false → p.nil = false → q.blk ≠ p.blk := fun x y q hx hm hq hn hn' e =>
    h.excl b c x y p q hb hm (Ne.symm hx) hp hq hn' hn e.symm
  refine ⟨fun x wr d hx => ?_, fun x d x' y q q' hx hx' hne' hq hq' hn1 hn2 => ?_⟩
  · by_cases e : x = nb
    · subst e
      simp at hx
      obtain ⟨rfl, rfl⟩ := hx
      exact ⟨p', by simp, hh⟩
    · simp only [e, if_false] at hx
      obtain ⟨hxb, hx⟩ := other x _ hx
      obtain ⟨q, hq, hd⟩ := h.held x wr d hx
      refine ⟨q, hs x q hq, hd.same hs hz fun hn => hk _ (hd.2.2.2 hn).1.1 fun hpn => far x _ q hxb hx hq hn hpn⟩
  · by_cases e : x = nb
    · subst e
      have e' : x' ≠ x := fun e => hne' e.symm
      simp at hq
      subst hq
      simp only [e', if_false] at hx' hq'
      obtain ⟨hxb, hx'⟩ := other x' _ hx'
      rw [hblk]
      exact fun e => far x' y q' hxb hx' hq' hn2 (hnil hn1) e.symm
    · simp only [e, if_false] at hx hq
      obtain ⟨hxb, hx⟩ := other x _ hx
      by_cases e' : x' = nb
      · subst e'
        simp at hq'
        subst hq'
        rw [hblk]
        exact far x _ q hxb hx hq hn1 (hnil hn2)
      · simp only [e', if_false] at hx' hq'
        obtain ⟨_, hx'⟩ := other x' _ hx'
        exact h.excl x d x' y q q' hx hx' hne' hq hq' hn1 hn2

theorem Ext.move {ρ : Ren} {m : Mem} {w w' : World} (b nb : Nat) (c c' : V) (p p' : Info) (hb : m b = some (true, c)) (hρ : ρ nb = none) (hp : ρ b = some p)
    (hblk : p'.blk = p.blk) (hnil : p'.nil = false → p.nil = false) (hz : w.heap.size ≤ w'.heap.size) (hk : ∀ k, k < w.heap.size → (p.nil = false → k ≠ p.blk) → w'.heap[k]? = w.heap[k]?)
    (ho : w'.os = w.os) (hu : w'.output = w.output) (ht : w'.tape = w.tape) :
    Ext ρ m w (fun x => if x = nb then some p' else ρ x) (fun x => if x = nb then some (true, c') else if x = b then none else m x) w' := by
  refine ⟨fun x q hq => ?_, hz, ho, hu, ht, fun k hk' hn => hk k hk' fun hpn e => hn ⟨b, c, p, hb, hp, hpn, e.symm⟩, fun k hk' => .inr ?_⟩
  · have : x ≠ nb := fun e => by rw [e, hρ] at hq; cases hq
    simp [this, hq]
  · obtain ⟨x, d, q, hx, hq, hqn, hqk⟩ := hk'
    by_cases e : x = nb
    · subst e
      simp at hq
      subst hq
      exact ⟨b, c, p, hb, hp, hnil hqn, by rw [← hblk]; exact hqk⟩
    · simp only [e, if_false] at hx hq
      by_cases e' : x = b
      · simp [e'] at hx
      · simp [e'] at hx
        exact ⟨x, d, q, hx, hq, hqn, hqk⟩

section
variable {E : Env} {R : Type}

/-- the slice that is appended to -/
inductive Given (s : St) : V → St → Prop
  | nil : Given s .nilsl s
  | own (b : Nat) (c : V) (h : mget s.m b = some (true, c)) : Given s (.own b) (putM s b none)
  | sl (b : Nat) (n : Int) (c : V) (h : mget s.m b = some (true, c)) (hc : ∃ a, rowC c = some a) : Given s (.sl b 0 n) (putM s b none)

theorem giveUp_ok {s s' : St} {x : V} (h : giveUp s x = some s') : Given s x s' := by
  unfold giveUp at h
  split at h
  · cases h; exact .nil
  · rename_i b
    split at h
    · rename_i c hb; cases h; exact .own b c hb
    · cases h
  · rename_i b n
    split at h <;> first | cases h | skip
    all_goals exact .sl b n _ ‹_› ⟨_, rfl⟩
  · cases h

theorem exec_builtin {o : Oper} {c : Call} {b : Builtin} (ho : o.op = .call c) (hc : c.callee = .builtin b) (a : Act) (w : World) :
    (execOp a.eval o).run E.P w = (builtin b c.argTypes o.type (c.args.map fun | .const _ => true | _ => false) (c.args.map a.eval)).run E.P w := by
  unfold execOp
  simp only [ho]
  unfold resolve
  simp only [hc]
  rfl

theorem given_ok {s sg : St} {x z ra : V} (hG : Given s x sg) (hra : rowOf s z x = some ra) (hf : fits z ra = true) {ρ : Ren} {m1 : Mem} {xv : Value} {w : World}
    (hx : VR ρ x xv) (hm : RM ρ m1 w) (hr : ∀ b ∈ x.names, m1 b = mget s.m b) :
    (xv = .slice none 0 0 ∧ rowLen ra = 0) ∨
    ∃ b c p cap, x.names = [b] ∧ mget s.m b = some (true, c) ∧ ρ b = some p ∧ p.nil = false ∧ xv = .slice (some ⟨p.blk, 0, none⟩) (rowLen ra) cap ∧ rowLen ra ≤ cap ∧ cap * z.size ≤ p.psz ∧ p.base = 0 ∧ p.es = z.size := by
  cases hG with
  | nil =>
    left
    refine ⟨by simpa [VR, wrapR, Cells] using hx, ?_⟩
    simp only [rowOf] at hra
    cases z <;> simp [zeroRow] at hra <;> subst hra <;> simp [rowLen]
  | own b c hb =>
    obtain ⟨wr, c', hb', hc⟩ := rowOf_own hra
    rw [hb] at hb'; cases hb'
    obtain ⟨p, hp, hx⟩ := vr_own hx
    obtain ⟨q, hq, ⟨cs, h1, h2, h3⟩, h4, h5, h6⟩ := hm.held b true c ((hr b (by simp [V.names])).trans hb)
    rw [hp] at hq; cases hq
    obtain ⟨k1, k2⟩ := rowC_ok hc h1 h4
    have hes := fits_es (off := 0) (len := 0) hf (.inl hc) h4
    rcases hx with ⟨hn, rfl⟩ | ⟨hn, cap, hcap, hpsz, rfl⟩
    · exact .inl ⟨rfl, by have := (h5 hn).2; omega⟩
    · have hb0 := ((h6 hn).2 rfl).1
      refine .inr ⟨b, c, p, cap, rfl, hb, hp, hn, ?_, by omega, ?_, hb0, hes⟩
      · rw [hb0, k2]
      · rw [hes, hb0] at hpsz; omega
  | sl b n c hb _ =>
    obtain ⟨wr, c', hb', hc⟩ := rowOf_sl hra
    rw [hb] at hb'; cases hb'
    obtain ⟨p, hp, h0, h0', hle, hx⟩ := vr_sl hx
    obtain ⟨q, hq, ⟨cs, h1, h2, h3⟩, h4, h5, h6⟩ := hm.held b true c ((hr b (by simp [V.names])).trans hb)
    rw [hp] at hq; cases hq
    obtain ⟨k1, k2⟩ := rowP_ok hc h1 h4 h2 h0 h0' hle
    have hes := fits_es hf (.inr hc) h4
    rcases hx with ⟨hn, rfl⟩ | ⟨hn, cap, ad, hcap, hpsz, rfl, had⟩
    · exact .inl ⟨rfl, by have := (h5 hn).2; omega⟩
    · have hb0 := ((h6 hn).2 rfl).1
      refine .inr ⟨b, c, p, cap, rfl, hb, hp, hn, ?_, by omega, ?_, hb0, hes⟩
      · rw [had (.inr rfl), k2, hb0]
        simp
      · rw [hes, hb0] at hpsz; omega

theorem append_ok {full : Bool} (hE : EnvOK E) {o : Oper} {cl : Call} {s : St} {t u elem : TypeId} {X Y : Operand} {K : V → St → List Nat → List Nat → Option R} {r : R}
    (ho : o.op = .call cl) (hcl : cl.callee = .builtin .append) (ha : cl.args = #[X, Y]) (ht : cl.argTypes[0]? = some t) (hu : cl.argTypes[1]? = some u)
    (htd : E.P.underlying t = some (.slice elem)) (hk : NoInt E u) (h : eAppend E s elem (eopd E s X) (eopd E s Y) K = some r) :
    ∃ v s' rd wr, K v s' rd wr = some r ∧ OpOK E full o s v s' rd wr := by
  generalize hxe : eopd E s X = x at h
  generalize hye : eopd E s Y = y at h
  unfold eAppend at h
  split at h
  · rename_i z hz
    split at h
    · rename_i hzs
      split at h
      · rename_i ra rb sg hra hrb hg
        split at h
        · rename_i hf
          obtain ⟨hmax, h⟩ := chk_some h
          rw [catRow_bind] at h
          obtain ⟨c, hcat, h⟩ := obind_some h
          have hmax : rowLen ra + rowLen rb ≤ maxLength := by simpa using hmax
          have hG := giveUp_ok hg
          obtain ⟨hzf, zv, hzero, hzv⟩ := hE.zero elem z hz
          have hlen : sg.m.length = s.m.length := by cases hG <;> simp [putM]
          have htt : sg.t = s.t := by cases hG <;> rfl
          have hnames : ∀ b ∈ x.names, b < s.m.length := by
            intro b hb
            cases hG with
            | nil => simp [V.names] at hb
            | own b' c' hb' => simp [V.names] at hb; subst hb; exact mget_lt hb'
            | sl b' n' c' hb' _ => simp [V.names] at hb; subst hb; exact mget_lt hb'
          have hsg : ∀ b, mget sg.m b = if b ∈ x.names then none else mget s.m b := by
            intro b
            cases hG with
            | nil => simp [V.names]
            | own b' c' hb' => simp only [putM, V.names, List.mem_singleton]; rw [setM_get (mget_lt hb')]
            | sl b' n' c' hb' _ => simp only [putM, V.names, List.mem_singleton]; rw [setM_get (mget_lt hb')]
          have hmerge : ∀ m1 : Mem, merge m1 x.names s (newB sg c) = fun b => if b = s.m.length then some (true, c) else if b ∈ x.names then none else m1 b := by
            intro m1
            funext b
            have hl2 : (newB sg c).m.length = s.m.length + 1 := by simp [newB, hlen]
            simp only [merge]
            by_cases e : b = s.m.length
            · rw [if_pos (.inr ⟨by omega, by omega⟩), mget_newB, if_pos (by omega), if_pos e]
            · by_cases e' : b ∈ x.names
              · rw [if_pos (.inl e'), mget_newB, if_neg (by omega), hsg, if_pos e', if_neg e, if_pos e']
              · rw [if_neg (by rintro (h | h) <;> first | exact e' h | omega), if_neg e, if_neg e']
          refine ⟨_, _, _, _, h, ⟨by simp [newB, hlen], by simp [newB, htt], fun b hb hlt => ?_, hnames, ?_⟩⟩
          · rw [mget_newB, if_neg (by omega), hsg, if_neg hb]
          · intro a w ρ m1 hv hm hgok hr hfr _ Q next _ hn
            left
            have hXY : VR ρ x (a.eval X) ∧ VR ρ y (a.eval Y) := by
              have e : o.op.operands = #[X, Y] := by rw [ho]; simp [Op.operands, Call.operands, hcl, ha]
              exact ⟨by rw [← hxe]; exact hv X (by rw [e]; simp), by rw [← hye]; exact hv Y (by rw [e]; simp)⟩
            obtain ⟨hX, hY⟩ := hXY
            obtain ⟨c1, hs1⟩ := src_ok (E := E) hra hf.1 hX hm (fun b hb => hr b (.inr hb))
            obtain ⟨c2, hs2⟩ := src_ok (E := E) hrb hf.2 hY hm (fun b hb => hr b (.inl (List.mem_append.2 (.inr hb))))
            obtain ⟨hcc, hcl', hcf⟩ := catRow_ok hcat hf.1 hs1.cells hs2.cells
            obtain ⟨hρ, hm1⟩ := hfr s.m.length (Nat.le_refl _) (by simp [newB, hlen])
            have hes : z.size = E.size elem := hzs.1
            have h3 : (cl.args.map a.eval)[0]? = some (a.eval X) := by simp [ha]
            have h4 : (cl.args.map a.eval)[1]? = some (a.eval Y) := by simp [ha]
            unfold Oper.wp
            rw [exec_builtin ho hcl]
            have hless : RM ρ (fun b => if b ∈ x.names then none else m1 b) w := hm.less fun b y hy => by
              by_cases e : b ∈ x.names
              · simp [e] at hy
              · simp [e] at hy; exact ⟨y.1, hy, fun h => h⟩
            have hsub : ∀ b y, (if b ∈ x.names then none else m1 b) = some y → m1 b = some y := by
              intro b y hy
              by_cases e : b ∈ x.names
              · simp [e] at hy
              · simp [e] at hy; exact hy
            have hlen1 : c1.length = rowLen ra * z.size := hs1.size
            have hlen2 : c2.length = rowLen rb * z.size := hs2.size
            have hlen12 : (c1 ++ c2).length = rowLen c * z.size := by rw [List.length_append, hlen1, hlen2, hcl', Nat.add_mul]
            have hEOK : ∀ p, p.n = rowLen c → p.es = z.size → EOK c p := fun p h1 h2 => ((fits_size hcf hcc).2 p).2 ⟨h1, h2⟩
            have grows : ∀ base sCap, a.eval X = .slice base (rowLen ra) sCap → ¬ rowLen ra + rowLen rb ≤ sCap →
                o.upon E.P a next Q ((builtin .append cl.argTypes o.type (cl.args.map fun | .const _ => true | _ => false) (cl.args.map a.eval)).run E.P w) := by
              intro base sCap hXe hlt
              obtain ⟨cap, cells, dr, g1, g2, g3, g4⟩ := run_append_grows (E := E) (ty := o.type) ht hu (by rw [h3, hXe]) h4 htd hk hzs.2.1 hzs.2.2 hs2.len (by rw [← hXe, ← hes]; exact hs1.first) (by rw [← hes]; exact hs2.first) hzero hlt hmax
              have hrun : (builtin .append cl.argTypes o.type (cl.args.map fun | .const _ => true | _ => false) (cl.args.map a.eval)).run E.P w = .ok (.value (.slice (some ⟨w.heap.size, 0, none⟩) (rowLen ra + rowLen rb) cap)) { w.alloc (.cells cells elem) with drawn := dr } := by
                show (do pure (Next.value (← Builtin.append_ cl.argTypes o.type (cl.args.map a.eval))) : Sem Next).run E.P w = _
                rw [Sem.run_bind, g4]
                rfl
              rw [hrun]
              have hzc : zv.cells.size = z.size := by
                have := Cells.length z _ hzf (VR_cells hzf (hzv ρ))
                simpa using this
              have hheld := held_new (ρ := ρ) (w := w) (t := elem) (cells := cells) (fr := (0, 0)) (n := rowLen c) (es := z.size) hρ (by simp) hcc g2 (by rw [g3]; omega) (hEOK _ rfl rfl)
              have hk' : ∀ k, k < w.heap.size → ({ w.alloc (.cells cells elem) with drawn := dr } : World).heap[k]? = w.heap[k]? := fun k hk => heap_alloc_lt hk
              have hsz : w.heap.size ≤ ({ w.alloc (.cells cells elem) with drawn := dr } : World).heap.size := by
                show w.heap.size ≤ (w.alloc (.cells cells elem)).heap.size
                rw [heap_alloc_size]; omega
              have hm1' : (if s.m.length ∈ x.names then none else m1 s.m.length) = none := by
                split
                · rfl
                · exact hm1
              refine hn (fun y => if y = s.m.length then some { nil := false, blk := w.heap.size, base := 0, psz := cells.size, cn := (c1 ++ c2).length, n := rowLen c, es := z.size } else ρ y) _ _ (fun b hb => ?_) ?_ ?_ ?_
              · have : b ≠ s.m.length := fun e => hb ⟨by omega, by simp [newB, hlen]; omega⟩
                simp [this]
              · refine ⟨_, if_pos rfl, .inr ⟨rfl, cap, ?_, ?_, ?_⟩⟩
                · simp only; omega
                · simp only
                  rw [g3, hlen12, hcl', hzc, ← Nat.add_mul, Nat.zero_add]
                  exact Nat.mul_le_mul_right _ (by omega)
                · rw [hcl']
              · rw [hmerge]
                exact hless.push s.m.length hm1' hρ c _ hsz hk' (fun _ => Nat.le_refl _) (hheld.same (Sub.refl _) (Nat.le_refl _) (fun _ => rfl))
              · rw [hmerge]
                exact (Ext.push (m := fun b => if b ∈ x.names then none else m1 b) s.m.length hρ c _ hsz hk' (fun _ => Nat.le_refl _) rfl rfl rfl).of_less hsub
            rcases given_ok hG hra hf.1 hX hm (fun b hb => hr b (.inr hb)) with ⟨hXe, hl0⟩ | ⟨b, cb, p, cap, hxn, hb, hp, hpn, hXe, hcap, hpsz, hp0, hpes⟩
            · by_cases hn0 : rowLen rb = 0
              · have hfit := run_append_fits (E := E) (ty := o.type) (w' := w) ht hu (by rw [h3, hXe]) h4 htd hk hzs.2.1 (n := rowLen rb) (c2 := c2) hs2.len (by rw [← hes]; exact hs2.first w.drawn) (by omega) rfl
                have hrun : (builtin .append cl.argTypes o.type (cl.args.map fun | .const _ => true | _ => false) (cl.args.map a.eval)).run E.P w = .ok (.value (.slice none 0 0)) w := by
                  show (do pure (Next.value (← Builtin.append_ cl.argTypes o.type (cl.args.map a.eval))) : Sem Next).run E.P w = _
                  rw [Sem.run_bind, hfit, hn0]
                  rfl
                rw [hrun]
                have hc0 : (c1 ++ c2) = [] := List.eq_nil_of_length_eq_zero (by rw [hlen12, hcl', hl0, hn0]; simp)
                have hm1' : (if s.m.length ∈ x.names then none else m1 s.m.length) = none := by
                  split
                  · rfl
                  · exact hm1
                have hs0 : Sub ρ (fun y => if y = s.m.length then some { nil := true, blk := 0, base := 0, psz := 0, cn := 0, n := 0, es := z.size } else ρ y) := fun y q hq => by
                  have : y ≠ s.m.length := fun e => by rw [e, hρ] at hq; cases hq
                  simp [this, hq]
                refine hn (fun y => if y = s.m.length then some { nil := true, blk := 0, base := 0, psz := 0, cn := 0, n := 0, es := z.size } else ρ y) _ _ (fun b hb => ?_) ?_ ?_ ?_
                · have : b ≠ s.m.length := fun e => hb ⟨by omega, by simp [newB, hlen]; omega⟩
                  simp [this]
                · exact ⟨_, if_pos rfl, .inl ⟨rfl, rfl⟩⟩
                · rw [hmerge]
                  refine hless.push s.m.length hm1' hρ c _ (Nat.le_refl _) (fun _ _ => rfl) (by simp) ⟨⟨[], ?_, rfl, by simp⟩, hEOK _ (by simp [hcl', hl0, hn0]) rfl, fun _ => ⟨rfl, rfl⟩, by simp⟩
                  rw [hc0] at hcc
                  exact Cells.mono hs0 c [] hcc
                · rw [hmerge]
                  exact (Ext.push (m := fun b => if b ∈ x.names then none else m1 b) s.m.length hρ c _ (Nat.le_refl _) (fun _ _ => rfl) (by simp) rfl rfl rfl).of_less hsub
              · exact grows none 0 (by rw [hXe, hl0]) (by omega)
            · by_cases hfit : rowLen ra + rowLen rb ≤ cap
              · obtain ⟨q, hq, ⟨cs, hc1, hc2, hc3⟩, hq4, hq5, hq6⟩ := hm.held b true cb ((hr b (.inr (by rw [hxn]; simp))).trans hb)
                rw [hp] at hq; cases hq
                have how := (hq6 hpn).2 rfl
                have hm1b : m1 b = some (true, cb) := (hr b (.inr (by rw [hxn]; simp))).trans hb
                have hroom : rowLen ra * z.size + c2.length ≤ p.psz := by
                  rw [hlen2, ← Nat.add_mul]
                  exact Nat.le_trans (Nat.mul_le_mul_right _ hfit) hpsz
                have hst : (storeCells ((⟨p.blk, 0, none⟩ : Addr).add (rowLen ra * E.size elem)) c2).run E.P w = .ok () (w.setCells p.blk (rowLen ra * z.size) c2) := by
                  rw [addr_add, Nat.zero_add, ← hes]
                  have := run_storeCells_cells (P := E.P) p.blk (rowLen ra * z.size) c2 0 w (fun j hj => (how.2.2 (rowLen ra * z.size + 0 + j) (by omega)).1) (fun j hj => (how.2.2 (rowLen ra * z.size + 0 + j) (by omega)).2)
                    (Cells.one rb c2 (by intro vs e; subst e; simp [fits] at hf) hs2.cells)
                  simpa using this
                have hfits := run_append_fits (E := E) (ty := o.type) (base := some ⟨p.blk, 0, none⟩) ht hu (by rw [h3, hXe]) h4 htd hk hzs.2.1 (n := rowLen rb) (c2 := c2) hs2.len (by rw [← hes]; exact hs2.first w.drawn) hfit hst
                have hrun : (builtin .append cl.argTypes o.type (cl.args.map fun | .const _ => true | _ => false) (cl.args.map a.eval)).run E.P w = .ok (.value (.slice (some ⟨p.blk, 0, none⟩) (rowLen ra + rowLen rb) cap)) (w.setCells p.blk (rowLen ra * z.size) c2) := by
                  show (do pure (Next.value (← Builtin.append_ cl.argTypes o.type (cl.args.map a.eval))) : Sem Next).run E.P w = _
                  rw [Sem.run_bind, hfits]
                  rfl
                rw [hrun]
                have hs0 : Sub ρ (fun y => if y = s.m.length then some { p with n := rowLen c, cn := rowLen c * z.size } else ρ y) := fun y q hq => by
                  have : y ≠ s.m.length := fun e => by rw [e, hρ] at hq; cases hq
                  simp [this, hq]
                have hcn : rowLen c * z.size ≤ p.psz := by rw [hcl', Nat.add_mul, ← hlen2]; exact hroom
                have howe := how.setCells (rowLen ra * z.size) c2 hroom
                have hheld : Held (fun y => if y = s.m.length then some { p with n := rowLen c, cn := rowLen c * z.size } else ρ y) { p with n := rowLen c, cn := rowLen c * z.size } true c (w.setCells p.blk (rowLen ra * z.size) c2) := by
                  refine ⟨⟨c1 ++ c2, Cells.mono hs0 c _ hcc, hlen12, fun _ j v hv => ?_⟩, hEOK _ rfl hpes, fun h => by simp [hpn] at h, fun _ => ⟨⟨by rw [heap_setCells_size]; exact (hq6 hpn).1.1, by simp only [hp0, Nat.zero_add]; exact hcn⟩, fun _ => ⟨hp0, hcn, howe.2.2⟩⟩⟩
                  simp only [hp0, Nat.zero_add]
                  rw [cell_setCells how _ _ hroom]
                  by_cases hj : j < c1.length
                  · rw [List.getElem?_append_left hj] at hv
                    rw [if_neg (by omega)]
                    have := hs1.at_ _ _ _ hXe j v hv
                    rwa [addr_add, Nat.zero_add] at this
                  · rw [List.getElem?_append_right (by omega)] at hv
                    have hj2 : j - c1.length < c2.length := by
                      rcases Nat.lt_or_ge (j - c1.length) c2.length with h | h
                      · exact h
                      · rw [List.getElem?_eq_none h] at hv; cases hv
                    rw [if_pos (by omega), ← hlen1]
                    exact hv
                obtain ⟨w1, w2, w3⟩ := setCells_rest p.blk c2 (rowLen ra * z.size) w
                have hheap : ∀ k, k < w.heap.size → (p.nil = false → k ≠ p.blk) → (w.setCells p.blk (rowLen ra * z.size) c2).heap[k]? = w.heap[k]? := fun k _ hne => heap_setCells_other p.blk (hne hpn) c2 _ w
                have hsz : w.heap.size ≤ (w.setCells p.blk (rowLen ra * z.size) c2).heap.size := by rw [heap_setCells_size]; exact Nat.le_refl _
                have hmm : merge m1 x.names s (newB sg c) = fun y => if y = s.m.length then some (true, c) else if y = b then none else m1 y := by
                  rw [hmerge, hxn]
                  funext y
                  simp
                refine hn (fun y => if y = s.m.length then some { p with n := rowLen c, cn := rowLen c * z.size } else ρ y) _ _ (fun b hb => ?_) ?_ ?_ ?_
                · have : b ≠ s.m.length := fun e => hb ⟨by omega, by simp [newB, hlen]; omega⟩
                  simp [this]
                · refine ⟨_, if_pos rfl, .inr ⟨hpn, cap, ?_, ?_, ?_⟩⟩
                  · simp only; omega
                  · simp only [hp0, hpes]; omega
                  · rw [hcl', hp0]
                · rw [hmm]
                  exact hm.move b s.m.length cb c p _ hm1b hm1 hρ hp rfl (fun _ => hpn) hsz hheap hheld
                · rw [hmm]
                  exact Ext.move b s.m.length cb c p _ hm1b hρ hp rfl (fun _ => hpn) hsz hheap w1 w2 w3
              · exact grows _ cap hXe hfit
        · cases h
      · cases h
    · cases h
  · cases h
end
end Go.Ev
