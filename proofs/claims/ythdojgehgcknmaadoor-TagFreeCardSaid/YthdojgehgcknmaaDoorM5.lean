/-
  copy.
-/
import Derived.Test.YthdojgehgcknmaaDoorM4
namespace Go.Ev

section
variable {E : Env} {R : Type}

theorem take_flat {m : Nat} : ∀ (l : List (List Int)) (i : Nat), (∀ x ∈ l, x.length = m) → l.flatten.take (i * m) = (l.take i).flatten
  | [], i, _ => by simp
  | x :: l, 0, _ => by simp
  | x :: l, i + 1, h => by
    have hx := h x (by simp)
    rw [List.flatten_cons, List.take_succ_cons, List.flatten_cons, Nat.add_mul, Nat.one_mul, List.take_append, hx]
    rw [show i * m + m - m = i * m by omega, take_flat l i (fun y hy => h y (by simp [hy])), List.take_of_length_le (by omega)]
theorem drop_flat {m : Nat} : ∀ (l : List (List Int)) (i : Nat), (∀ x ∈ l, x.length = m) → l.flatten.drop (i * m) = (l.drop i).flatten
  | [], i, _ => by simp
  | x :: l, 0, _ => by simp
  | x :: l, i + 1, h => by
    have hx := h x (by simp)
    rw [List.flatten_cons, List.drop_succ_cons, Nat.add_mul, Nat.one_mul, List.drop_append, hx]
    rw [show i * m + m - m = i * m by omega, drop_flat l i (fun y hy => h y (by simp [hy])), List.drop_eq_nil_of_le (by omega), List.nil_append]

theorem spl_paste {α : Type} (l : List α) (off n : Nat) (x : List α) (h : n ≤ x.length) : spl l off n x = paste l off (x.take n) := by
  simp [spl, paste, Nat.min_eq_left h]
theorem spl_zero {α : Type} (l : List α) (off : Nat) (x : List α) : spl l off 0 x = l := by simp [spl]
theorem spl_mem {α : Type} {l : List α} {off n : Nat} {x : List α} {y : α} (h : y ∈ spl l off n x) : y ∈ l ∨ y ∈ x := by
  simp only [spl, List.mem_append] at h
  rcases h with (h | h) | h
  · exact .inl (List.mem_of_mem_take h)
  · exact .inr (List.mem_of_mem_take h)
  · exact .inl (List.mem_of_mem_drop h)
theorem spl_length {α : Type} (l : List α) (off n : Nat) (x : List α) (h : n ≤ x.length) (h2 : off + n ≤ l.length) : (spl l off n x).length = l.length := by
  simp [spl]; omega
theorem spl_map {α β : Type} (f : α → β) (l : List α) (off n : Nat) (x : List α) : (spl l off n x).map f = spl (l.map f) off n (x.map f) := by simp [spl]

theorem splRow_ok {c x : V} {off n : Nat} {K : V → Option R} {r : R} (h : splRow c off n x K = some r) :
    ∃ c', K c' = some r ∧ (n = 0 → c' = c) ∧ ∀ (ρ : Ren) (p : Info) (cs c2 : List Value), Cells ρ c cs → EOK c p → Cells ρ x c2 → EOK x ⟨false, 0, 0, 0, 0, rowLen x, p.es⟩ → off + n ≤ p.n → n ≤ rowLen x →
      Cells ρ c' (paste cs (off * p.es) (c2.take (n * p.es))) ∧ (∀ q, EOK c q → EOK c' q) := by
  unfold splRow at h
  split at h
  · rename_i k m l k' y
    split at h
    · rename_i hk
      subst hk
      refine ⟨_, h, fun e => by subst e; rw [spl_zero], fun ρ p cs c2 hc he hx _ h1 h2 => ?_⟩
      obtain ⟨rfl, hl, hr⟩ := hc
      obtain ⟨rfl, hy⟩ := hx
      simp only [rowLen] at h2
      obtain ⟨e1, e2⟩ := he
      rw [e2, Nat.mul_one, Nat.mul_one, ← spl_paste _ _ _ _ (by simpa using h2), ← spl_map]
      exact ⟨⟨rfl, by rw [spl_length _ _ _ _ h2 (by omega)]; exact hl, fun z hz => (spl_mem hz).elim (hr z) (hy z)⟩, fun q hq => hq⟩
    · cases h
  · rename_i k l k' y
    split at h
    · rename_i hk
      subst hk
      refine ⟨_, h, fun e => by subst e; rw [spl_zero], fun ρ p cs c2 hc he hx _ h1 h2 => ?_⟩
      obtain ⟨rfl, hr⟩ := hc
      obtain ⟨rfl, hy⟩ := hx
      simp only [rowLen] at h2
      obtain ⟨e1, e2⟩ := he
      rw [e2, Nat.mul_one, Nat.mul_one, ← spl_paste _ _ _ _ (by simpa using h2), ← spl_map]
      exact ⟨⟨rfl, fun z hz => (spl_mem hz).elim (hr z) (hy z)⟩, fun q hq => ⟨by rw [spl_length _ _ _ _ h2 (by omega)]; exact hq.1, hq.2⟩⟩
    · cases h
  · rename_i m l y
    refine ⟨_, h, fun e => by subst e; rw [spl_zero], fun ρ p cs c2 hc he hx _ h1 h2 => ?_⟩
    obtain ⟨rfl, hl⟩ := hc
    simp only [Cells] at hx
    subst hx
    simp only [rowLen] at h2
    obtain ⟨e1, e2⟩ := he
    rw [e2, Nat.mul_one, Nat.mul_one, ← spl_paste _ _ _ _ (by simpa using h2), ← spl_map]
    exact ⟨⟨rfl, by rw [spl_length _ _ _ _ h2 (by omega)]; exact hl⟩, fun q hq => hq⟩
  · rename_i l y
    refine ⟨_, h, fun e => by subst e; rw [spl_zero], fun ρ p cs c2 hc he hx _ h1 h2 => ?_⟩
    simp only [Cells] at hc hx
    subst hx hc
    simp only [rowLen] at h2
    obtain ⟨e1, e2⟩ := he
    rw [e2, Nat.mul_one, Nat.mul_one, ← spl_paste _ _ _ _ (by simpa using h2), ← spl_map]
    exact ⟨rfl, fun q hq => ⟨by rw [spl_length _ _ _ _ h2 (by omega)]; exact hq.1, hq.2⟩⟩
  · rename_i k m l k' m' y
    split at h
    · rename_i hk
      obtain ⟨rfl, rfl⟩ := hk
      refine ⟨_, h, fun e => by subst e; rw [spl_zero], fun ρ p cs c2 hc he hx _ h1 h2 => ?_⟩
      obtain ⟨rfl, hl, hr⟩ := hc
      obtain ⟨rfl, hyl, hy⟩ := hx
      simp only [rowLen] at h2
      obtain ⟨e1, e2⟩ := he
      have hns : ∀ z ∈ spl l off n y, z.length = m := fun z hz => (spl_mem hz).elim (hl z) (hyl z)
      refine ⟨⟨?_, hns, fun z hz => (spl_mem hz).elim (hr z) (hy z)⟩, fun q hq => ⟨by rw [spl_length _ _ _ _ h2 (by omega)]; exact hq.1, hq.2⟩⟩
      rw [e2, ← List.map_take, take_flat y n hyl, paste_map]
      congr 1
      have hlen : (y.take n).flatten.length = n * m := by rw [sum_len _ (fun z hz => hyl z (List.mem_of_mem_take hz)), List.length_take, Nat.min_eq_left h2]
      simp only [paste, hlen]
      rw [take_flat l off hl, ← Nat.add_mul, drop_flat l (off + n) hl]
      simp [spl]
    · cases h
  · cases h

theorem run_copy {ts : Array TypeId} {ty t elem : TypeId} {args : Array Value} {base : Option Addr} {dLen dCap n : Nat} {yv : Value} {c2 : List Value} {w w' : World}
    (h1 : ts[0]? = some t) (h3 : args[0]? = some (.slice base dLen dCap)) (h4 : args[1]? = some yv) (hu : E.P.underlying t = some (.slice elem))
    (hz : 0 < E.size elem) {sl : Nat} (hlen : (Builtin.lenOf yv).run E.P w = .ok sl w) (hn : n = min sl dLen)
    (hfirst : (Builtin.firstCells (E.size elem) n yv).run E.P w = .ok c2.toArray w)
    (hst : match base with | some a => (storeCells a c2).run E.P w = .ok () w' | none => w' = w) : (Builtin.copy_ ts ty args).run E.P w = .ok (goInt n) w' := by
  unfold Builtin.copy_
  simp only [h1, h3, h4]
  rw [Sem.run_bind, run_und hu]
  simp only [Result.andThen_ok]
  rw [Sem.run_bind, hlen]
  simp only [Result.andThen_ok]
  rw [Sem.run_bind, run_size hz]
  simp only [Result.andThen_ok]
  rw [show Nat.min sl dLen = n from hn.symm, Sem.run_bind, hfirst]
  simp only [Result.andThen_ok]
  cases base with
  | none => simp only at hst; subst hst; rfl
  | some a => simp only at hst ⊢; rw [Sem.run_bind, hst]; rfl

theorem copy_ok {full : Bool} {o : Oper} {cl : Call} {s : St} {t elem : TypeId} {X Y : Operand} {K : V → St → List Nat → List Nat → Option R} {r : R}
    (ho : o.op = .call cl) (hcl : cl.callee = .builtin .copy) (ha : cl.args = #[X, Y]) (ht : cl.argTypes[0]? = some t)
    (htd : E.P.underlying t = some (.slice elem)) (h : eCopy E s elem (eopd E s X) (eopd E s Y) K = some r) :
    ∃ v s' rd wr, K v s' rd wr = some r ∧ OpOK E full o s v s' rd wr := by
  generalize hxe : eopd E s X = x at h
  generalize hye : eopd E s Y = y at h
  have hops : o.op.operands = #[X, Y] := by rw [ho]; simp [Op.operands, Call.operands, hcl, ha]
  unfold eCopy at h
  split at h
  · rename_i z hz
    split at h
    · rename_i hzs
      split at h
      · rename_i rr hrr
        split at h
        · rename_i hfit
          -- all that both have in common
          have key : ∀ (b off len : Nat) (n : Nat) (c : V) (k : Option Nat) (m : Int), n = min (rowLen rr) len → n ≤ maxLength → mget s.m b = some (true, c) → c.elems = some (m, k) → E.size elem = k.getD 1 →
              (splRow c off n rr fun c' => K (.int .i64 n) (putM s b (some (true, c'))) y.names [b]) = some r →
              (∀ (ρ : Ren) (p : Info) (xv : Value), VR ρ x xv → ρ b = some p → (p.nil = true → p.n = 0) → m = p.n → ∃ base cap, xv = .slice base len cap ∧ off + len ≤ p.n ∧
                (p.nil = false → 0 < len → base = some ⟨p.blk, p.base + off * p.es, none⟩)) →
              ∃ v s' rd wr, K v s' rd wr = some r ∧ OpOK E full o s v s' rd wr := by
            intro b off len n c k m hn hmax hb hel hes hspl hx
            obtain ⟨c', hk, hzero, hc'⟩ := splRow_ok hspl
            have hw : Wrote s (putM s b (some (true, c'))) b c c' := ⟨hb, rfl⟩
            refine ⟨_, _, _, _, hk, ⟨by rw [hw.len]; exact Nat.le_refl _, rfl, fun x hx _ => hw.rest x (by simpa using hx), fun x hx => by simp at hx; rw [hx]; exact hw.lt, ?_⟩⟩
            intro a w ρ m1 hv hm hg hr hfr _ Q next _ hnext
            left
            have hX : VR ρ x (a.eval X) := by rw [← hxe]; exact hv X (by rw [hops]; simp)
            have hY : VR ρ y (a.eval Y) := by rw [← hye]; exact hv Y (by rw [hops]; simp)
            obtain ⟨c2, hsrc⟩ := src_ok (E := E) hrr hfit hY hm (fun b' hb' => hr b' (.inl hb'))
            have hm1b : m1 b = some (true, c) := (hr b (.inr (by simp))).trans hb
            obtain ⟨p, hp, ⟨cs, f1, f2, f3⟩, f4, f5, f6⟩ := hm.held b true c hm1b
            obtain ⟨e1, e2, e3⟩ := elems_ok hel f4 f1
            obtain ⟨base, cap, hXe, hle, hbase⟩ := hx ρ p _ hX hp (fun hn => (f5 hn).2) e1
            have hespos : 0 < E.size elem := hzs.2
            have hpes : p.es = E.size elem := by rw [e2, hes]
            have hnr : n ≤ rowLen rr := by rw [hn]; exact Nat.min_le_left _ _
            have hnl : n ≤ len := by rw [hn]; exact Nat.min_le_right _ _
            have hEx : EOK rr ⟨false, 0, 0, 0, 0, rowLen rr, p.es⟩ := ((fits_size hfit hsrc.cells).2 _).2 ⟨rfl, by simp only; rw [hpes, hzs.1]⟩
            obtain ⟨hcell, hEOK⟩ := hc' ρ p cs c2 f1 f4 hsrc.cells hEx (by omega) hnr
            have hfirst := hsrc.firsts w.drawn n hnr
            have h3 : (cl.args.map a.eval)[0]? = some (a.eval X) := by simp [ha]
            have h4 : (cl.args.map a.eval)[1]? = some (a.eval Y) := by simp [ha]
            have hxlen : (c2.take (n * z.size)).length = n * z.size := by
              rw [List.length_take, hsrc.size, Nat.min_eq_left (Nat.mul_le_mul_right _ hnr)]
            have fin : ∀ w', RM ρ (fun y => if y = b then some (true, c') else m1 y) w' → Ext ρ m1 w ρ (fun y => if y = b then some (true, c') else m1 y) w' →
                (Builtin.copy_ cl.argTypes o.type (cl.args.map a.eval)).run E.P w = .ok (goInt n) w' → o.wp E.P a w next Q := by
              intro w' h1 h2 hrun
              unfold Oper.wp
              rw [exec_builtin ho hcl]
              have hrun' : ∀ bs, (builtin .copy cl.argTypes o.type bs (cl.args.map a.eval)).run E.P w = .ok (.value (goInt n)) w' := by
                intro bs
                show (do pure (Next.value (← Builtin.copy_ cl.argTypes o.type (cl.args.map a.eval))) : Sem Next).run E.P w = _
                rw [Sem.run_bind, hrun]
                rfl
              rw [hrun' _]
              refine hnext ρ w' _ (fun _ _ => rfl) (VR_int (inR_len (by omega) (by have := max_le; omega))) ?_ ?_
              · rw [hw.merge]; exact h1
              · rw [hw.merge]; exact h2
            by_cases hn0 : n = 0
            · have hcc := hzero hn0
              subst hcc
              have hsame : (fun y => if y = b then some (true, c') else m1 y) = m1 := by
                funext y
                by_cases e : y = b
                · subst e; simp [hm1b]
                · simp [e]
              refine fin w (by rw [hsame]; exact hm) (by rw [hsame]; exact Ext.refl _ _ _) ?_
              refine run_copy (E := E) (c2 := c2.take (n * z.size)) ht (by rw [h3, hXe]) h4 htd hespos hsrc.len hn (by rw [← hzs.1]; exact hfirst) ?_
              rw [hn0]
              cases base with
              | none => rfl
              | some ad => simp [storeCells]
            · have hnil : p.nil = false := by
                cases hpn : p.nil with
                | false => rfl
                | true => have := (f5 hpn).2; omega
              have hbase := hbase hnil (by omega)
              subst hbase
              have how := (f6 hnil).2 rfl
              have hroom : off * p.es + n * p.es ≤ cs.length := by
                rw [e3, ← Nat.add_mul]; exact Nat.mul_le_mul_right _ (by omega)
              have hcs := f2
              have hpsz := how.2.1
              rw [← hpes] at hzs
              have hxl2 : (c2.take (n * p.es)).length = n * p.es := by rw [← hzs.1]; exact hxlen
              have hst : (storeCells ⟨p.blk, p.base + off * p.es, none⟩ (c2.take (n * p.es))).run E.P w = .ok () (w.setCells p.blk (off * p.es) (c2.take (n * p.es))) := by
                have := run_storeCells_cells (P := E.P) p.blk (off * p.es) (c2.take (n * p.es)) 0 w (fun j hj => (how.2.2 (off * p.es + 0 + j) (by omega)).1) (fun j hj => (how.2.2 (off * p.es + 0 + j) (by omega)).2)
                  (fun v hv => Cells.one rr c2 (by intro vs e; subst e; simp [fits] at hfit) hsrc.cells v (List.mem_of_mem_take hv))
                rw [how.1, Nat.zero_add]
                simpa using this
              refine fin _ (hm.write b c c' p cs (off * p.es) (c2.take (n * p.es)) hm1b hp hnil f2 (f3 hnil) (by rw [hxl2]; exact hroom) hcell (fun _ => hEOK p f4)) (Ext.write b c c' p _ _ hm1b hp hnil) ?_
              exact run_copy (E := E) (c2 := c2.take (n * p.es)) ht (by rw [h3, hXe]) h4 htd hespos hsrc.len hn (by rw [← hpes, ← hzs.1]; exact hfirst) hst
          split at h
          · rename_i b
            split at h
            · rename_i c hb
              split at h
              · rename_i len k hel
                split at h
                · rename_i hes
                  simp only [lt] at h
                  obtain ⟨hmax, h⟩ := chk_some h
                  refine key b 0 len.toNat _ c k len rfl (by simpa using hmax) hb hel hes h fun ρ p xv hx hp hnil0 hpn => ?_
                  obtain ⟨q, hq, hx⟩ := vr_own hx
                  rw [hp] at hq; cases hq
                  rcases hx with ⟨hn, rfl⟩ | ⟨hn, cap, hcap, hpsz, rfl⟩
                  · have := hnil0 hn
                    exact ⟨none, 0, by rw [show len.toNat = 0 by omega], by omega, fun h => by rw [hn] at h; cases h⟩
                  · exact ⟨_, cap, by rw [show len.toNat = p.n by omega], by omega, fun _ _ => by simp⟩
                · cases h
              · cases h
            · cases h
          · rename_i b off len
            split at h
            · rename_i c hb
              split at h
              · rename_i m k hel
                split at h
                · rename_i hes
                  simp only [lt] at h
                  obtain ⟨hmax, h⟩ := chk_some h
                  refine key b off.toNat len.toNat _ c k m rfl (by simpa using hmax) hb hel hes h fun ρ p xv hx hp hnil0 hpn => ?_
                  obtain ⟨q, hq, o0, l0, hle, hx⟩ := vr_sl hx
                  rw [hp] at hq; cases hq
                  rcases hx with ⟨hn, rfl⟩ | ⟨hn, cap, ad, hcap, hpsz, rfl, had⟩
                  · have := hnil0 hn
                    exact ⟨none, 0, by rw [show len.toNat = 0 by omega], by omega, fun h => by rw [hn] at h; cases h⟩
                  · exact ⟨some ad, cap - off.toNat, rfl, by omega, fun _ hl => by rw [had (.inl (by omega))]⟩
                · cases h
              · cases h
            · cases h
          · cases h
        · cases h
      · cases h
    · cases h
  · cases h

end
end Go.Ev

/-
  Every operation.
-/
namespace Go.Ev

section
variable {E : Env} {R : Type}

theorem VRL_map {ρ : Ren} {α : Type} {f : α → V} {g : α → Value} : ∀ (l : List α), (∀ x ∈ l, VR ρ (f x) (g x)) → VRL ρ (l.map f) (l.map g)
  | [], _ => rfl
  | x :: l, h => ⟨_, _, rfl, h x (by simp), VRL_map l fun y hy => h y (by simp [hy])⟩

theorem VRL_append {ρ : Ren} : ∀ (a b : List V) (x y : List Value), VRL ρ a x → VRL ρ b y → VRL ρ (a ++ b) (x ++ y)
  | [], b, x, y, h, h' => by simp only [VRL] at h; subst h; exact h'
  | v :: a, b, x, y, h, h' => by
    simp only [VRL] at h
    obtain ⟨u, r, rfl, h1, h2⟩ := h
    exact ⟨u, r ++ y, rfl, h1, VRL_append a b r y h2 h'⟩

theorem VRL_get {ρ : Ren} : ∀ (vs : List V) (xs : List Value) (i : Nat) (v : V), VRL ρ vs xs → vs[i]? = some v → ∃ x, xs[i]? = some x ∧ VR ρ v x
  | [], _, _, _, _, h => by simp at h
  | u :: vs, xs, i, v, h, hi => by
    simp only [VRL] at h
    obtain ⟨x, r, rfl, h1, h2⟩ := h
    cases i with
    | zero => simp at hi; subst hi; exact ⟨x, rfl, h1⟩
    | succ i => simp at hi ⊢; exact VRL_get vs r i v h2 hi

theorem VRL_length {ρ : Ren} : ∀ (vs : List V) (xs : List Value), VRL ρ vs xs → xs.length = vs.length
  | [], _, h => by simp only [VRL] at h; subst h; rfl
  | v :: vs, xs, h => by
    simp only [VRL] at h
    obtain ⟨x, r, rfl, _, h2⟩ := h
    simp [VRL_length vs r h2]

/-- A call, as its place sees it. -/
structure CallOK (E : Env) (full : Bool) (f : FuncId) (args : List V) (s : St) (x : V) (s' : St) (rd wr : List Nat) : Prop where
  len : s.m.length ≤ s'.m.length
  t : s'.t = s.t
  rest : ∀ b, b ∉ wr → b < s.m.length → mget s'.m b = mget s.m b
  wrlt : ∀ b ∈ wr, b < s.m.length
  fn : ∃ fn c, E.P.funcs[f]? = some fn ∧ fn.body = some c
  run : ∀ (w : World) (ρ : Ren) (m1 : Mem) (avs : List Value), VRL ρ args avs → RM ρ m1 w → GOK E ρ →
    (∀ b, b ∈ rd ∨ b ∈ wr → m1 b = mget s.m b) → (∀ b, s.m.length ≤ b → b < s'.m.length → ρ b = none ∧ m1 b = none) → (full = true → ∀ b, s.m.length ≤ b → ρ b = none) →
    Calls E.P f avs.toArray w fun
      | .returned v, w' => ∃ ρ' : Ren, (∀ b, ¬ (s.m.length ≤ b ∧ b < s'.m.length) → ρ' b = ρ b) ∧ VR ρ' x v ∧ RM ρ' (merge m1 wr s s') w' ∧ Ext ρ m1 w ρ' (merge m1 wr s s') w'
      | .panicked _, _ => False
      | .outgrown, _ => False

theorem run_callFunc (hE : EnvOK E) {f : FuncId} {fn : Func} {c : Code} (hf : E.P.funcs[f]? = some fn) (hb : fn.body = some c) (args : Array Value) (w : World) :
    (callFunc f args).run E.P w = .ok (.enter f args) w := by
  unfold callFunc
  have hn := hE.names f fn hf
  have hn' : (fn.name == "runtime.NumGoroutine") = false := by simpa using hn
  simp only [Sem.run_bind, run_program, Result.andThen_ok, hf, hn', hb]
  rfl

theorem OpOK.call {full : Bool} (hE : EnvOK E) {o : Oper} {s : St} {f : FuncId} {args : List V} {x : V} {s' : St} {rd rd0 wr : List Nat} (hc : CallOK E full f args s x s' rd0 wr) (hrd : ∀ b ∈ rd0, b ∈ rd)
    (h : ∀ (a : Act) (w : World) (ρ : Ren) (m1 : Mem), (∀ y ∈ o.op.operands, VR ρ (eopd E s y) (a.eval y)) → RM ρ m1 w → (∀ b ∈ rd, m1 b = mget s.m b) →
      ∃ avs : List Value, (execOp a.eval o).run E.P w = (callFunc f avs.toArray).run E.P w ∧ VRL ρ args avs) : OpOK E full o s x s' rd wr where
  len := hc.len
  t := hc.t
  rest := hc.rest
  wrlt := hc.wrlt
  run := fun a w ρ m1 hv hm hg hr hf hful Q next hlo hn => by
    obtain ⟨avs, h1, h2⟩ := h a w ρ m1 hv hm (fun b hb => hr b (.inl hb))
    obtain ⟨fn, c, e1, e2⟩ := hc.fn
    left
    unfold Oper.wp
    rw [h1, run_callFunc hE e1 e2]
    refine Calls.mono (hc.run w ρ m1 avs h2 hm hg (fun b hb => hr b (hb.imp (hrd b) id)) hf hful) fun e w' he => ?_
    cases e with
    | returned v =>
      obtain ⟨ρ', k1, k2, k3, k4⟩ := he
      exact hn ρ' w' v k1 k2 k3 k4
    | panicked _ => exact he.elim
    | outgrown => exact he.elim

theorem exec_v {o : Oper} {a : Act} {S : Sem Value} {w w' : World} {v : Value} (h : execOp a.eval o = (do pure (Next.value (← S)))) (hs : S.run E.P w = .ok v w') :
    (execOp a.eval o).run E.P w = .ok (.value v) w' := by
  rw [h, Sem.run_bind, hs]
  rfl

/-- writing, as an operation -/
theorem store_ok {full : Bool} {o : Oper} {s s' : St} {t : TypeId} {X Y : Operand} {b : Nat} {c c' : V} (ho : o.op = .store t X Y) (hw : Wrote s s' b c c')
    (h : ∀ (ρ : Ren) (m1 : Mem) (xv uv : Value) (w : World), VR ρ (eopd E s X) xv → VR ρ (eopd E s Y) uv → RM ρ m1 w → m1 b = mget s.m b →
      ∃ w', (Instr.storeAt t xv uv).run E.P w = .ok () w' ∧ RM ρ (fun y => if y = b then some (true, c') else m1 y) w' ∧ Ext ρ m1 w ρ (fun y => if y = b then some (true, c') else m1 y) w') :
    OpOK E full o s (.tuple []) s' [] [b] where
  len := by rw [hw.len]; exact Nat.le_refl _
  t := by rw [hw.now]; rfl
  rest := fun x hx _ => hw.rest x (by simpa using hx)
  wrlt := fun x hx => by simp at hx; rw [hx]; exact hw.lt
  run := fun a w ρ m1 hv hm hg hr hf _ Q next _ hn => by
    have hX := hv X (by rw [ho]; simp [Op.operands])
    have hY := hv Y (by rw [ho]; simp [Op.operands])
    obtain ⟨w', h1, h2, h3⟩ := h ρ m1 _ _ w hX hY hm (hr b (.inr (by simp)))
    left
    unfold Oper.wp
    have : (execOp a.eval o).run E.P w = .ok .skip w' := by
      unfold execOp
      simp only [ho, Sem.run_bind, h1, Result.andThen_ok]
      rfl
    rw [this]
    refine hn ρ w' undef (fun _ _ => rfl) ⟨[], rfl, rfl⟩ ?_ ?_
    · rw [hw.merge]; exact h2
    · rw [hw.merge]; exact h3

theorem maxs_ok {ρ : Ren} {k : IntKind} {P : Program} (w : World) : ∀ (r : List V) (x z : Int) (xs : List Value), maxs x r k = some z → InR k x → VRL ρ r xs →
    (xs.foldlM Builtin.max2 (.int k x)).run P w = .ok (.int k z) w ∧ InR k z
  | [], x, z, xs, h, hx, hv => by
    simp only [maxs] at h
    cases h
    simp only [VRL] at hv
    subst hv
    exact ⟨rfl, hx⟩
  | .int k' y :: r, x, z, xs, h, hx, hv => by
    simp only [maxs] at h
    split at h
    · rename_i hk
      subst hk
      simp only [VRL] at hv
      obtain ⟨u, us, rfl, h1, h2⟩ := hv
      obtain ⟨rfl, hy⟩ := vr_int h1
      have := maxs_ok (P := P) w r (if y > x then y else x) z us h (by split <;> assumption) h2
      refine ⟨?_, this.2⟩
      rw [List.foldlM_cons, Sem.run_bind]
      exact this.1
    · cases h
  | .dead :: _, _, _, _, h, _, _ => by simp [maxs] at h
  | .bool _ :: _, _, _, _, h, _, _ => by simp [maxs] at h
  | .str _ :: _, _, _, _, h, _, _ => by simp [maxs] at h
  | .nilptr :: _, _, _, _, h, _, _ => by simp [maxs] at h
  | .ptr _ _ _ _ _ :: _, _, _, _, h, _, _ => by simp [maxs] at h
  | .rptr _ _ _ _ :: _, _, _, _, h, _, _ => by simp [maxs] at h
  | .nilsl :: _, _, _, _, h, _, _ => by simp [maxs] at h
  | .own _ :: _, _, _, _, h, _, _ => by simp [maxs] at h
  | .sl _ _ _ :: _, _, _, _, h, _, _ => by simp [maxs] at h
  | .nilfn :: _, _, _, _, h, _, _ => by simp [maxs] at h
  | .fn _ _ _ :: _, _, _, _, h, _, _ => by simp [maxs] at h
  | .niliface :: _, _, _, _, h, _, _ => by simp [maxs] at h
  | .iface _ _ :: _, _, _, _, h, _, _ => by simp [maxs] at h
  | .ints _ _ _ :: _, _, _, _, h, _, _ => by simp [maxs] at h
  | .bools _ _ :: _, _, _, _, h, _, _ => by simp [maxs] at h
  | .agg _ :: _, _, _, _, h, _, _ => by simp [maxs] at h
  | .tuple _ :: _, _, _, _, h, _, _ => by simp [maxs] at h
  | .row _ _ :: _, _, _, _, h, _, _ => by simp [maxs] at h
  | .rows _ _ _ :: _, _, _, _, h, _, _ => by simp [maxs] at h
  | .brow _ :: _, _, _, _, h, _, _ => by simp [maxs] at h
  | .srow _ :: _, _, _, _, h, _, _ => by simp [maxs] at h

theorem mins_ok {ρ : Ren} {k : IntKind} {P : Program} (w : World) : ∀ (r : List V) (x z : Int) (xs : List Value), mins x r k = some z → InR k x → VRL ρ r xs →
    (xs.foldlM Builtin.min2 (.int k x)).run P w = .ok (.int k z) w ∧ InR k z
  | [], x, z, xs, h, hx, hv => by
    simp only [mins] at h
    cases h
    simp only [VRL] at hv
    subst hv
    exact ⟨rfl, hx⟩
  | .int k' y :: r, x, z, xs, h, hx, hv => by
    simp only [mins] at h
    split at h
    · rename_i hk
      subst hk
      simp only [VRL] at hv
      obtain ⟨u, us, rfl, h1, h2⟩ := hv
      obtain ⟨rfl, hy⟩ := vr_int h1
      have := mins_ok (P := P) w r (if y < x then y else x) z us h (by split <;> assumption) h2
      refine ⟨?_, this.2⟩
      rw [List.foldlM_cons, Sem.run_bind]
      exact this.1
    · cases h
  | .dead :: _, _, _, _, h, _, _ => by simp [mins] at h
  | .bool _ :: _, _, _, _, h, _, _ => by simp [mins] at h
  | .str _ :: _, _, _, _, h, _, _ => by simp [mins] at h
  | .nilptr :: _, _, _, _, h, _, _ => by simp [mins] at h
  | .ptr _ _ _ _ _ :: _, _, _, _, h, _, _ => by simp [mins] at h
  | .rptr _ _ _ _ :: _, _, _, _, h, _, _ => by simp [mins] at h
  | .nilsl :: _, _, _, _, h, _, _ => by simp [mins] at h
  | .own _ :: _, _, _, _, h, _, _ => by simp [mins] at h
  | .sl _ _ _ :: _, _, _, _, h, _, _ => by simp [mins] at h
  | .nilfn :: _, _, _, _, h, _, _ => by simp [mins] at h
  | .fn _ _ _ :: _, _, _, _, h, _, _ => by simp [mins] at h
  | .niliface :: _, _, _, _, h, _, _ => by simp [mins] at h
  | .iface _ _ :: _, _, _, _, h, _, _ => by simp [mins] at h
  | .ints _ _ _ :: _, _, _, _, h, _, _ => by simp [mins] at h
  | .bools _ _ :: _, _, _, _, h, _, _ => by simp [mins] at h
  | .agg _ :: _, _, _, _, h, _, _ => by simp [mins] at h
  | .tuple _ :: _, _, _, _, h, _, _ => by simp [mins] at h
  | .row _ _ :: _, _, _, _, h, _, _ => by simp [mins] at h
  | .rows _ _ _ :: _, _, _, _, h, _, _ => by simp [mins] at h
  | .brow _ :: _, _, _, _, h, _, _ => by simp [mins] at h
  | .srow _ :: _, _, _, _, h, _, _ => by simp [mins] at h

end
end Go.Ev

/-
  Every operation: the theorem.
-/
namespace Go.Ev

section
variable {E : Env} {R : Type}

theorem optR {E : Env} {s : St} {a : Act} {ρ : Ren} {o : Oper} (hv : ∀ y ∈ o.op.operands, VR ρ (eopd E s y) (a.eval y)) (x : Option Operand) (h : ∀ y, x = some y → y ∈ o.op.operands) :
    OptR ρ (x.map (eopd E s)) (x.map a.eval) := by
  cases x with
  | none => trivial
  | some y => exact hv y (h y rfl)

theorem run_method {s : St} {recv : V} {name : String} {K : FuncId → V → List Nat → Option R} {r : R} (h : eMethod E s recv name K = some r) :
    ∃ f x rd, K f x rd = some r ∧ ∀ (ρ : Ren) (m1 : Mem) (rv : Value) (avs : Array Value) (w : World), VR ρ recv rv → RM ρ m1 w → (∀ b ∈ rd, m1 b = mget s.m b) →
      ∃ z, (callMethod rv name avs).run E.P w = (callFunc f (#[z] ++ avs)).run E.P w ∧ VR ρ x z := by
  unfold eMethod at h
  split at h
  · rename_i t v
    split at h
    · rename_i i hi
      split at h
      · rename_i m hm
        split at h
        · rename_i hpath
          have hp : m.path.toList = [] := by simpa using hpath
          have base : ∀ (f : FuncId) (b : Bool) (y z : Value) (avs : Array Value) (w : World), m.func = some (f, b) →
              (receiverAt t (.val y) b (some ((name.splitOn ".").getLastD name))).run E.P w = .ok z w →
              (callMethod (.iface t y) name avs).run E.P w = (callFunc f (#[z] ++ avs)).run E.P w := by
            intro f b y z avs w hf hr
            unfold callMethod
            simp only [Sem.run_bind, run_program, Result.andThen_ok]
            have hd : E.P.types.size + Made.depth = (E.P.types.size + (Made.depth - 1)) + 1 := by
              have : 0 < Made.depth := by decide
              omega
            rw [hd]
            unfold method
            simp only [Sem.run_bind, typeInfo, run_program, Result.andThen_ok, hi, Sem.run_pure, hm, hp, follow, hf, hpath, if_true, hr]
          split at h
          · rename_i f hf
            split at h
            · rename_i e hu
              have hu := und_some hu (by simp)
              refine ⟨_, _, _, h, fun ρ m1 rv avs w hx _ _ => ?_⟩
              simp only [VR, wrapR, Cells, List.cons.injEq, and_true] at hx
              obtain ⟨y, rfl, hy, _⟩ := hx
              refine ⟨y, base f true y y avs w hf ?_, hy⟩
              unfold receiverAt
              rw [Sem.run_bind, run_und hu]
              rfl
            · cases h
          · rename_i f hf
            split at h
            · rename_i e hu
              have hu := und_some hu (by simp)
              obtain ⟨x, rd, hk, hl⟩ := eLoad_ok h
              refine ⟨_, _, _, hk, fun ρ m1 rv avs w hx hm' hr => ?_⟩
              simp only [VR, wrapR, Cells, List.cons.injEq, and_true] at hx
              obtain ⟨y, rfl, hy, _⟩ := hx
              obtain ⟨z, hz1, hz2⟩ := hl ρ m1 y w hy hm' hr
              have hya : ∃ ad, y = .pointer (some ad) := by
                unfold Instr.loadAt at hz1
                cases y with
                | pointer p =>
                  cases p with
                  | some ad => exact ⟨ad, rfl⟩
                  | none => simp [Instr.sureAddr, stuck] at hz1
                | _ => simp [Instr.sureAddr, stuck] at hz1
              obtain ⟨ad, rfl⟩ := hya
              refine ⟨z, base f false _ z avs w hf ?_, hz2⟩
              unfold receiverAt
              rw [Sem.run_bind, run_und hu]
              simp only [Result.andThen_ok, Place.get, pure_bind]
              exact hz1
            · cases h
            · rename_i hnp hni
              have hu := und_some (E := E) (t := t) (d := E.und t) rfl (by simpa using hni)
              refine ⟨_, _, _, h, fun ρ m1 rv avs w hx _ _ => ?_⟩
              simp only [VR, wrapR, Cells, List.cons.injEq, and_true] at hx
              obtain ⟨y, rfl, hy, _⟩ := hx
              refine ⟨y, base f false y y avs w hf ?_, hy⟩
              unfold receiverAt
              rw [Sem.run_bind, run_und hu]
              simp only [Result.andThen_ok]
              first | rfl | (cases hd : E.und t <;> first | rfl | exact (hnp _ hd).elim)
          · cases h
        · cases h
      · cases h
    · cases h
  · cases h

theorem evOp_ok {full : Bool} (hE : EnvOK E) {call : CallF R} (hcall : ∀ cx f args s K r, call cx f args s K = some r → ∃ x s' rd wr, K x s' rd wr = some r ∧ CallOK E full f args s x s' rd wr)
    {cx : List Nat} {s : St} {o : Oper} {K : V → St → List Nat → List Nat → Option R} {r : R} (h : evOp E call cx s o K = some r) :
    ∃ x s' rd wr, K x s' rd wr = some r ∧ OpOK E full o s x s' rd wr := by
  unfold evOp at h
  simp only at h
  split at h
  · -- move
    rename_i X ho
    refine ⟨_, _, _, _, h, OpOK.read fun a w ρ m1 hv _ _ => ⟨a.eval X, ?_, hv X (by rw [ho]; simp [Op.operands])⟩⟩
    unfold execOp
    simp only [ho]
    rfl
  · rename_i X ho
    refine ⟨_, _, _, _, h, OpOK.read fun a w ρ m1 hv _ _ => ⟨a.eval X, ?_, hv X (by rw [ho]; simp [Op.operands])⟩⟩
    unfold execOp
    simp only [ho]
    rfl
  · -- pick
    rename_i c x y ho
    obtain ⟨v, hk, hv'⟩ := ePick_ok h
    refine ⟨_, _, _, _, hk, OpOK.read fun a w ρ m1 hv _ _ => ?_⟩
    obtain ⟨z, h1, h2⟩ := hv' ρ _ _ _ w (hv c (by rw [ho]; simp [Op.operands])) (hv x (by rw [ho]; simp [Op.operands])) (hv y (by rw [ho]; simp [Op.operands]))
    refine ⟨z, ?_, h2⟩
    unfold execOp
    simp only [ho]
    exact h1
  · -- alloc
    rename_i t ho
    split at h
    · rename_i z hz
      split at h
      · rename_i hsz
        exact ⟨_, _, _, _, h, alloc_ok hE ho hz hsz⟩
      · cases h
    · cases h
  · -- box
    rename_i t X ho
    split at h
    · rename_i hsz
      split at h
      · cases h
      · rename_i hd
        split at h
        · rename_i hf
          exact ⟨_, _, _, _, h, box_ok ho rfl hf hsz⟩
        · cases h
    · cases h
  · -- build
    rename_i t ps ho
    split at h
    · rename_i z hz
      obtain ⟨c, hk, hc⟩ := build_ok hE ho hz h
      exact ⟨_, _, _, _, hk, hc⟩
    · cases h
  · -- buildSlice
    rename_i t n ps ho
    split at h
    · rename_i e hu
      have hu := und_some hu (by simp)
      split at h
      · rename_i c hc
        exact ⟨_, _, _, _, h, buildSlice_ok hE ho hu hc⟩
      · cases h
    · cases h
  · -- load
    rename_i t X ho
    obtain ⟨v, rd, hk, hl⟩ := eLoad_ok h
    refine ⟨_, _, _, _, hk, OpOK.read fun a w ρ m1 hv hm hr => ?_⟩
    obtain ⟨z, h1, h2⟩ := hl ρ m1 _ w (hv X (by rw [ho]; simp [Op.operands])) hm hr
    exact ⟨z, exec_v (S := Instr.loadAt t (a.eval X)) (by unfold execOp; simp only [ho]) h1, h2⟩
  · -- store
    rename_i t X Y ho
    obtain ⟨s', b, c, c', hk, hw, hs⟩ := eStore_ok h
    exact ⟨_, _, _, _, hk, store_ok ho hw hs⟩
  · -- nilCheck
    rename_i X ho
    split at h
    · rename_i b base ext off sz hx
      refine ⟨_, _, _, _, h, OpOK.read fun a w ρ m1 hv _ _ => ?_⟩
      have hX := hv X (by rw [ho]; simp [Op.operands])
      rw [hx] at hX
      refine ⟨a.eval X, ?_, hX⟩
      obtain ⟨p, _, _, _, _, hp⟩ := vr_ptr hX
      unfold execOp
      simp only [ho]
      rw [hp]
      rfl
    · rename_i b i off sz hx
      refine ⟨_, _, _, _, h, OpOK.read fun a w ρ m1 hv _ _ => ?_⟩
      have hX := hv X (by rw [ho]; simp [Op.operands])
      rw [hx] at hX
      refine ⟨a.eval X, ?_, hX⟩
      obtain ⟨p, _, _, _, _, _, _, hp⟩ := vr_rptr hX
      unfold execOp
      simp only [ho]
      rw [hp]
      rfl
    · rename_i f x y hx
      refine ⟨_, _, _, _, h, OpOK.read fun a w ρ m1 hv _ _ => ?_⟩
      have hX := hv X (by rw [ho]; simp [Op.operands])
      rw [hx] at hX
      refine ⟨a.eval X, ?_, hX⟩
      obtain ⟨xs, ys, hp, _, _⟩ := hX
      simp only [List.cons.injEq, and_true] at hp
      unfold execOp
      simp only [ho]
      rw [hp]
      rfl
    · cases h
  · -- binOp
    rename_i op t X Y _ ho
    obtain ⟨v, hk, hb⟩ := eBin_ok hE h
    refine ⟨_, _, _, _, hk, OpOK.read fun a w ρ m1 hv _ _ => ?_⟩
    obtain ⟨z, h1, h2⟩ := hb ρ X Y _ _ w (hv X (by rw [ho]; simp [Op.operands])) (hv Y (by rw [ho]; simp [Op.operands]))
    exact ⟨z, exec_v (S := do eqGuard op t X Y (a.eval X) (a.eval Y); binOp op t (a.eval X) (a.eval Y)) (by unfold execOp; simp only [ho]) h1, h2⟩
  · -- unOp
    rename_i op t X ho
    obtain ⟨v, hk, hb⟩ := eUn_ok h
    refine ⟨_, _, _, _, hk, OpOK.read fun a w ρ m1 hv _ _ => ?_⟩
    obtain ⟨z, h1, h2⟩ := hb ρ _ w (hv X (by rw [ho]; simp [Op.operands]))
    exact ⟨z, exec_v (S := Op.unary op (a.eval X)) (by unfold execOp; simp only [ho]) h1, h2⟩
  · -- convert
    rename_i src dst X ho
    obtain ⟨v, s', rd, hk, hc⟩ := convert_ok ho h
    exact ⟨_, _, _, _, hk, hc⟩
  · -- an array of a slice
    rename_i t X ho
    obtain ⟨v, rd, hk, hl⟩ := eArr_ok h
    refine ⟨_, _, _, _, hk, OpOK.read fun a w ρ m1 hv hm hr => ?_⟩
    obtain ⟨z, h1, h2⟩ := hl ρ m1 _ w (hv X (by rw [ho]; simp [Op.operands])) hm hr
    exact ⟨z, exec_v (S := Instr.arrayAt t (a.eval X)) (by unfold execOp; simp only [ho]) h1, h2⟩
  · -- makeInterface
    rename_i t X ho
    split at h
    · cases h
    · cases h
    · rename_i hni hnv
      have hu := und_some (E := E) (t := t) (d := E.und t) rfl (by simpa using hnv)
      split at h
      · cases h
      · rename_i hnd
        refine ⟨_, _, _, _, h, OpOK.read fun a w ρ m1 hv _ _ => ⟨.iface t (a.eval X), exec_v (S := Instr.makeInterface t (a.eval X)) (by unfold execOp; simp only [ho]) ?_, ?_⟩⟩
        · unfold Instr.makeInterface
          rw [Sem.run_bind, run_und hu]
          simp only [Result.andThen_ok]
          first | rfl | (cases hd : E.und t <;> first | rfl | exact (hni _ hd).elim)
        · exact ⟨_, rfl, hv X (by rw [ho]; simp [Op.operands]), by simpa using hnd⟩
  · -- makeFunc
    rename_i fn first cap ho
    split at h
    · rename_i f
      refine ⟨_, _, _, _, h, OpOK.read fun a w ρ m1 hv _ _ => ⟨.func (.func f) (first.map a.eval) (cap.map a.eval), ?_, ?_⟩⟩
      · unfold execOp
        simp only [ho]
        rfl
      · refine ⟨first.toList.map a.eval, cap.toList.map a.eval, by rw [show first.map a.eval = (first.toList.map a.eval).toArray by (apply Array.ext'; simp), show cap.map a.eval = (cap.toList.map a.eval).toArray by (apply Array.ext'; simp)], VRL_map _ fun x hx => hv x (by rw [ho]; simp [Op.operands]; exact .inl (by simpa using hx)), VRL_map _ fun x hx => hv x (by rw [ho]; simp [Op.operands]; exact .inr (by simpa using hx))⟩
    · cases h
  · -- makeSlice
    rename_i t L C ho
    split at h
    · rename_i e hu
      have hu := und_some hu (by simp)
      split at h
      · rename_i kl n z hL hz
        split at h
        · rename_i hg
          split at h
          · rename_i c hc
            obtain ⟨h0, h⟩ := chk_some h
            obtain ⟨h1, h⟩ := chk_some h
            have h0 : 0 ≤ n := by simpa using h0
            have h1 : n ≤ (maxLength : Nat) := by simpa using h1
            split at h
            · rename_i hs
              have e : C = L := by
                unfold sameTmp at hs
                split at hs
                · rw [beq_iff_eq] at hs; rw [hs]
                · cases hs
              exact ⟨_, _, _, _, h, makeSlice_ok hE ho hu hz hg hc h0 (Int.le_refl _) h1 hL (by rw [e]; exact hL)⟩
            · split at h
              · rename_i kc m hC
                obtain ⟨h2, h⟩ := chk_some h
                obtain ⟨h3, h⟩ := chk_some h
                exact ⟨_, _, _, _, h, makeSlice_ok hE ho hu hz hg hc h0 (by simpa using h2) (by simpa using h3) hL hC⟩
              · cases h
          · cases h
        · cases h
      · cases h
    · cases h
  · -- slice
    rename_i t X lo hi mx ho
    obtain ⟨v, rd, hk, hl⟩ := eSlice_ok h
    refine ⟨_, _, _, _, hk, OpOK.read fun a w ρ m1 hv hm hr => ?_⟩
    obtain ⟨z, h1, h2⟩ := hl ρ m1 _ _ _ _ w (hv X (by rw [ho]; simp [Op.operands])) (optR hv lo (fun y hy => by rw [ho]; simp [Op.operands, hy])) (optR hv hi (fun y hy => by rw [ho]; simp [Op.operands, hy]))
      (optR hv mx (fun y hy => by rw [ho]; simp [Op.operands, hy])) hm hr
    exact ⟨z, exec_v (S := Instr.sliceAt t (a.eval X) (lo.map a.eval) (hi.map a.eval) (mx.map a.eval)) (by unfold execOp; simp only [ho]) h1, h2⟩
  · -- fieldAddr
    rename_i t X f ho
    obtain ⟨v, hk, hl⟩ := eFieldAddr_ok h
    refine ⟨_, _, _, _, hk, OpOK.read fun a w ρ m1 hv hm hr => ?_⟩
    obtain ⟨z, h1, h2⟩ := hl ρ _ w (hv X (by rw [ho]; simp [Op.operands]))
    exact ⟨z, exec_v (S := Instr.fieldAt t (a.eval X) f) (by unfold execOp; simp only [ho]) h1, h2⟩
  · -- field
    rename_i t X f ho
    obtain ⟨v, hk, hl⟩ := eField_ok h
    refine ⟨_, _, _, _, hk, OpOK.read fun a w ρ m1 hv hm hr => ?_⟩
    obtain ⟨z, h1, h2⟩ := hl ρ _ w (hv X (by rw [ho]; simp [Op.operands]))
    exact ⟨z, exec_v (S := Instr.field t (a.eval X) f) (by unfold execOp; simp only [ho]) h1, h2⟩
  · -- indexAddr
    rename_i t X I ho
    obtain ⟨v, rd, hk, hl⟩ := eIndexAddr_ok h
    refine ⟨_, _, _, _, hk, OpOK.read fun a w ρ m1 hv hm hr => ?_⟩
    obtain ⟨z, h1, h2⟩ := hl ρ m1 _ _ w (hv X (by rw [ho]; simp [Op.operands])) (hv I (by rw [ho]; simp [Op.operands])) hm hr
    exact ⟨z, exec_v (S := Instr.indexAt t (a.eval X) (a.eval I)) (by unfold execOp; simp only [ho]) h1, h2⟩
  · -- index
    rename_i t X I ho
    obtain ⟨v, hk, hl⟩ := eIndex_ok h
    refine ⟨_, _, _, _, hk, OpOK.read fun a w ρ m1 hv hm hr => ?_⟩
    obtain ⟨z, h1, h2⟩ := hl ρ _ _ w (hv X (by rw [ho]; simp [Op.operands])) (hv I (by rw [ho]; simp [Op.operands]))
    exact ⟨z, exec_v (S := Instr.index t (a.eval X) (a.eval I)) (by unfold execOp; simp only [ho]) h1, h2⟩
  · -- typeAssert
    rename_i X _ t ok ho
    split at h
    · cases h
    · cases h
    · rename_i hni hnv
      have hu := und_some (E := E) (t := t) (d := E.und t) rfl (by simpa using hnv)
      split at h
      · rename_i t' y hX
        split at h
        · rename_i ht
          subst ht
          refine ⟨_, _, _, _, h, OpOK.read fun a w ρ m1 hv _ _ => ?_⟩
          have hv' := hv X (by rw [ho]; simp [Op.operands])
          rw [hX] at hv'
          simp only [VR, wrapR, Cells, List.cons.injEq, and_true] at hv'
          obtain ⟨x, hx, hy, _⟩ := hv'
          refine ⟨x, exec_v (S := Instr.typeAssert (a.eval X) _ _ false) (by unfold execOp; simp only [ho]; rfl) ?_, hy⟩
          rw [hx]
          unfold Instr.typeAssert
          rw [Sem.run_bind, run_und hu]
          simp only [Result.andThen_ok]
          first | (simp; done) | (cases hd : E.und t' <;> first | (simp; done) | exact (hni _ hd).elim)
        · cases h
      · cases h
  · -- extract
    rename_i X i ho
    split at h
    · rename_i vs hX
      split at h
      · rename_i x hx
        refine ⟨_, _, _, _, h, OpOK.read fun a w ρ m1 hv _ _ => ?_⟩
        have hv' := hv X (by rw [ho]; simp [Op.operands])
        rw [hX] at hv'
        obtain ⟨cs, hcs, hl⟩ := hv'
        obtain ⟨z, hz, hvz⟩ := VRL_get vs cs i x hl hx
        refine ⟨z, exec_v (S := Instr.extract (a.eval X) i) (by unfold execOp; simp only [ho]) ?_, hvz⟩
        rw [hcs]
        unfold Instr.extract
        simp only [List.getElem?_toArray, hz]
        rfl
      · cases h
    · cases h
  · -- a call
    rename_i c ho
    split at h
    · -- of a value
      rename_i f hcl
      split at h
      · rename_i g first cap hf
        obtain ⟨x, s', rd, wr, hk, hc⟩ := hcall _ _ _ _ _ _ h
        refine ⟨_, _, _, _, hk, OpOK.call hE hc (fun _ hb => hb) fun a w ρ m1 hv hm hr => ?_⟩
        have hvf := hv f (by rw [ho]; simp [Op.operands, Call.operands, hcl])
        rw [hf] at hvf
        obtain ⟨xs, ys, hxy, h1, h2⟩ := hvf
        simp only [List.cons.injEq, and_true] at hxy
        refine ⟨xs ++ c.args.toList.map a.eval ++ ys, ?_, VRL_append _ _ _ _ (VRL_append _ _ _ _ h1 (VRL_map _ fun x hx => hv x (by rw [ho]; simp [Op.operands, Call.operands, hcl]; exact .inr (by simpa using hx)))) h2⟩
        unfold execOp
        simp only [ho]
        unfold resolve
        simp only [hcl, hxy, Deferred.ofValue]
        rw [Sem.run_bind]
        simp only [Sem.run_pure, Result.andThen_ok, invoke]
        congr 2
        apply Array.ext'
        simp
      · cases h
    · -- of a method
      rename_i rv name hcl
      obtain ⟨f, x, rd0, h', hmeth⟩ := run_method h
      obtain ⟨y, s', rd, wr, hk, hc⟩ := hcall _ _ _ _ _ _ h'
      refine ⟨_, _, _, _, hk, OpOK.call hE hc (fun b hb => List.mem_append_right _ hb) fun a w ρ m1 hv hm hr => ?_⟩
      have hvr := hv rv (by rw [ho]; simp [Op.operands, Call.operands, hcl])
      obtain ⟨z, h1, h2⟩ := hmeth ρ m1 (a.eval rv) (c.args.map a.eval) w hvr hm (fun b hb => hr b (List.mem_append_left _ hb))
      refine ⟨z :: c.args.toList.map a.eval, ?_, _, _, rfl, h2, VRL_map _ fun x hx => hv x (by rw [ho]; simp [Op.operands, Call.operands, hcl]; exact .inr (by simpa using hx))⟩
      unfold execOp
      simp only [ho]
      unfold resolve
      simp only [hcl]
      rw [Sem.run_bind]
      simp only [Sem.run_pure, Result.andThen_ok, invoke]
      have e1 : (#[a.eval rv] ++ c.args.map a.eval)[0]? = some (a.eval rv) := by rw [Array.getElem?_append_left (by simp)]; rfl
      have e2 : (#[a.eval rv] ++ c.args.map a.eval).extract 1 (#[a.eval rv] ++ c.args.map a.eval).size = c.args.map a.eval := by
        apply Array.ext'
        simp
        exact List.take_of_length_le (by simp)
      simp only [e1, e2]
      rw [h1]
      congr 2
      apply Array.ext'
      simp
    · -- a builtin
      rename_i bi hcl
      have hbv : ∀ {a : Act} {w w' : World} {v : Value}, (∀ bs, (builtin bi c.argTypes o.type bs (c.args.map a.eval)).run E.P w = .ok (.value v) w') → (execOp a.eval o).run E.P w = .ok (.value v) w' := by
        intro a w w' v hb
        rw [exec_builtin ho hcl]
        exact hb _
      have hops : ∀ x ∈ c.args.toList, x ∈ o.op.operands := fun x hx => by
        rw [ho]
        simp [Op.operands, Call.operands, hcl]
        simpa using hx
      split at h
      · -- len
        rename_i x hx
        split at h
        · rename_i t ht
          obtain ⟨X, hX, rfl⟩ : ∃ X, c.args.toList = [X] ∧ eopd E s X = x := by
            cases hl : c.args.toList with
            | nil => rw [hl] at hx; cases hx
            | cons X r =>
              rw [hl] at hx
              cases r with
              | nil => simp at hx; exact ⟨X, rfl, hx⟩
              | cons _ _ => simp at hx
          obtain ⟨v, rd, hk, hl⟩ := eLen_ok h
          refine ⟨_, _, _, _, hk, OpOK.read fun a w ρ m1 hv hm hr => ?_⟩
          have ha : c.args = #[X] := by apply Array.ext'; simpa using hX
          obtain ⟨z, h1, h2⟩ := hl ρ m1 c.argTypes o.type (c.args.map a.eval) (a.eval X) w ht (by simp [ha]) (hv X (hops X (by simp [hX]))) hm hr
          refine ⟨z, hbv fun bs => ?_, h2⟩
          show (do pure (Next.value (← Builtin.len_ c.argTypes o.type (c.args.map a.eval))) : Sem Next).run E.P w = _
          rw [Sem.run_bind, h1]
          rfl
        · cases h
      · -- append
        rename_i x y hx
        obtain ⟨X, Y, hX, rfl, rfl⟩ : ∃ X Y, c.args.toList = [X, Y] ∧ eopd E s X = x ∧ eopd E s Y = y := by
          cases hl : c.args.toList with
          | nil => rw [hl] at hx; cases hx
          | cons X r =>
            rw [hl] at hx
            cases r with
            | nil => simp at hx
            | cons Y r =>
              cases r with
              | nil => simp at hx; exact ⟨X, Y, rfl, hx.1, hx.2⟩
              | cons _ _ => simp at hx
        have ha : c.args = #[X, Y] := by apply Array.ext'; simpa using hX
        split at h
        · rename_i t u ht hu
          split at h
          · rename_i e hte
            have hte := und_some hte (by simp)
            split at h
            · rename_i e' hue
              exact append_ok hE ho hcl ha ht hu hte (.inl ⟨e', und_some hue (by simp)⟩) h
            · rename_i hue
              exact append_ok hE ho hcl ha ht hu hte (.inr (und_some hue (by simp))) h
            · cases h
          · cases h
        · cases h
      · -- copy
        rename_i x y hx
        obtain ⟨X, Y, hX, rfl, rfl⟩ : ∃ X Y, c.args.toList = [X, Y] ∧ eopd E s X = x ∧ eopd E s Y = y := by
          cases hl : c.args.toList with
          | nil => rw [hl] at hx; cases hx
          | cons X r =>
            rw [hl] at hx
            cases r with
            | nil => simp at hx
            | cons Y r =>
              cases r with
              | nil => simp at hx; exact ⟨X, Y, rfl, hx.1, hx.2⟩
              | cons _ _ => simp at hx
        have ha : c.args = #[X, Y] := by apply Array.ext'; simpa using hX
        split at h
        · rename_i t ht
          split at h
          · rename_i e hte
            exact copy_ok ho hcl ha ht (und_some hte (by simp)) h
          · cases h
        · cases h
      · -- max
        rename_i k x r' hx
        split at h
        · rename_i z hz
          refine ⟨_, _, _, _, h, OpOK.read fun a w ρ m1 hv hm hr => ?_⟩
          have hall := VRL_map (ρ := ρ) (f := eopd E s) (g := a.eval) c.args.toList fun x hx => hv x (hops x hx)
          rw [hx] at hall
          obtain ⟨u, us, hus, h1, h2⟩ := hall
          obtain ⟨rfl, hr⟩ := vr_int h1
          obtain ⟨k1, k2⟩ := maxs_ok (P := E.P) w r' x z us hz hr h2
          refine ⟨.int k z, hbv fun bs => ?_, VR_int k2⟩
          show (do pure (Next.value (← Builtin.max_ c.argTypes o.type (c.args.map a.eval))) : Sem Next).run E.P w = _
          have e : (c.args.map a.eval).toList = .int k x :: us := by rw [Array.toList_map]; exact hus
          unfold Builtin.max_
          rw [e]
          simp only
          rw [Sem.run_bind, k1]
          rfl
        · cases h
      · -- min
        rename_i k x r' hx
        split at h
        · rename_i z hz
          refine ⟨_, _, _, _, h, OpOK.read fun a w ρ m1 hv hm hr => ?_⟩
          have hall := VRL_map (ρ := ρ) (f := eopd E s) (g := a.eval) c.args.toList fun x hx => hv x (hops x hx)
          rw [hx] at hall
          obtain ⟨u, us, hus, h1, h2⟩ := hall
          obtain ⟨rfl, hr⟩ := vr_int h1
          obtain ⟨k1, k2⟩ := mins_ok (P := E.P) w r' x z us hz hr h2
          refine ⟨.int k z, hbv fun bs => ?_, VR_int k2⟩
          show (do pure (Next.value (← Builtin.min_ c.argTypes o.type (c.args.map a.eval))) : Sem Next).run E.P w = _
          have e : (c.args.map a.eval).toList = .int k x :: us := by rw [Array.toList_map]; exact hus
          unfold Builtin.min_
          rw [e]
          simp only
          rw [Sem.run_bind, k1]
          rfl
        · cases h
      · cases h
  · cases h

end
end Go.Ev

/-
  States; values that name nothing; describing a state anew.
-/
namespace Go.Ev

/-- What it is that a frame and a world are in an abstract state. -/
structure RS (E : Env) (ρ : Ren) (s : St) (a : Act) (w : World) : Prop where
  defers : a.defers = []
  size : a.tmps.size = s.t.length
  t : ∀ i, VR ρ (s.tv i) (a.tmps.getD i undef)
  m : RM ρ (mget s.m) w
  names : ∀ b, s.m.length ≤ b → ρ b = none
  g : GOK E ρ

theorem wrapR_agree {v : V} {C D : List Value → Prop} (h : ∀ cs, C cs → D cs) {x : Value} (hx : wrapR v C x) : wrapR v D x := wrapR_mono h hx

mutual
theorem Cells.agree {ρ ρ' : Ren} : ∀ (v : V) (cs : List Value), (∀ b ∈ v.names, ρ' b = ρ b) → Cells ρ v cs → Cells ρ' v cs
  | .dead, _, _, h => h
  | .bool _, _, _, h => h
  | .int _ _, _, _, h => h
  | .str _, _, _, h => h
  | .nilptr, _, _, h => h
  | .ptr b _ _ _ _, _, hs, h => by
    simp only [Cells] at h ⊢
    obtain ⟨p, hp, r⟩ := h
    exact ⟨p, (hs b (by simp [V.names])).trans hp, r⟩
  | .rptr b _ _ _, _, hs, h => by
    simp only [Cells] at h ⊢
    obtain ⟨p, hp, r⟩ := h
    exact ⟨p, (hs b (by simp [V.names])).trans hp, r⟩
  | .nilsl, _, _, h => h
  | .own b, _, hs, h => by
    simp only [Cells] at h ⊢
    obtain ⟨p, hp, r⟩ := h
    exact ⟨p, (hs b (by simp [V.names])).trans hp, r⟩
  | .sl b _ _, _, hs, h => by
    simp only [Cells] at h ⊢
    obtain ⟨p, hp, r⟩ := h
    exact ⟨p, (hs b (by simp [V.names])).trans hp, r⟩
  | .nilfn, _, _, h => h
  | .fn _ a c, _, hs, h => by
    simp only [Cells] at h ⊢
    obtain ⟨xs, ys, e, h1, h2⟩ := h
    exact ⟨xs, ys, e, VRL.agree a xs (fun b hb => hs b (by simp [V.names, hb])) h1, VRL.agree c ys (fun b hb => hs b (by simp [V.names, hb])) h2⟩
  | .niliface, _, _, h => h
  | .iface _ v, _, hs, h => by
    simp only [Cells] at h ⊢
    obtain ⟨x, e, h1, h2⟩ := h
    exact ⟨x, e, wrapR_mono (fun cs hc => Cells.agree v cs (fun b hb => hs b (by simpa [V.names] using hb)) hc) h1, h2⟩
  | .ints _ _ _, _, _, h => h
  | .bools _ _, _, _, h => h
  | .agg vs, cs, hs, h => CellsL.agree vs cs (fun b hb => hs b (by simpa [V.names] using hb)) h
  | .tuple vs, cs, hs, h => VRL.agree vs cs (fun b hb => hs b (by simpa [V.names] using hb)) h
  | .row _ _, _, _, h => h
  | .rows _ _ _, _, _, h => h
  | .brow _, _, _, h => h
  | .srow _, _, _, h => h
theorem CellsL.agree {ρ ρ' : Ren} : ∀ (vs : List V) (cs : List Value), (∀ b ∈ V.namesL vs, ρ' b = ρ b) → CellsL ρ vs cs → CellsL ρ' vs cs
  | [], _, _, h => h
  | v :: vs, _, hs, h => by
    simp only [CellsL] at h ⊢
    obtain ⟨c1, c2, e, hl, h1, h2⟩ := h
    exact ⟨c1, c2, e, hl, Cells.agree v c1 (fun b hb => hs b (by simp [V.namesL, hb])) h1, CellsL.agree vs c2 (fun b hb => hs b (by simp [V.namesL, hb])) h2⟩
theorem VRL.agree {ρ ρ' : Ren} : ∀ (vs : List V) (xs : List Value), (∀ b ∈ V.namesL vs, ρ' b = ρ b) → VRL ρ vs xs → VRL ρ' vs xs
  | [], _, _, h => h
  | v :: vs, _, hs, h => by
    simp only [VRL] at h ⊢
    obtain ⟨x, r, e, h1, h2⟩ := h
    exact ⟨x, r, e, wrapR_mono (fun cs hc => Cells.agree v cs (fun b hb => hs b (by simp [V.namesL, hb])) hc) h1, VRL.agree vs r (fun b hb => hs b (by simp [V.namesL, hb])) h2⟩
end

theorem VR.agree {ρ ρ' : Ren} {v : V} {x : Value} (hs : ∀ b ∈ v.names, ρ' b = ρ b) (h : VR ρ v x) : VR ρ' v x := wrapR_mono (fun cs hc => Cells.agree v cs hs hc) h

mutual
theorem enc_names : ∀ (c : Cd) (x : c.T), (c.enc x).names = []
  | .int _, _ => rfl
  | .bool, _ => rfl
  | .str, _ => rfl
  | .ints _ _, _ => rfl
  | .bools _, _ => rfl
  | .row _, _ => rfl
  | .rows _ _, _ => rfl
  | .brow, _ => rfl
  | .srow, _ => rfl
  | .agg l, x => by
    show V.namesL (Cd.encL l x) = []
    exact encL_names l x
theorem encL_names : ∀ (l : List Cd) (x : Cd.TL l), V.namesL (Cd.encL l x) = []
  | [], _ => rfl
  | c :: cs, x => by
    show (c.enc x.1).names ++ V.namesL (Cd.encL cs x.2) = []
    rw [enc_names c x.1, encL_names cs x.2]
    rfl
end

theorem none_some {α : Type} {x : α} {P : Prop} (h : none = some x) : P := by cases h

mutual
theorem dec_enc : ∀ (c : Cd) (v : V) (x : c.T), c.dec v = some x → v = c.enc x
  | .int k, v, x, h => by
    cases v <;> first | exact none_some h | skip
    rename_i k' n
    have h : (if k = k' then some n else none) = some x := h
    split at h
    · rename_i e; cases h; rw [e]; rfl
    · cases h
  | .bool, v, x, h => by
    cases v <;> first | exact none_some h | skip
    rename_i b
    have h : some b = some x := h
    cases h
    rfl
  | .str, v, x, h => by
    cases v <;> first | exact none_some h | skip
    rename_i b
    have h : some b = some x := h
    cases h
    rfl
  | .ints k n, v, x, h => by
    cases v <;> first | exact none_some h | skip
    rename_i k' n' l
    have h : (if k = k' then (if n = n' then some l else none) else none) = some x := h
    split at h
    · rename_i e
      split at h
      · rename_i e'; cases h; rw [e, e']; rfl
      · cases h
    · cases h
  | .bools n, v, x, h => by
    cases v <;> first | exact none_some h | skip
    rename_i n' l
    have h : (if n = n' then some l else none) = some x := h
    split at h
    · rename_i e; cases h; rw [e]; rfl
    · cases h
  | .row k, v, x, h => by
    cases v <;> first | exact none_some h | skip
    rename_i k' n
    have h : (if k = k' then some n else none) = some x := h
    split at h
    · rename_i e; cases h; rw [e]; rfl
    · cases h
  | .rows k n, v, x, h => by
    cases v <;> first | exact none_some h | skip
    rename_i k' n' l
    have h : (if k = k' then (if n = n' then some l else none) else none) = some x := h
    split at h
    · rename_i e
      split at h
      · rename_i e'; cases h; rw [e, e']; rfl
      · cases h
    · cases h
  | .brow, v, x, h => by
    cases v <;> first | exact none_some h | skip
    rename_i b
    have h : some b = some x := h
    cases h
    rfl
  | .srow, v, x, h => by
    cases v <;> first | exact none_some h | skip
    rename_i b
    have h : some b = some x := h
    cases h
    rfl
  | .agg l, v, x, h => by
    cases v <;> first | exact none_some h | skip
    rename_i vs
    have h : Cd.decL l vs = some x := h
    show V.agg vs = V.agg (Cd.encL l x)
    rw [decL_enc l vs x h]
theorem decL_enc : ∀ (l : List Cd) (vs : List V) (x : Cd.TL l), Cd.decL l vs = some x → vs = Cd.encL l x
  | [], [], x, _ => rfl
  | [], _ :: _, _, h => none_some h
  | _ :: _, [], _, h => none_some h
  | c :: cs, v :: vs, x, h => by
    have h : (match c.dec v with
      | some x => match Cd.decL cs vs with
        | some y => some (x, y)
        | none => none
      | none => none) = some x := h
    split at h
    · rename_i y hy
      split at h
      · rename_i z hz
        cases h
        show v :: vs = c.enc y :: Cd.encL cs z
        rw [← dec_enc c v y hy, ← decL_enc cs vs z hz]
      · cases h
    · cases h
end

mutual
theorem same_eq : ∀ (u v : V), u.same v = true → u = v
  | .nilptr, v, h => by cases v <;> simp [V.same] at h; rfl
  | .nilfn, v, h => by cases v <;> simp [V.same] at h; rfl
  | .niliface, v, h => by cases v <;> simp [V.same] at h; rfl
  | .nilsl, v, h => by cases v <;> simp [V.same] at h; rfl
  | .own a, v, h => by cases v <;> simp [V.same] at h; rw [h]
  | .ptr a b e off c, v, h => by
    unfold V.same at h
    split at h <;> simp_all
  | .fn f a c, v, h => by
    cases v <;> simp [V.same] at h
    obtain ⟨h1, h2, h3⟩ := h
    rw [h1, sameL_eq _ _ h2, sameL_eq _ _ h3]
  | .dead, v, h => by simp [V.same] at h
  | .bool _, v, h => by simp [V.same] at h
  | .int _ _, v, h => by simp [V.same] at h
  | .str _, v, h => by simp [V.same] at h
  | .rptr _ _ _ _, v, h => by simp [V.same] at h
  | .sl _ _ _, v, h => by simp [V.same] at h
  | .iface _ _, v, h => by simp [V.same] at h
  | .ints _ _ _, v, h => by simp [V.same] at h
  | .bools _ _, v, h => by simp [V.same] at h
  | .agg _, v, h => by simp [V.same] at h
  | .tuple _, v, h => by simp [V.same] at h
  | .row _ _, v, h => by simp [V.same] at h
  | .rows _ _ _, v, h => by simp [V.same] at h
  | .brow _, v, h => by simp [V.same] at h
  | .srow _, v, h => by simp [V.same] at h
theorem sameL_eq : ∀ (u v : List V), V.sameL u v = true → u = v
  | [], [], _ => rfl
  | [], _ :: _, h => by simp [V.sameL] at h
  | _ :: _, [], h => by simp [V.sameL] at h
  | x :: xs, y :: ys, h => by
    simp [V.sameL] at h
    rw [same_eq x y h.1, sameL_eq xs ys h.2]
end

theorem VR_enc {ρ ρ' : Ren} {c : Cd} {x : c.T} {v : Value} (h : VR ρ (c.enc x) v) : VR ρ' (c.enc x) v := h.agree (by rw [enc_names]; simp)
theorem Cells_enc {ρ ρ' : Ren} {c : Cd} {x : c.T} {cs : List Value} (h : Cells ρ (c.enc x) cs) : Cells ρ' (c.enc x) cs := Cells.agree _ _ (by rw [enc_names]; simp) h

/-! ### Operands -/

theorem eopd_ok {E : Env} {ρ : Ren} {s : St} {a : Act} {w : World} (h : RS E ρ s a w) (y : Operand) : VR ρ (eopd E s y) (a.eval y) := by
  cases y with
  | tmp t => exact h.t t
  | const v =>
    simp only [eopd, Act.eval]
    unfold ofConst
    split
    · rfl
    · split
      · rename_i hk; exact VR_int hk
      · trivial
    · exact ⟨_, rfl, rfl⟩
    · rfl
    · rfl
    · rfl
    · rfl
    · trivial
  | global g =>
    show VR ρ (match E.gsz g with | 0 => .dead | n => .ptr g 0 n 0 n) (.pointer (some ⟨g, 0, none⟩))
    cases hz : E.gsz g with
    | zero => trivial
    | succ k =>
      obtain ⟨p, h1, h2, h3, h4, h5⟩ := h.g g k hz
      have := VR_ptr (ρ := ρ) (b := g) (base := 0) (ext := k + 1) (off := 0) (sz := k + 1) h1 h2 (Int.le_refl 0) (by simp) (by omega) rfl
      rw [h3, h4] at this
      exact this
  | func f => exact ⟨[], [], rfl, rfl, rfl⟩

end Go.Ev

/-
  Blocks under new names.
-/
namespace Go.Ev

/-- A block that no other one of this memory is. -/
theorem RM.insert {ρ ρ' : Ren} {m : Mem} {w : World} (h : RM ρ m w) (hs : Sub ρ ρ') (b : Nat) (c : V) (p : Info) (hp : ρ' b = some p) (hh : Held ρ' p true c w)
    (hne : ∀ y z q, m y = some z → y ≠ b → ρ y = some q → q.nil = false → p.nil = false → q.blk ≠ p.blk) :
    RM ρ' (fun x => if x = b then some (true, c) else m x) w where
  held := fun x wr d hx => by
    by_cases e : x = b
    · subst e
      simp at hx
      obtain ⟨rfl, rfl⟩ := hx
      exact ⟨p, hp, hh⟩
    · simp [e] at hx
      obtain ⟨q, hq, hd⟩ := h.held x wr d hx
      exact ⟨q, hs x q hq, hd.same hs (Nat.le_refl _) (fun _ => rfl)⟩
  excl := fun x d x' y q q' hx hx' hxx hq hq' hn hn' => by
    have old : ∀ x z q, m x = some z → ρ' x = some q → ρ x = some q := fun x z q hx hq => by
      obtain ⟨q0, hq0, _⟩ := h.held x z.1 z.2 hx
      have := hs x q0 hq0
      rw [hq] at this
      cases this
      exact hq0
    by_cases e : x = b
    · subst e
      rw [hp] at hq; cases hq
      have e' : x' ≠ x := fun e => hxx e.symm
      simp [e'] at hx'
      exact (hne x' y q' hx' e' (old x' y q' hx' hq') hn' hn).symm
    · simp [e] at hx
      by_cases e' : x' = b
      · subst e'
        rw [hp] at hq'; cases hq'
        exact hne x _ q hx e (old x _ q hx hq) hn hn'
      · simp [e'] at hx'
        exact h.excl x d x' y q q' hx hx' hxx (old x _ q hx hq) (old x' _ q' hx' hq') hn hn'

theorem dec0_row {c : Cd} {x : c.T} (h : c.dec0 = some x) (ρ : Ren) : Cells ρ (c.enc x) [] ∧ fits c.zero (c.enc x) = true ∧ rowLen (c.enc x) = 0 := by
  cases c <;> first | exact none_some h | skip
  · have h : some [] = some x := h
    cases h
    exact ⟨⟨rfl, by simp⟩, by simp [fits, Cd.enc, Cd.zero], rfl⟩
  · have h : some [] = some x := h
    cases h
    exact ⟨⟨rfl, by simp, by simp⟩, by simp [fits, Cd.enc, Cd.zero], rfl⟩
  · have h : some [] = some x := h
    cases h
    exact ⟨rfl, rfl, rfl⟩
  · have h : some [] = some x := h
    cases h
    exact ⟨⟨[], rfl, rfl, by simp⟩, rfl, rfl⟩

theorem decN_row {c : Cd} {v : V} {n : Int} {x : c.T} (h : c.decN v n = some x) : rowP v 0 n = some (c.enc x) ∧ fits c.zero (c.enc x) = true := by
  cases c <;> first | exact none_some h | skip
  · rename_i k
    cases v <;> first | exact none_some h | skip
    rename_i k' l
    have h : (if k = k' then some (l.take n.toNat) else none) = some x := h
    split at h
    · rename_i e
      cases h
      subst e
      exact ⟨rfl, by simp [fits, Cd.enc, Cd.zero]⟩
    · cases h
  · rename_i k m
    cases v <;> first | exact none_some h | skip
    rename_i k' m' l
    have h : (if k = k' then (if m = m' then some (l.take n.toNat) else none) else none) = some x := h
    split at h
    · rename_i e
      split at h
      · rename_i e'
        cases h
        subst e e'
        exact ⟨rfl, by simp [fits, Cd.enc, Cd.zero]⟩
      · cases h
    · cases h
  · cases v <;> first | exact none_some h | skip
    rename_i l
    have h : some (l.take n.toNat) = some x := h
    cases h
    exact ⟨rfl, rfl⟩
  · cases v <;> first | exact none_some h | skip
    rename_i l
    have h : some (l.take n.toNat) = some x := h
    cases h
    exact ⟨rfl, rfl⟩

/-- A slice that one may write, under another name. -/
theorem own_ok {ρ : Ren} {m : List (Option (Bool × V))} {w : World} {c : Cd} {v : V} {x : c.T} {xv : Value} (h : ownOf m c v = some x) (hv : VR ρ v xv) (hm : RM ρ (mget m) w) :
    ∃ p : Info, (∀ (ρ2 : Ren) n, ρ2 n = some p → VR ρ2 (.own n) xv) ∧ (∀ ρ2, Held ρ2 p true (c.enc x) w) ∧
      (p.nil = false → ∃ b ∈ v.names, ∃ c0 p0, mget m b = some (true, c0) ∧ ρ b = some p0 ∧ p0.nil = false ∧ p0.blk = p.blk) := by
  unfold ownOf at h
  split at h
  · obtain rfl : xv = .slice none 0 0 := by simpa [VR, wrapR, Cells] using hv
    refine ⟨{ nil := true, blk := 0, base := 0, psz := 0, cn := 0, n := 0, es := c.zero.size }, fun ρ2 n hn => ⟨_, hn, .inl ⟨rfl, rfl⟩⟩, fun ρ2 => ?_, by simp⟩
    obtain ⟨h1, h2, h3⟩ := dec0_row h ρ2
    exact ⟨⟨[], h1, rfl, by simp⟩, ((fits_size h2 h1).2 _).2 ⟨h3.symm, rfl⟩, fun _ => ⟨rfl, rfl⟩, by simp⟩
  · rename_i b
    split at h
    · rename_i v0 hb
      have e := dec_enc c v0 x h
      obtain ⟨p, hp, hx⟩ := vr_own hv
      obtain ⟨q, hq, hd⟩ := hm.held b true v0 hb
      rw [hp] at hq; cases hq
      refine ⟨p, fun ρ2 n hn => ⟨p, hn, ?_⟩, fun ρ2 => ?_, fun hn => ⟨b, by simp [V.names], v0, p, hb, hp, hn, rfl⟩⟩
      · rcases hx with ⟨h1, h2⟩ | ⟨h1, cap, h2, h3, h4⟩
        · exact .inl ⟨h1, by rw [h2]⟩
        · exact .inr ⟨h1, cap, h2, h3, by rw [h4]⟩
      · obtain ⟨⟨cs, h1, h2⟩, h3⟩ := hd
        rw [e] at h1 h3
        exact ⟨⟨cs, Cells_enc h1, h2⟩, h3⟩
    · cases h
  · rename_i b n
    split at h
    · rename_i v0 hb
      obtain ⟨hrow, hfit⟩ := decN_row h
      obtain ⟨p, hp, o0, l0, hle, hx⟩ := vr_sl hv
      obtain ⟨q, hq, ⟨cs, f1, f2, f3⟩, f4, f5, f6⟩ := hm.held b true v0 hb
      rw [hp] at hq; cases hq
      have hle : n ≤ p.n := by simpa using hle
      obtain ⟨k1, k2⟩ := rowP_ok hrow f1 f4 f2 (Int.le_refl 0) l0 (by omega)
      obtain ⟨a', ha'⟩ := rowC_of_rowP hrow
      have hcn := EOK_cn ha' f1 f4
      have hes := fits_es hfit (.inr hrow) f4
      have hmul : n.toNat * p.es ≤ p.n * p.es := Nat.mul_le_mul_right _ (by omega)
      simp only [Int.toNat_zero, Nat.zero_mul] at k1
      refine ⟨{ p with n := n.toNat, cn := n.toNat * p.es }, fun ρ2 m hm2 => ⟨_, hm2, ?_⟩, fun ρ2 => ?_, fun hn => ⟨b, by simp [V.names], v0, p, hb, hp, hn, rfl⟩⟩
      · rcases hx with ⟨h1, h2⟩ | ⟨h1, cap, ad, h2, h3, h4, h5⟩
        · exact .inl ⟨h1, by rw [h2]⟩
        · refine .inr ⟨h1, cap, by simp only; simpa using h2, h3, ?_⟩
          have e := h5 (.inr rfl)
          simp only [h4, e]
          simp
      · refine ⟨⟨cut cs 0 (n.toNat * p.es), Cells_enc k1, cut_length _ _ _ (by omega), fun hn j v hj => ?_⟩, ((fits_size hfit k1).2 _).2 ⟨k2.symm, by simp only; exact hes⟩, fun hn => ?_, fun hn => ⟨⟨(f6 hn).1.1, ?_⟩, fun _ => ?_⟩⟩
        · have : cs[j]? = some v := by
            simp only [cut, List.drop_zero] at hj
            rw [List.getElem?_take] at hj
            split at hj
            · exact hj
            · cases hj
          exact f3 hn j v this
        · have h5 := (f5 hn).2
          have : n.toNat = 0 := by omega
          simp only [this, Nat.zero_mul, and_self]
        · have := (f6 hn).1.2
          simp only
          omega
        · obtain ⟨g1, g2, g3⟩ := (f6 hn).2 rfl
          exact ⟨g1, by simp only; omega, g3⟩
    · cases h
  · cases h

end Go.Ev
