/-
  From a contract to a law: arguments that came in, package variables, what is left behind.
-/
import Derived.Test.YthdojgehgcknmaaDoorM11
import Derived.Below
import Derived.OpenShut
import Derived.ChangeMaps5
import Derived.Carry
namespace Go.Ev
open Go.RowKit Go.ChangeShapes

/-- A law's call: what it answers, and that nothing that was there has changed. -/
theorem SigOK.calls {E : Env} {f : FuncId} {g : Sig} (h : SigOK E f g) {m : List (Option (Bool × V))} (hlock : ∀ b c, mget m b ≠ some (true, c)) {args : List V} {avs : List Value} {ρ : Ren} {W : World}
    (hv : VRL ρ args avs) (hm : RM ρ (mget m) W) (hg : GOK E ρ) (hn : ∀ b, m.length ≤ b → ρ b = none) (hsig : g (V × List V × List (Nat × V)) args m (fun v cs us => some (v, cs, us)) = some (.bool true, [], [])) :
    Calls E.P f avs.toArray W fun e W' => e = .returned (.bool true) ∧ Below W.heap.size W W' := by
  obtain ⟨v, cs, us, h1, h2⟩ := h _ args ⟨[], m⟩ _ _ hsig
  cases h1
  refine Calls.mono ((h2 true).run W ρ (mget m) avs hv hm hg (fun _ _ => rfl) (fun b h1 h2 => ⟨hn b h1, mget_ge h1⟩) fun _ => hn) fun e W' he => ?_
  cases e with
  | returned v =>
    obtain ⟨ρ', k1, k2, k3, k4⟩ := he
    have : v = .bool true := vr_bool k2
    subst this
    refine ⟨rfl, k4.os, k4.tape, k4.output, k4.size, fun k hk => k4.keep k hk ?_⟩
    rintro ⟨b, c, p, e1, _⟩
    exact hlock b c e1
  | panicked _ => exact he.elim
  | outgrown => exact he.elim

/-- A contract's answer, by its parts. -/
theorem sig_true {gl : List (Option V)} {l : List Ac} {r : List Rc} {F : Acs.T l → Option (Rcs.T r × Cd.TL (Acs.mutC l))} {R : Type} {args : List V} {m : List (Option (Bool × V))} {K : V → List V → List (Nat × V) → Option R} {x : Acs.T l} {y : Rcs.T r × Cd.TL (Acs.mutC l)} {z : R}
    (h1 : globOK gl m = true) (h2 : (nodup (Acs.muts l args) && disj (Acs.muts l args) (Acs.refs l args)) = true) (h3 : Acs.dec m l args = some x) (h4 : ∀ k : Option R, Acs.chk l args k = k) (h5 : F x = some y)
    (h6 : K (ret1 (Rcs.vals m.length r y.1)) (Rcs.blks r y.1) (Muts.upd (Acs.mutC l) y.2 (Acs.muts l args)) = some z) : sigOf gl l r F R args m K = some z := by
  unfold sigOf
  rw [if_pos ⟨h1, h2⟩, h3]
  simp only
  rw [h4, h5]
  exact h6

/-! ### What came in, as cells -/

section
variable {H : Type} {enc : TypeId × Value → H} {P : Program} {w : World} {base : Nat} {spare : Nat → Bool} {held : Bool}

theorem mapM_inv {α β : Type} {f : α → Option β} : ∀ (l : List α) (r : List β), l.mapM f = some r → ∀ x ∈ l, ∃ y, f x = some y
  | [], _, _ => fun x hx => by cases hx
  | a :: l, r, h => by
    rw [List.mapM_cons] at h
    simp only [bind, Option.bind_eq_some_iff, pure] at h
    obtain ⟨y, hy, ys, hys, _⟩ := h
    intro x hx
    rcases List.mem_cons.1 hx with rfl | hx
    · exact ⟨y, hy⟩
    · exact mapM_inv l ys hys x hx

theorem leaf_cells {α : Type} {is : TypeDesc → Bool} {val : α → Value} {ok : α → Prop}
    (hleaf : ∀ fuel t d cs x, P.underlying t = some d → is d = true → cs.length = 1 → DataW.trod enc P w base spare held fuel t cs = some x → ∃ a, cs = [val a] ∧ ok a) :
    ∀ (D : Nat) (t : TypeId) (fuel : Nat) (cs : List Value) (x : DataW H × List MemPlace), leafAt P is D t = true → cs.length = P.cellsOf t → DataW.trod enc P w base spare held fuel t cs = some x → ∃ l : List α, cs = l.map val ∧ ∀ a ∈ l, ok a := by
  intro D
  induction D with
  | zero => intro t fuel cs x h; simp [leafAt] at h
  | succ D ih =>
    intro t fuel cs x h hlen ht
    unfold leafAt at h
    -- chunks
    have join : ∀ (n c : Nat) (cs : List Value), cs.length = n * c → (∀ i, i < n → ∃ l : List α, (cs.drop (i * c)).take c = l.map val ∧ ∀ a ∈ l, ok a) → ∃ l : List α, cs = l.map val ∧ ∀ a ∈ l, ok a := by
      intro n
      induction n with
      | zero => intro c cs hl _; simp at hl; subst hl; exact ⟨[], rfl, by simp⟩
      | succ n ihn =>
        intro c cs hl hall
        obtain ⟨l0, h0, k0⟩ := hall 0 (by omega)
        simp only [Nat.zero_mul, List.drop_zero] at h0
        obtain ⟨l1, h1, k1⟩ := ihn c (cs.drop c) (by rw [List.length_drop, hl, Nat.succ_mul]; omega) fun i hi => by
          obtain ⟨l, e, k⟩ := hall (i + 1) (by omega)
          refine ⟨l, ?_, k⟩
          rw [List.drop_drop, show c + i * c = (i + 1) * c by rw [Nat.succ_mul]; omega]
          exact e
        refine ⟨l0 ++ l1, ?_, fun a ha => ?_⟩
        · rw [List.map_append, ← h0, ← h1, List.take_append_drop]
        · rcases List.mem_append.1 ha with h | h
          · exact k0 a h
          · exact k1 a h
    split at h
    · rename_i n e hu
      simp only [Bool.and_eq_true, beq_iff_eq] at h
      cases fuel with
      | zero => simp [DataW.trod] at ht
      | succ fuel =>
        unfold DataW.trod at ht
        simp only [hu] at ht
        rw [if_pos hlen] at ht
        simp only [Option.map_eq_some_iff] at ht
        obtain ⟨xs, hxs, _⟩ := ht
        refine join n (P.cellsOf e) cs (by rw [hlen, h.1]) fun i hi => ?_
        obtain ⟨y, hy⟩ := mapM_inv _ _ hxs i (List.mem_range.2 hi)
        refine ih e fuel _ y h.2 ?_ hy
        have : i * P.cellsOf e + P.cellsOf e ≤ n * P.cellsOf e := by rw [← Nat.succ_mul]; exact Nat.mul_le_mul_right _ hi
        rw [List.length_take, List.length_drop, hlen, h.1]
        omega
    · rename_i fs hu
      simp only [Bool.and_eq_true] at h
      obtain ⟨h1, h2, h3⟩ := h
      cases fuel with
      | zero => simp [DataW.trod] at ht
      | succ fuel =>
        unfold DataW.trod at ht
        simp only [hu] at ht
        rw [if_pos hlen] at ht
        simp only [Option.map_eq_some_iff] at ht
        obtain ⟨xs, hxs, _⟩ := ht
        have key : ∀ (r : List Field) (off : Nat), offsOK P off r (P.cellsOf t) = true → (∀ f ∈ r, leafAt P is D f.type = true ∧ ∃ y, DataW.trod enc P w base spare held fuel f.type ((cs.drop f.offset).take (P.cellsOf f.type)) = some y) →
            (∃ l : List α, cs.drop off = l.map val ∧ ∀ a ∈ l, ok a) ∧ off ≤ P.cellsOf t := by
          intro r
          induction r with
          | nil =>
            intro off ho _
            simp only [offsOK, beq_iff_eq] at ho
            exact ⟨⟨[], by rw [List.drop_of_length_le (by omega)]; rfl, by simp⟩, by omega⟩
          | cons f r ih2 =>
            intro off ho hall
            simp only [offsOK, Bool.and_eq_true, beq_iff_eq] at ho
            obtain ⟨ho1, ho2⟩ := ho
            obtain ⟨⟨l1, e1, k1⟩, hle⟩ := ih2 _ ho2 fun g hg => hall g (by simp [hg])
            obtain ⟨hf, y, hy⟩ := hall f (by simp)
            obtain ⟨l0, e0, k0⟩ := ih f.type fuel _ y hf (by rw [List.length_take, List.length_drop, hlen, ho1]; omega) hy
            refine ⟨⟨l0 ++ l1, ?_, fun a ha => ?_⟩, by omega⟩
            · rw [List.map_append, ← e0, ← e1, ho1, ← List.drop_drop, List.take_append_drop]
            · rcases List.mem_append.1 ha with h | h
              · exact k0 a h
              · exact k1 a h
        exact (key fs.toList 0 h2 fun f hf => ⟨List.all_eq_true.1 h3 f hf, mapM_inv _ _ hxs f hf⟩).1
    · rename_i d hna hns hu
      simp only [Bool.and_eq_true, beq_iff_eq] at h
      rw [h.2] at hlen
      obtain ⟨a, e, k⟩ := hleaf fuel t d cs x hu h.1 hlen ht
      exact ⟨[a], e, by simpa using k⟩
    · cases h

theorem ints_came {k : IntKind} {t : TypeId} {fuel : Nat} {cs : List Value} {x : DataW H × List MemPlace} (h : leafAt P (fun d => match d with | .int q => q == k | _ => false) 20 t = true) (hl : cs.length = P.cellsOf t)
    (ht : DataW.trod enc P w base spare held fuel t cs = some x) : ∃ l : List Int, cs = l.map (Value.int k) ∧ ∀ a ∈ l, InR k a := by
  refine leaf_cells (fun fuel t d cs x hu hd hlen ht => ?_) 20 t fuel cs x h hl ht
  cases d <;> simp only [Bool.false_eq_true] at hd
  rename_i q
  have hq : q = k := by simpa using hd
  subst hq
  obtain ⟨n, e1, _, e3⟩ := DataW.trod_int hu ht
  refine ⟨n, e1, ?_⟩
  simp only [Lit.wf, Bool.and_eq_true, decide_eq_true_eq] at e3
  exact e3

/-- An argument that is an array or a struct of integers. -/
theorem open_leaf {k : IntKind} {t : TypeId} {n : Nat} {v : Value} {d : DataW H} {ps : List MemPlace} {r : Reach} {b0 : Nat} (h1 : leafAt P (fun d => match d with | .int q => q == k | _ => false) 20 t = true) (h4 : P.cellsOf t = n)
    (h5 : (match P.underlying t with | some (.struct _) | some (.array _ _) => true | _ => false) = true) (hval : Value.okWide P w r b0 t v) (hd : DataW.Trod enc P w base spare held t v d ps) :
    ∃ l : List Int, v = .agg (l.map (Value.int k)).toArray ∧ l.length = n ∧ ∀ a ∈ l, InR k a := by
  obtain ⟨cs, rfl, hsz⟩ : ∃ cs, v = .agg cs ∧ cs.size = P.cellsOf t := by
    unfold Value.okWide at hval
    split at h5
    · rename_i hu; rw [hu] at hval; obtain ⟨cs, e1, e2, _⟩ := hval; exact ⟨cs, e1, e2⟩
    · rename_i hu; rw [hu] at hval; obtain ⟨cs, e1, e2, _⟩ := hval; exact ⟨cs, e1, e2⟩
    · cases h5
  obtain ⟨fuel, hf⟩ := hd
  obtain ⟨l, e, hok⟩ := ints_came h1 (by simpa [Value.cells] using hsz) hf
  have e : cs.toList = l.map (Value.int k) := e
  have hcs : cs = (l.map (Value.int k)).toArray := by rw [← e]
  refine ⟨l, by rw [hcs], ?_, hok⟩
  have := congrArg List.length e
  simp at this
  omega

end

theorem wf_inR {k : IntKind} {n : Int} (h : (Lit.int k n).wf = true) : InR k n := by
  simp only [Lit.wf, Bool.and_eq_true, decide_eq_true_eq] at h
  exact h

theorem VR_leaf {ρ : Ren} {k : IntKind} {n : Nat} {l : List Int} (hl : l.length = n) (hr : ∀ a ∈ l, InR k a) : VR ρ (.ints k n l) (.agg (l.map (Value.int k)).toArray) := ⟨_, rfl, rfl, hl, hr⟩
theorem VR_str {ρ : Ren} (s : ByteArray) : VR ρ (.str (s.data.toList.map fun b => (b.toNat : Int))) (.string s) := ⟨s, rfl, rfl⟩

/-- The one package variable, locked. -/
theorem RM_glob {g : Nat} {k : IntKind} {n : Nat} {l : List Int} {W : World} (hl : l.length = n) (hr : ∀ a ∈ l, InR k a) (hg : g < W.heap.size) (hc : ∀ j, j < n → W.cell? ⟨g, j, none⟩ = some (.int k (l.getD j 0))) :
    RM (fun b => if b = g then some { nil := false, blk := g, base := 0, psz := n, cn := n, n := n, es := 1 } else none) (fun b => if b = g then some (false, .ints k n l) else none) W where
  held := fun b wr c hb => by
    by_cases e : b = g
    · subst e
      simp at hb
      obtain ⟨rfl, rfl⟩ := hb
      refine ⟨{ nil := false, blk := b, base := 0, psz := n, cn := n, n := n, es := 1 }, by simp, ⟨l.map (Value.int k), ⟨rfl, hl, hr⟩, by simp [hl], fun _ j v hj => ?_⟩, ⟨rfl, rfl⟩, fun h => (by cases h), fun _ => ⟨⟨hg, by simp⟩, fun h => by cases h⟩⟩
      simp only [Nat.zero_add]
      have hjl : j < l.length := by
        rcases Nat.lt_or_ge j l.length with h | h
        · exact h
        · rw [List.getElem?_eq_none (by simpa using h)] at hj; cases hj
      rw [hc j (by omega)]
      rw [List.getElem?_map, List.getElem?_eq_getElem hjl] at hj
      simp at hj
      rw [← hj, List.getD_eq_getElem?_getD, List.getElem?_eq_getElem hjl]
      rfl
    · simp [e] at hb
  excl := fun b c b' x p p' hb _ _ _ _ _ _ => by
    by_cases e : b = g
    · simp [e] at hb
    · simp [e] at hb

theorem str_in (s : ByteArray) : ∀ a ∈ (s.data.toList.map fun b => (b.toNat : Int)), InR .u8 a := by
  intro a ha
  obtain ⟨b, _, rfl⟩ := List.mem_map.1 ha
  have e1 : IntKind.u8.min = 0 := by decide
  have e2 : IntKind.u8.max = 255 := by decide
  unfold InR
  rw [e1, e2]
  have := UInt8.toNat_lt b
  omega

end Go.Ev

