/-
  What a seat's environment has to show: zeros, comparisons of whole values, the rest.
-/
import Derived.Test.YthdojgehgcknmaaDoorM10
import Derived.DeepKeys
import Derived.Laws.StructEq
import Derived.IntWalk
namespace Go.Ev

/-! ### Zeros -/

mutual
/-- the cells of a value without names -/
def vClo : V → Option (List Value)
  | .bool b => some [.bool b]
  | .int k n => if k.min ≤ n ∧ n ≤ k.max then some [.int k n] else none
  | .str l => match l with | [] => some [.string ⟨#[]⟩] | _ => none
  | .nilptr => some [.pointer none]
  | .nilsl => some [.slice none 0 0]
  | .nilfn => some [.nilFunc]
  | .niliface => some [.nilIface]
  | .ints k n l => if l.length = n ∧ l.all (fun x => decide (k.min ≤ x) && decide (x ≤ k.max)) = true then some (l.map (Value.int k)) else none
  | .bools n l => if l.length = n then some (l.map Value.bool) else none
  | .agg vs => vClos vs
  | _ => none
def vClos : List V → Option (List Value)
  | [] => some []
  | v :: vs => match vClo v with
    | some c1 => if c1.length = v.size ∧ v.flat = true then match vClos vs with
      | some c2 => some (c1 ++ c2)
      | none => none
      else none
    | none => none
end

mutual
theorem vClo_ok {ρ : Ren} : ∀ (v : V) (cs : List Value), vClo v = some cs → Cells ρ v cs
  | .dead, _, h => by simp [vClo] at h
  | .bool b, cs, h => by simp [vClo] at h; subst h; rfl
  | .int k n, cs, h => by
    unfold vClo at h
    split at h
    · rename_i hk; cases h; exact ⟨rfl, hk⟩
    · cases h
  | .str l, cs, h => by
    cases l with
    | nil => cases h; exact ⟨⟨#[]⟩, rfl, rfl⟩
    | cons a l => cases h
  | .nilptr, cs, h => by simp [vClo] at h; subst h; rfl
  | .ptr _ _ _ _ _, _, h => by simp [vClo] at h
  | .rptr _ _ _ _, _, h => by simp [vClo] at h
  | .nilsl, cs, h => by simp [vClo] at h; subst h; rfl
  | .own _, _, h => by simp [vClo] at h
  | .sl _ _ _, _, h => by simp [vClo] at h
  | .nilfn, cs, h => by simp [vClo] at h; subst h; rfl
  | .fn _ _ _, _, h => by simp [vClo] at h
  | .niliface, cs, h => by simp [vClo] at h; subst h; rfl
  | .iface _ _, _, h => by simp [vClo] at h
  | .ints k n l, cs, h => by
    unfold vClo at h
    split at h
    · rename_i hk
      cases h
      refine ⟨rfl, hk.1, fun x hx => ?_⟩
      have := List.all_eq_true.1 hk.2 x hx
      simp only [Bool.and_eq_true, decide_eq_true_eq] at this
      exact this
    · cases h
  | .bools n l, cs, h => by
    unfold vClo at h
    split at h
    · rename_i hk; cases h; exact ⟨rfl, hk⟩
    · cases h
  | .agg vs, cs, h => vClos_ok vs cs h
  | .tuple _, _, h => by simp [vClo] at h
  | .row _ _, _, h => by simp [vClo] at h
  | .rows _ _ _, _, h => by simp [vClo] at h
  | .brow _, _, h => by simp [vClo] at h
  | .srow _, _, h => by simp [vClo] at h
theorem vClos_ok {ρ : Ren} : ∀ (vs : List V) (cs : List Value), vClos vs = some cs → CellsL ρ vs cs
  | [], cs, h => by simp [vClos] at h; exact h
  | v :: vs, cs, h => by
    unfold vClos at h
    split at h
    · rename_i c1 h1
      split at h
      · rename_i hk
        split at h
        · rename_i c2 h2
          cases h
          exact ⟨c1, c2, rfl, hk, vClo_ok v c1 h1, vClos_ok vs c2 h2⟩
        · cases h
      · cases h
    · cases h
end

def zval (v : V) : Value := match v with
  | .ints _ _ _ | .bools _ _ | .agg _ => match vClo v with | some cs => .agg cs.toArray | none => .nilFunc
  | v => match vClo v with | some [x] => x | _ => .nilFunc
def zok (v : V) : Bool := v.flat && (match v with
  | .ints _ _ _ | .bools _ _ | .agg _ => (vClo v).isSome
  | v => match vClo v with | some [_] => true | _ => false)

theorem zok_ok {v : V} (h : zok v = true) (ρ : Ren) : VR ρ v (zval v) := by
  unfold zok at h
  simp only [Bool.and_eq_true] at h
  obtain ⟨hf, h⟩ := h
  have key : ∀ (cs : List Value), vClo v = some cs → Cells ρ v cs := fun cs hc => vClo_ok v cs hc
  cases v <;> first
    | (simp [V.flat] at hf; done)
    | (simp only at h
       obtain ⟨cs, hcs⟩ := Option.isSome_iff_exists.1 h
       refine ⟨cs, ?_, key cs hcs⟩
       simp only [zval, hcs]
       done)
    | (simp only at h
       split at h
       · rename_i x hx
         have := key [x] hx
         simp only [VR, wrapR, zval, hx]
         exact this
       · cases h)

theorem zero_of {P : Program} {t : TypeId} {z : V} (h1 : zok z = true) (h2 : ∀ w, (zeroValue t).run P w = .ok (zval z) w) :
    z.flat = true ∧ ∃ x, (∀ w, (zeroValue t).run P w = .ok x w) ∧ ∀ ρ, VR ρ z x := by
  refine ⟨?_, zval z, h2, zok_ok h1⟩
  unfold zok at h1
  simp only [Bool.and_eq_true] at h1
  exact h1.1

/-! ### Comparing whole values -/

def offsOK (P : Program) : Nat → List Field → Nat → Bool
  | off, [], m => off == m
  | off, f :: r, m => f.offset == off && offsOK P (off + P.cellsOf f.type) r m
/-- all cells are of one kind -/
def leafAt (P : Program) (is : TypeDesc → Bool) : Nat → TypeId → Bool
  | 0, _ => false
  | D + 1, t => match P.underlying t with
    | some (.array n e) => P.cellsOf t == n * P.cellsOf e && leafAt P is D e
    | some (.struct fs) => fs.all (·.name != "_") && (offsOK P 0 fs.toList (P.cellsOf t) && fs.toList.all fun f => leafAt P is D f.type)
    | some d => is d && P.cellsOf t == 1
    | none => false

theorem flatten_chunks {α : Type} (c : Nat) : ∀ (n : Nat) (l : List α), l.length = n * c → ((List.range n).map fun i => (l.drop (i * c)).take c).flatten = l := by
  intro n
  induction n with
  | zero => intro l hl; simp at hl; simp [hl]
  | succ n ih =>
    intro l hl
    rw [List.range_succ, List.map_append, List.flatten_append]
    have hl1 : (l.take (n * c)).length = n * c := by rw [List.length_take, hl, Nat.succ_mul]; omega
    have h1 : ((List.range n).map fun i => (l.drop (i * c)).take c) = (List.range n).map fun i => ((l.take (n * c)).drop (i * c)).take c := by
      refine List.map_congr_left fun i hi => ?_
      have hi := List.mem_range.1 hi
      have : i * c + c ≤ n * c := by rw [← Nat.succ_mul]; exact Nat.mul_le_mul_right _ hi
      rw [List.drop_take, List.take_take, Nat.min_eq_left (by omega)]
    rw [h1, ih _ hl1]
    simp only [List.map_cons, List.map_nil, List.flatten_cons, List.flatten_nil, List.append_nil]
    have h2 : (l.drop (n * c)).take c = l.drop (n * c) := List.take_of_length_le (by rw [List.length_drop, hl, Nat.succ_mul]; omega)
    rw [h2, List.take_append_drop]

section
variable {α : Type} {P : Program} {is : TypeDesc → Bool} {val : α → Value} {lit : α → Lit} {ok : α → Prop}

theorem mapM_some {α β : Type} (f : α → Option β) (g : α → β) : ∀ (l : List α), (∀ x ∈ l, f x = some (g x)) → l.mapM f = some (l.map g)
  | [], _ => rfl
  | x :: l, h => by
    rw [List.mapM_cons, h x (by simp), mapM_some f g l fun y hy => h y (by simp [hy])]
    rfl

theorem keyLits_leaf (hleaf : ∀ D t d x, P.underlying t = some d → is d = true → ok x → P.keyLits (D + 1) t [val x] = some [lit x]) :
    ∀ (D : Nat) (t : TypeId) (l : List α), leafAt P is D t = true → l.length = P.cellsOf t → (∀ x ∈ l, ok x) → P.keyLits D t (l.map val) = some (l.map lit) := by
  intro D
  induction D with
  | zero => intro t l h; simp [leafAt] at h
  | succ D ih =>
    intro t l h hl hok
    unfold leafAt at h
    split at h
    · rename_i n e hu
      simp only [Bool.and_eq_true, beq_iff_eq] at h
      unfold Program.keyLits
      simp only [hu]
      rw [if_pos (by simpa using hl)]
      rw [mapM_some _ (fun i => ((l.drop (i * P.cellsOf e)).take (P.cellsOf e)).map lit) _ fun i hi => ?_]
      · simp only [Option.map_some, Option.some.injEq]
        have := flatten_chunks (P.cellsOf e) n (l.map lit) (by simp [hl, h.1])
        rw [← this]
        congr 1
        refine List.map_congr_left fun i _ => ?_
        rw [List.map_take, List.map_drop]
      · have hi := List.mem_range.1 hi
        have hle : i * P.cellsOf e + P.cellsOf e ≤ n * P.cellsOf e := by rw [← Nat.succ_mul]; exact Nat.mul_le_mul_right _ hi
        rw [← List.map_drop, ← List.map_take]
        refine ih e _ h.2 ?_ fun x hx => hok x (List.mem_of_mem_drop (List.mem_of_mem_take hx))
        rw [List.length_take, List.length_drop, hl, h.1]
        omega
    · rename_i fs hu
      simp only [Bool.and_eq_true] at h
      obtain ⟨h1, h2, h3⟩ := h
      unfold Program.keyLits
      simp only [hu]
      rw [if_pos ⟨by simpa using hl, h1⟩]
      have key : ∀ (r : List Field) (off m : Nat), offsOK P off r m = true → (∀ f ∈ r, leafAt P is D f.type = true) → m = l.length →
          r.mapM (fun f => P.keyLits D f.type (((l.map val).drop f.offset).take (P.cellsOf f.type))) = some (r.map fun f => ((l.drop f.offset).take (P.cellsOf f.type)).map lit) ∧
            (r.map fun f => ((l.drop f.offset).take (P.cellsOf f.type)).map lit).flatten = (l.drop off).map lit ∧ off ≤ m := by
        intro r
        induction r with
        | nil =>
          intro off m ho _ hm
          simp only [offsOK, beq_iff_eq] at ho
          subst ho
          refine ⟨rfl, ?_, Nat.le_refl _⟩
          rw [List.drop_of_length_le (by omega)]
          rfl
        | cons f r ih2 =>
          intro off m ho hf hm
          simp only [offsOK, Bool.and_eq_true, beq_iff_eq] at ho
          obtain ⟨ho1, ho2⟩ := ho
          obtain ⟨k1, k2, k3⟩ := ih2 _ m ho2 (fun g hg => hf g (by simp [hg])) hm
          refine ⟨?_, ?_, by omega⟩
          · rw [List.mapM_cons, k1, ← List.map_drop, ← List.map_take, ih f.type _ (hf f (by simp)) (by rw [List.length_take, List.length_drop, ho1]; omega) fun x hx => hok x (List.mem_of_mem_drop (List.mem_of_mem_take hx))]
            rfl
          · rw [List.map_cons, List.flatten_cons, k2, ho1, ← List.map_append]
            congr 1
            rw [← List.drop_drop, List.take_append_drop]
      obtain ⟨k1, k2, _⟩ := key fs.toList 0 (P.cellsOf t) h2 (fun f hf => List.all_eq_true.1 h3 f hf) hl.symm
      rw [k1]
      simp only [Option.map_some, Option.some.injEq]
      rw [k2]
      rfl
    · rename_i d hna hns hu
      simp only [Bool.and_eq_true, beq_iff_eq] at h
      rw [h.2] at hl
      match l, hl with
      | [x], _ => exact hleaf D t d x hu h.1 (hok x (by simp))
    · cases h

theorem eq_leaf (hleaf : ∀ D t d x, P.underlying t = some d → is d = true → ok x → P.keyLits (D + 1) t [val x] = some [lit x]) (hinj : ∀ x y, lit x = lit y → x = y)
    [BEq α] [LawfulBEq α] {t : TypeId} {n : Nat} (h1 : leafAt P is 20 t = true) (h2 : P.keyTypeAt 20 t = true) (h3 : P.eqGuardType P.depth t = false) (h4 : P.cellsOf t = n)
    (h5 : (match P.underlying t with | some (.struct _) | some (.array _ _) => true | _ => false) = true) (X Y : Operand) (a b : List α) (w : World) (ha : a.length = n) (hb : b.length = n) (oa : ∀ x ∈ a, ok x) (ob : ∀ x ∈ b, ok x) :
    (eqGuard .eql t X Y (.agg (a.map val).toArray) (.agg (b.map val).toArray)).run P w = .ok () w ∧
    (eqGuard .neq t X Y (.agg (a.map val).toArray) (.agg (b.map val).toArray)).run P w = .ok () w ∧
    (Op.equal t (.agg (a.map val).toArray) (.agg (b.map val).toArray)).run P w = .ok (a == b) w := by
  refine ⟨run_eqGuard_agg w _ t X Y _ _ h3, run_eqGuard_agg w _ t X Y _ _ h3, ?_⟩
  have ka := keyLits_leaf hleaf 20 t a h1 (by rw [ha, h4]) oa
  have kb := keyLits_leaf hleaf 20 t b h1 (by rw [hb, h4]) ob
  have form : ∀ l : List α, l.length = n → (Value.agg (l.map val).toArray).formed P t = true := fun l hl => by
    unfold Value.formed
    split at h5
    · rename_i hu; simp [hu, hl, h4]
    · rename_i hu; simp [hu, hl, h4]
    · cases h5
  obtain ⟨r, hr, hiff⟩ := run_equalIn_deep 9980 20 t h2 w 20 20 _ _ _ _ (form a ha) (form b hb) (by simpa [Value.cells] using ka) (by simpa [Value.cells] using kb)
  have : (Op.equal t (.agg (a.map val).toArray) (.agg (b.map val).toArray)).run P w = .ok r w := hr
  rw [this]
  congr 1
  rw [Bool.eq_iff_iff, hiff, beq_iff_eq]
  constructor
  · intro e
    exact List.map_inj_right hinj |>.1 e
  · intro e; rw [e]

end

theorem eq_ints {P : Program} {k : IntKind} {t : TypeId} {n : Nat} (h1 : leafAt P (fun d => match d with | .int q => q == k | _ => false) 20 t = true) (h2 : P.keyTypeAt 20 t = true) (h3 : P.eqGuardType P.depth t = false) (h4 : P.cellsOf t = n)
    (h5 : (match P.underlying t with | some (.struct _) | some (.array _ _) => true | _ => false) = true) : ∀ (X Y : Operand) (a b : List Int) (w : World), a.length = n → b.length = n → (∀ x ∈ a, InR k x) → (∀ x ∈ b, InR k x) →
    (eqGuard .eql t X Y (.agg (a.map (Value.int k)).toArray) (.agg (b.map (Value.int k)).toArray)).run P w = .ok () w ∧
    (eqGuard .neq t X Y (.agg (a.map (Value.int k)).toArray) (.agg (b.map (Value.int k)).toArray)).run P w = .ok () w ∧
    (Op.equal t (.agg (a.map (Value.int k)).toArray) (.agg (b.map (Value.int k)).toArray)).run P w = .ok (a == b) w := by
  intro X Y a b w
  refine eq_leaf (lit := Lit.int k) (ok := InR k) (fun D t d x hu hd hx => ?_) (fun x y e => by cases e; rfl) h1 h2 h3 h4 h5 X Y a b w
  cases d <;> simp only [Bool.false_eq_true] at hd
  rename_i q
  have hq : q = k := by simpa using hd
  subst hq
  unfold Program.keyLits
  simp only [hu]
  rw [if_pos ⟨trivial, by simp only [Lit.wf, Bool.and_eq_true, decide_eq_true_eq]; exact hx⟩]

theorem eq_bools {P : Program} {t : TypeId} {n : Nat} (h1 : leafAt P (fun d => match d with | .bool => true | _ => false) 20 t = true) (h2 : P.keyTypeAt 20 t = true) (h3 : P.eqGuardType P.depth t = false) (h4 : P.cellsOf t = n)
    (h5 : (match P.underlying t with | some (.struct _) | some (.array _ _) => true | _ => false) = true) : ∀ (X Y : Operand) (a b : List Bool) (w : World), a.length = n → b.length = n →
    (eqGuard .eql t X Y (.agg (a.map Value.bool).toArray) (.agg (b.map Value.bool).toArray)).run P w = .ok () w ∧
    (eqGuard .neq t X Y (.agg (a.map Value.bool).toArray) (.agg (b.map Value.bool).toArray)).run P w = .ok () w ∧
    (Op.equal t (.agg (a.map Value.bool).toArray) (.agg (b.map Value.bool).toArray)).run P w = .ok (a == b) w := by
  intro X Y a b w ha hb
  refine eq_leaf (lit := Lit.bool) (ok := fun _ => True) (fun D t d x hu hd hx => ?_) (fun x y e => by cases e; rfl) h1 h2 h3 h4 h5 X Y a b w ha hb (fun _ _ => trivial) (fun _ _ => trivial)
  cases d <;> simp only [Bool.false_eq_true] at hd
  unfold Program.keyLits
  simp only [hu]

/-! ### The rest -/

theorem names_of {P : Program} (h : (P.funcs.all fun f => f.name != "runtime.NumGoroutine") = true) : ∀ (f : Nat) (fn : Func), P.funcs[f]? = some fn → fn.name ≠ "runtime.NumGoroutine" := fun f fn hf => by
  have := Array.all_eq_true_iff_forall_mem.1 h fn (Array.mem_of_getElem? hf)
  simpa using this

theorem place_of {P : Program} {t : TypeId} (h : (match P.underlying t with
    | some (.struct fs) => (fs.toList.mapM (fun f => (P.info? f.type).map fun i => (f.offset, i.size))).isSome
    | _ => true) = true) : ∀ fs, P.underlying t = some (.struct fs) → ∃ pl, fs.toList.mapM (fun f => (P.info? f.type).map fun i => (f.offset, i.size)) = some pl := by
  intro fs hu
  rw [hu] at h
  exact Option.isSome_iff_exists.1 h

/-! ### Contracts in another environment of the same program -/

theorem CallOK.env {E E' : Env} (hP : E.P = E'.P) (hg : E.gsz = E'.gsz) {full : Bool} {f : FuncId} {args : List V} {s : St} {x : V} {s' : St} {rd wr : List Nat} (h : CallOK E full f args s x s' rd wr) : CallOK E' full f args s x s' rd wr := by
  obtain ⟨h1, h2, h3, h4, h5, h6⟩ := h
  refine ⟨h1, h2, h3, h4, by rw [← hP]; exact h5, fun w ρ m1 avs a b c => ?_⟩
  rw [← hP]
  exact h6 w ρ m1 avs a b (by intro g n hgn; exact c g n (by rw [← hg]; exact hgn))

theorem SigOK.env {E E' : Env} (hP : E.P = E'.P) (hg : E.gsz = E'.gsz) (hn : E.gn = E'.gn) {f : FuncId} {g : Sig} (h : SigOK E f g) : SigOK E' f g := by
  intro R args s K r hr
  obtain ⟨v, cs, us, h1, h2⟩ := h R args s K r hr
  refine ⟨v, cs, us, h1, fun full => ?_⟩
  rw [← hn]
  exact (h2 full).env hP hg

end Go.Ev

/-
  Words for plain proofs about the printed functions.
-/
namespace Go.Ev

/-! ### The small words -/

theorem lt_eq {α β : Type} (x : α) (f : α → β) : lt x f = f x := rfl
theorem obind_eq {α β : Type} (x : α) (f : α → Option β) : obind (some x) f = f x := rfl
theorem sel_inl {α β γ : Type} (x : α) (f : α → γ) (g : β → γ) : sel (.inl x) f g = f x := rfl
theorem sel_inr {α β γ : Type} (x : β) (f : α → γ) (g : β → γ) : sel (.inr x) f g = g x := rfl
theorem chk_of {α : Type} {p : Prop} [Decidable p] (x : Option α) (h : p) : chk (decide p) x = x := by rw [decide_eq_true h]; rfl
theorem br_of {α : Type} {p : Prop} [Decidable p] (x y : α) (h : p) : br (decide p) x y = x := by rw [decide_eq_true h]; rfl
theorem br_not {α : Type} {p : Prop} [Decidable p] (x y : α) (h : ¬ p) : br (decide p) x y = y := by rw [decide_eq_false h]; rfl
theorem br_ite {α : Type} (b : Bool) (x y : α) : br b x y = if b = true then x else y := by cases b <;> rfl
/-! ### Whole numbers of a kind -/

theorem i64_range {x : Int} : InR .i64 x ↔ -9223372036854775808 ≤ x ∧ x ≤ 9223372036854775807 := by
  have e1 : IntKind.i64.min = -9223372036854775808 := by decide
  have e2 : IntKind.i64.max = 9223372036854775807 := by decide
  unfold InR; rw [e1, e2]
theorem u64_range {x : Int} : InR .u64 x ↔ 0 ≤ x ∧ x ≤ 18446744073709551615 := by
  have e1 : IntKind.u64.min = 0 := by decide
  have e2 : IntKind.u64.max = 18446744073709551615 := by decide
  unfold InR; rw [e1, e2]
theorem u8_range {x : Int} : InR .u8 x ↔ 0 ≤ x ∧ x ≤ 255 := by
  have e1 : IntKind.u8.min = 0 := by decide
  have e2 : IntKind.u8.max = 255 := by decide
  unfold InR; rw [e1, e2]
theorem u16_range {x : Int} : InR .u16 x ↔ 0 ≤ x ∧ x ≤ 65535 := by
  have e1 : IntKind.u16.min = 0 := by decide
  have e2 : IntKind.u16.max = 65535 := by decide
  unfold InR; rw [e1, e2]
theorem u32_range {x : Int} : InR .u32 x ↔ 0 ≤ x ∧ x ≤ 4294967295 := by
  have e1 : IntKind.u32.min = 0 := by decide
  have e2 : IntKind.u32.max = 4294967295 := by decide
  unfold InR; rw [e1, e2]

theorem w64_in {x : Int} (h1 : -9223372036854775808 ≤ x) (h2 : x ≤ 9223372036854775807) : w64 x = x := IntWalk.i64_in x ⟨h1, h2⟩
theorem wu64_in {x : Int} (h1 : 0 ≤ x) (h2 : x ≤ 18446744073709551615) : wu64 x = x := IntWalk.u64_in x ⟨h1, h2⟩
theorem w64_mem (x : Int) : InR .i64 (w64 x) := InR.wrap _ _
theorem wu64_mem (x : Int) : InR .u64 (wu64 x) := InR.wrap _ _
theorem ibit_mem (op : BinOp) (k : IntKind) (x y : Int) : InR k (ibit op k x y) := by
  unfold ibit
  split <;> exact InR.wrap _ _
theorem ishl_mem (k : IntKind) (x y : Int) : InR k (ishl k x y) := InR.wrap _ _
theorem ishr_mem {k : IntKind} {x y : Int} (h : InR k x) : InR k (ishr k x y) := by
  unfold ishr
  have hp : (0 : Int) < 2 ^ min y.toNat k.bits := Int.pow_pos (by decide)
  have hm : k.min ≤ 0 := by cases k <;> decide
  have hM : 0 ≤ k.max := by cases k <;> decide
  rw [Int.fdiv_eq_ediv_of_nonneg _ (Int.le_of_lt hp)]
  obtain ⟨h1, h2⟩ := h
  by_cases hx : 0 ≤ x
  · have h3 := Int.ediv_nonneg hx (Int.le_of_lt hp)
    have h4 := Int.ediv_le_self (2 ^ min y.toNat k.bits) hx
    exact ⟨by omega, by omega⟩
  · have h3 : x / 2 ^ min y.toNat k.bits ≤ 0 := by
      have := Int.ediv_neg_of_neg_of_pos (by omega : x < 0) hp
      omega
    have h4 : x ≤ x / 2 ^ min y.toNat k.bits := by
      rw [Int.le_ediv_iff_mul_le hp]
      have : (1 : Int) ≤ 2 ^ min y.toNat k.bits := hp
      have := Int.mul_le_mul_of_nonpos_left (a := x) (b := 2 ^ min y.toNat k.bits) (c := 1) (by omega) this
      omega
    exact ⟨by omega, by omega⟩
theorem tmod_bounds (a : Int) {b : Int} (hb : 0 < b) : -b < Int.tmod a b ∧ Int.tmod a b < b := ⟨Int.lt_tmod_of_pos a hb, Int.tmod_lt_of_pos a hb⟩
theorem tmod_pos {a b : Int} (ha : 0 ≤ a) : Int.tmod a b = a % b := Int.tmod_eq_emod_of_nonneg ha

theorem at0_in {k : IntKind} {l : List Int} (h : ∀ a ∈ l, InR k a) (i : Nat) : InR k (at0 l i) := by
  unfold at0
  rw [List.getD_eq_getElem?_getD]
  cases hi : l[i]? with
  | none => exact ⟨by cases k <;> decide, by cases k <;> decide⟩
  | some x => exact h x (List.mem_of_getElem? hi)
theorem set_mem {k : IntKind} {l : List Int} (h : ∀ a ∈ l, InR k a) {x : Int} (hx : InR k x) (i : Nat) : ∀ a ∈ l.set i x, InR k a := by
  intro a ha
  rcases List.mem_or_eq_of_mem_set ha with h1 | h1
  · exact h a h1
  · rw [h1]; exact hx
theorem append_mem {k : IntKind} {l r : List Int} (h : ∀ a ∈ l, InR k a) (h' : ∀ a ∈ r, InR k a) : ∀ a ∈ l ++ r, InR k a := by
  intro a ha
  rcases List.mem_append.1 ha with h1 | h1
  · exact h a h1
  · exact h' a h1

/-! ### Rounds -/

/-- The rule: an invariant, a measure below the bound. -/
theorem iter_rule {S R : Type} {f : S → Option (S ⊕ R)} (I : S → Prop) (Q : R → Prop) (μ : S → Nat) (h : ∀ s, I s → (∃ s', f s = some (.inl s') ∧ I s' ∧ μ s' < μ s) ∨ ∃ r, f s = some (.inr r) ∧ Q r) :
    ∀ (k : Nat) (s : S), I s → μ s < k → ∃ r, iter k f s = some r ∧ Q r := by
  intro k
  induction k with
  | zero => intro s _ hk; omega
  | succ k ih =>
    intro s hs hk
    unfold iter
    rcases h s hs with ⟨s', e, hs', hm⟩ | ⟨r, e, hr⟩
    · rw [e]
      exact ih s' hs' (by omega)
    · rw [e]
      exact ⟨r, rfl, hr⟩

/-- A counting loop: n rounds more, then the answer. -/
theorem iter_count {S R : Type} {f : S → Option (S ⊕ R)} (st : Nat → S) (n : Nat) (r : R) (h : ∀ i, i < n → f (st i) = some (.inl (st (i + 1)))) (he : f (st n) = some (.inr r)) :
    ∀ (k : Nat), n < k → iter k f (st 0) = some r := by
  have key : ∀ (m i k : Nat), i + m = n → m < k → iter k f (st i) = some r := by
    intro m
    induction m with
    | zero =>
      intro i k hi hk
      cases k with
      | zero => omega
      | succ k =>
        unfold iter
        have : i = n := by omega
        rw [this, he]
    | succ m ih =>
      intro i k hi hk
      cases k with
      | zero => omega
      | succ k =>
        unfold iter
        rw [h i (by omega)]
        exact ih (i + 1) k (by omega) (by omega)
  intro k hk
  exact key n 0 k (by omega) hk

/-! ### It answers, and what it answers -/

def Ok {α : Type} (m : Option α) (Q : α → Prop) : Prop := ∃ b, m = some b ∧ Q b

section
variable {α β S : Type} {Q : β → Prop}

theorem Ok.ret {b : β} (h : Q b) : Ok (some b) Q := ⟨b, rfl, h⟩
theorem Ok.lt {x : α} {f : α → Option β} (h : Ok (f x) Q) : Ok (Go.Ev.lt x f) Q := h
theorem Ok.obind {P : α → Prop} {m : Option α} {f : α → Option β} (h : Ok m P) (hf : ∀ a, P a → Ok (f a) Q) : Ok (Go.Ev.obind m f) Q := by
  obtain ⟨a, rfl, ha⟩ := h
  exact hf a ha
theorem Ok.chk {p : Prop} [Decidable p] {m : Option β} (h : p) (h' : Ok m Q) : Ok (Go.Ev.chk (decide p) m) Q := by rw [chk_of _ h]; exact h'
theorem Ok.brd {p : Prop} [Decidable p] {x y : Option β} (h1 : p → Ok x Q) (h2 : ¬ p → Ok y Q) : Ok (Go.Ev.br (decide p) x y) Q := by
  by_cases h : p
  · rw [br_of _ _ h]; exact h1 h
  · rw [br_not _ _ h]; exact h2 h
theorem Ok.br {b : Bool} {x y : Option β} (h1 : b = true → Ok x Q) (h2 : b = false → Ok y Q) : Ok (Go.Ev.br b x y) Q := by
  cases b with
  | true => exact h1 rfl
  | false => exact h2 rfl
theorem Ok.mono {P : β → Prop} {m : Option β} (h : Ok m P) (hp : ∀ b, P b → Q b) : Ok m Q := by
  obtain ⟨b, e, hb⟩ := h
  exact ⟨b, e, hp b hb⟩
theorem Ok.sel {γ : Type} {x : α ⊕ γ} {f : α → Option β} {g : γ → Option β} (h1 : ∀ a, x = .inl a → Ok (f a) Q) (h2 : ∀ a, x = .inr a → Ok (g a) Q) : Ok (Go.Ev.sel x f g) Q := by
  cases x with
  | inl a => exact h1 a rfl
  | inr a => exact h2 a rfl
/-- one round: it goes on, nearer to its end, or it answers -/
def Round (I : S → Prop) (μ : S → Nat) (Q : β → Prop) (s : S) : S ⊕ β → Prop
  | .inl s' => I s' ∧ μ s' < μ s
  | .inr r => Q r
theorem Ok.iter {f : S → Option (S ⊕ β)} (I : S → Prop) (μ : S → Nat) {k : Nat} {s : S} (h : ∀ s, I s → Ok (f s) (Round I μ Q s)) (h0 : I s) (hk : μ s < k) : Ok (Go.Ev.iter k f s) Q :=
  iter_rule I Q μ (fun s hs => by
    obtain ⟨r, e, hr⟩ := h s hs
    cases r with
    | inl s' => exact .inl ⟨s', e, hr.1, hr.2⟩
    | inr r => exact .inr ⟨r, e, hr⟩) k s h0 hk
end

end Go.Ev
