/-
  make, literals, conversions.
-/
import Derived.Test.YthdojgehgcknmaaDoorM3
namespace Go.Ev

section
variable {E : Env} {R : Type}

theorem zero_info (hE : EnvOK E) {t : TypeId} {z : V} (hz : E.zero t = some z) : ∃ it zv, E.P.info? t = some it ∧ it.zero = some zv ∧ ∀ ρ, VR ρ z zv := by
  obtain ⟨_, zv, hrun, hv⟩ := hE.zero t z hz
  have := hrun default
  unfold zeroValue at this
  cases hi : E.P.info? t with
  | none => simp [typeInfo, hi] at this
  | some it =>
    cases hzz : it.zero with
    | none => simp [typeInfo, hi, hzz] at this
    | some x =>
      simp [typeInfo, hi, hzz] at this
      exact ⟨it, x, rfl, hzz, by rw [this]; exact hv⟩

theorem madeCells_get (z : Array Value) (N j : Nat) (hz : 0 < z.size) (hj : j < N) : (madeCells z N)[j]? = z[j % z.size]? := by
  have hm : j % z.size < z.size := Nat.mod_lt _ hz
  simp only [madeCells, Array.getElem?_map, Array.getElem?_range, hj, if_true, Option.map_some]
  rw [Array.getElem?_eq_getElem hm, getElem!_pos z _ hm]

theorem makeSlice_ok {full : Bool} (hE : EnvOK E) {o : Oper} {s : St} {t e : TypeId} {L C : Operand} {kl kc : IntKind} {n m : Int} {z c : V} (ho : o.op = .makeSlice t L C) (ht : E.P.underlying t = some (.slice e))
    (hz : E.zero e = some z) (hg : z.size = E.size e ∧ 0 < E.size e ∧ E.bytes e ≤ 1000) (hc : zeroRow z n.toNat = some c) (h0 : 0 ≤ n) (h1 : n ≤ m) (h2 : m ≤ (maxLength : Nat))
    (hL : eopd E s L = .int kl n) (hC : eopd E s C = .int kc m) : OpOK E full o s (.own s.nx) (newB s c) [] [] := by
  obtain ⟨it, zv, hi, hzv, hv⟩ := zero_info hE hz
  obtain ⟨hf, _⟩ := hE.zero e z hz
  obtain ⟨i', d, hi', hd, hsz⟩ := size_pos hg.2.1
  rw [hi] at hi'; cases hi'
  refine OpOK.new fun a w ρ m1 hv' _ _ => ?_
  have eL : a.eval L = .int kl n := by
    have := hv' L (by rw [ho]; simp [Op.operands])
    rw [hL] at this
    exact (vr_int this).1
  have eC : a.eval C = .int kc m := by
    have := hv' C (by rw [ho]; simp [Op.operands])
    rw [hC] at this
    exact (vr_int this).1
  have hcs : zv.cells.size = z.size := by
    have := Cells.length _ _ hf (VR_cells hf (hv ρ))
    simpa using this
  have hb : it.bytes ≤ 1000 := by simpa [Env.bytes, hi] using hg.2.2
  unfold maxLength at h2
  have hbm : (it.bytes : Int) * m ≤ 281474976710656 := by
    have : (it.bytes : Int) * m ≤ 1000 * 10000000000 := Int.mul_le_mul (by omega) (by omega) (by omega) (by omega)
    omega
  have hrun := run_make (P := E.P) w t e it zv ht hi hzv kl kc n m h0 h1 hbm (by omega)
  obtain ⟨k1, k2, k3⟩ := zeroRow_ok hc (hv ρ)
  have hlen : ((List.replicate n.toNat zv.cells.toList).flatten).length = n.toNat * z.size := by
    rw [List.length_flatten]
    simp [hcs]
  have hle : n.toNat * z.size ≤ m.toNat * it.size := by
    rw [← hsz, hg.1]
    exact Nat.mul_le_mul_right _ (by omega)
  refine ⟨e, madeCells zv.cells (m.toNat * it.size), (0, 0), (List.replicate n.toNat zv.cells.toList).flatten, n.toNat, z.size, .slice (some ⟨w.heap.size, 0, none⟩) n.toNat m.toNat, w.drawn, ?_, by simp, k1, fun j hj => ?_, ?_, ((fits_size k3 k1).2 _).2 ⟨k2.symm, rfl⟩, fun ρ' hp => ?_⟩
  · unfold execOp
    simp only [ho, eL, eC, Sem.run_bind, hrun, Result.andThen_ok]
    rfl
  · rw [hlen] at hj
    rw [madeCells_get _ _ _ (by omega) (by omega), flat_rep _ _ _ (by simpa [hcs] using hj)]
    simp
  · rw [hlen, size_madeCells]; exact hle
  · refine ⟨_, hp, .inr ⟨rfl, m.toNat, ?_, ?_, rfl⟩⟩
    · simp only; omega
    · simp only
      rw [size_madeCells, hg.1, hsz, Nat.zero_add]
      exact Nat.le_refl _

theorem buildSlice_ok {full : Bool} (hE : EnvOK E) {o : Oper} {s : St} {t e : TypeId} {len : Nat} {ps : Array (Nat × Operand)} {c : V} (ho : o.op = .buildSlice t len ps) (ht : E.P.underlying t = some (.slice e))
    (hc : eBuildSlice E e len (ps.toList.map fun p => (p.1, eopd E s p.2)) = some c) : OpOK E full o s (.own s.nx) (newB s c) [] [] := by
  unfold eBuildSlice at hc
  split at hc
  · rename_i z hz
    split at hc
    · rename_i hg
      obtain ⟨g1, g2, g3, g4, g5⟩ := hg
      obtain ⟨it, zv, hi, hzv, hv⟩ := zero_info hE hz
      obtain ⟨hf, _⟩ := hE.zero e z hz
      refine OpOK.new fun a w ρ m1 hv' _ _ => ?_
      have hvs : ∀ p ∈ ps.toList, VR ρ (eopd E s p.2) (a.eval p.2) := fun p hp => hv' p.2 (by
        rw [ho]
        simp only [Op.operands]
        simp at hp ⊢
        exact ⟨_, hp⟩)
      obtain ⟨k1, k2, k3, k4, k5⟩ := seqRow_ok (g := a.eval) (hv ρ) ps.toList 0 c hc hvs
      have hcs : zv.cells.size = z.size := by
        have := Cells.length _ _ hf (VR_cells hf (hv ρ))
        simpa using this
      have hln : (ps.toList.map fun p => a.eval p.2).length = len := by simpa using g1
      have hcl := (fits_size k3 k1).1
      have hrl : rowLen c = len := by rw [k2]; simpa using g1
      have hfill := Great.fill_whole (s := z.size) (by omega) (ps.toList.map fun p => a.eval p.2) (madeCells zv.cells (len * z.size)) k4 (by rw [hln, size_madeCells])
      have hpos : 0 < E.size e := g3
      refine ⟨e, ((ps.toList.map fun p => a.eval p.2).flatMap fun v => v.cells.toList).toArray, (0, 0), _, len, z.size, .slice (some ⟨w.heap.size, 0, none⟩) len len, w.drawn, ?_, by simp, k1, by simp, by simp, ((fits_size k3 k1).2 _).2 ⟨hrl.symm, rfl⟩, fun ρ' hp => ?_⟩
      · rw [alloc_same]
        have hb : (Instr.buildSlice t len (ps.map fun (i, x) => (i, a.eval x))).run E.P w = .ok (.slice (some ⟨w.heap.size, 0, none⟩) len len) (w.alloc (.cells ((ps.toList.map fun p => a.eval p.2).flatMap fun v => v.cells.toList).toArray e)) := by
          unfold Instr.buildSlice
          rw [Sem.run_bind, run_und ht]
          simp only [Result.andThen_ok]
          rw [Sem.run_bind, run_size hpos]
          simp only [Result.andThen_ok]
          have hle : len * E.size e ≤ 1000 * 1000 := Nat.mul_le_mul (by omega) g4
          rw [if_neg (by omega)]
          obtain ⟨i', d, hi', hd, hsz⟩ := size_pos hpos
          have hzrun : ∀ w, (zeroValue e).run E.P w = .ok zv w := fun w => by simp [zeroValue, typeInfo, hi, hzv]
          by_cases hl0 : len = 0
          · subst hl0
            have hnil : ps.toList = [] := List.eq_nil_of_length_eq_zero (by simpa using g1)
            have hps : ps = #[] := by
              apply Array.ext'
              rw [hnil]
            subst hps
            simp [Instr.fill, newRow]
            congr 2
            exact Array.eq_empty_of_size_eq_zero (by simp)
          · rw [if_neg (by
              have : 0 < len * E.size e := Nat.mul_pos (by omega) hpos
              omega)]
            have e1 : (ps.map fun (x : Nat × Operand) => (x.1, a.eval x.2)).toList = ps.toList.map fun p => (p.1, a.eval p.2) := by simp
            have e2 : Instr.fill (fun i => some (i * E.size e, E.size e)) ((Array.range (len * E.size e)).map (zv.cells[· % zv.cells.size]!)) (ps.map fun (x : Nat × Operand) => (x.1, a.eval x.2)).toList =
                some ((ps.toList.map fun p => a.eval p.2).flatMap fun v => v.cells.toList).toArray := by
              rw [e1, k5, ← g5]
              exact hfill
            simp only [Sem.run_bind, hzrun, Result.andThen_ok, Sem.run_pure]
            rw [e2]
            rfl
        unfold execOp
        simp only [ho, Sem.run_bind, hb, Result.andThen_ok]
        rfl
      · refine ⟨_, hp, .inr ⟨rfl, len, by simp, ?_, rfl⟩⟩
        simp only [Nat.zero_add]
        rw [List.size_toArray, hcl, hrl]
        exact Nat.le_refl _
    · cases hc
  · cases hc

end
end Go.Ev

/-
  Structs and arrays; conversions; copy.
-/
namespace Go.Ev

section
variable {E : Env} {R : Type}

theorem foldl_paste (off : Nat) (l : List Value) (cs : Array Value) (h : off + l.length ≤ cs.size) :
    ((l.zipIdx 0).foldl (fun cs (x : Value × Nat) => cs.setIfInBounds (off + x.2) x.1) cs).toList = paste cs.toList off l := by
  obtain ⟨h1, h2⟩ := Great.foldl_set off l 0 cs
  apply List.ext_getElem?
  intro k
  rw [Array.getElem?_toList, h2 k]
  simp only [Nat.add_zero, paste]
  by_cases hk : k < off
  · rw [if_neg (by omega), List.append_assoc, List.getElem?_append_left (by simp; omega), List.getElem?_take_of_lt hk, Array.getElem?_toList]
  · by_cases hk2 : k < off + l.length
    · rw [if_pos (by omega), List.append_assoc, List.getElem?_append_right (by simp; omega), List.getElem?_append_left (by simp; omega)]
      congr 1
      simp
      omega
    · rw [if_neg (by omega), List.getElem?_append_right (by simp; omega), List.getElem?_drop]
      rw [Array.getElem?_toList]
      congr 1
      simp
      omega

theorem VR_of_isAgg {ρ : Ren} {c : V} {cs : List Value} (h : c.isAgg = true) (hc : Cells ρ c cs) : VR ρ c (.agg cs.toArray) := by
  cases c <;> simp [V.isAgg] at h <;> exact ⟨cs, rfl, hc⟩

theorem eFill_ok {t : TypeId} {f : Operand → V} {r : R} : ∀ (l : List (Nat × Operand)) (z : V) (K : V → Option R), eFill E t (l.map fun p => (p.1, f p.2)) z K = some r →
    ∃ c, K c = some r ∧ c.isAgg = true ∧ ∀ (ρ : Ren) (g : Operand → Value) (cs : Array Value) (place : Nat → Option (Nat × Nat)), (∀ p ∈ l, VR ρ (f p.2) (g p.2)) → Cells ρ z cs.toList → cs.size = z.size →
      (∀ i off sz, ePlace E t i = some (off, sz) → 0 < sz → place i = some (off, sz)) → ∃ cells, Instr.fill place cs (l.map fun p => (p.1, g p.2)) = some cells ∧ Cells ρ c cells.toList
  | [], z, K, h => by
    simp only [List.map_nil, eFill] at h
    split at h
    · rename_i ha
      exact ⟨z, h, ha, fun ρ g cs place _ hc _ _ => ⟨cs, rfl, hc⟩⟩
    · cases h
  | (i, X) :: l, z, K, h => by
    simp only [List.map_cons, eFill] at h
    split at h
    · rename_i off sz hp
      split at h
      · rename_i hg
        obtain ⟨g1, g2, g3, g4⟩ := hg
        obtain ⟨z', h', hu⟩ := upd_ok' h
        obtain ⟨c, hk, ha, hrest⟩ := eFill_ok l z' K h'
        refine ⟨c, hk, ha, fun ρ g cs place hv hc hsz hpl => ?_⟩
        have hx := VR_cells g4 (hv (i, X) (by simp))
        have hxl := Cells.length _ _ g4 hx
        simp only [Array.length_toList] at hxl
        have hlen : cs.toList.length = z.size := by simpa using hsz
        obtain ⟨hc', hlike⟩ := hu ρ cs.toList _ hc hx g4 (by omega) (by simp; omega) (by omega) (by simp; omega)
        simp only [Int.toNat_zero, Nat.add_zero] at hc'
        have hpaste := foldl_paste off (g X).cells.toList cs (by simp; omega)
        obtain ⟨cells, hfill, hcells⟩ := hrest ρ g (((g X).cells.toList.zipIdx 0).foldl (fun cs (x : Value × Nat) => cs.setIfInBounds (off + x.2) x.1) cs) place (fun p hp => hv p (by simp [hp])) (by rw [hpaste]; exact hc')
          (by rw [(Great.foldl_set off _ 0 cs).1, hlike.2.1]; exact hsz) hpl
        refine ⟨cells, ?_, hcells⟩
        simp only [List.map_cons]
        unfold Instr.fill
        rw [hpl i off sz hp (by omega)]
        simp only
        rw [if_neg (by simp; omega), ← hfill]
        congr 1
        rw [← Array.foldl_toList, Array.toList_zipIdx]
      · cases h
    · cases h

theorem build_ok {full : Bool} (hE : EnvOK E) {o : Oper} {s : St} {t : TypeId} {ps : Array (Nat × Operand)} {z : V} {K : V → Option R} {r : R} (ho : o.op = .build t ps) (hz : E.zero t = some z)
    (h : eBuild E t (ps.toList.map fun p => (p.1, eopd E s p.2)) z K = some r) : ∃ c, K c = some r ∧ OpOK E full o s c s [] [] := by
  unfold eBuild at h
  split at h
  · rename_i hpt
    obtain ⟨c, hk, ha, hall⟩ := eFill_ok ps.toList z K h
    refine ⟨c, hk, OpOK.read fun a w ρ m1 hv _ _ => ?_⟩
    obtain ⟨it, zv, hi, hzv, hvz⟩ := zero_info hE hz
    obtain ⟨hf, _⟩ := hE.zero t z hz
    have hcz := VR_cells hf (hvz ρ)
    have hsz : zv.cells.size = z.size := by
      have := Cells.length _ _ hf hcz
      simpa using this
    have hvs : ∀ p ∈ ps.toList, VR ρ (eopd E s p.2) (a.eval p.2) := fun p hp => hv p.2 (by
      rw [ho]
      simp only [Op.operands]
      simp at hp ⊢
      exact ⟨_, hp⟩)
    have e1 : (ps.map fun (x : Nat × Operand) => (x.1, a.eval x.2)).toList = ps.toList.map fun p => (p.1, a.eval p.2) := by simp
    have fin : ∀ cells, E.P.built t (ps.toList.map fun p => (p.1, a.eval p.2)) = some cells → Cells ρ c cells.toList → ∃ v, (execOp a.eval o).run E.P w = .ok (.value v) w ∧ VR ρ c v := by
      intro cells hb hc
      refine ⟨.agg cells, ?_, VR_of_isAgg ha hc⟩
      have hr := run_build (P := E.P) w t (ps.map fun (x : Nat × Operand) => (x.1, a.eval x.2)) cells (by rw [e1]; exact hb)
      unfold execOp
      simp only [ho]
      show (do pure (Next.value (← Instr.build t (ps.map fun (x : Nat × Operand) => (x.1, a.eval x.2)))) : Sem Next).run E.P w = _
      rw [Sem.run_bind, hr]
      rfl
    unfold eParted at hpt
    split at hpt
    · rename_i fs hu
      have hu := und_some hu (by simp)
      obtain ⟨pl, hpl⟩ := hE.places t _ fs hz hu
      obtain ⟨cells, h1, h2⟩ := hall ρ a.eval zv.cells (pl.toArray[·]?) hvs hcz hsz (by
        intro i off sz hp hsz0
        unfold ePlace Env.und at hp
        rw [hu] at hp
        simp only at hp
        split at hp
        · rename_i fd hfd
          cases hp
          obtain ⟨i', d, hi', _, hs'⟩ := size_pos hsz0
          have := mapM_some_get hpl i fd (by simpa using hfd)
          simp only [hi', Option.map_some] at this
          simp only [List.getElem?_toArray]
          rw [← this, hs']
        · cases hp)
      refine fin cells ?_ h2
      unfold Program.built
      simp only [hi, hu, hzv, hpl]
      exact h1
    · rename_i n elem hu
      have hu := und_some hu (by simp)
      have hpos : 0 < E.size elem := by simpa using hpt
      obtain ⟨i', d, hi', _, hs'⟩ := size_pos hpos
      obtain ⟨cells, h1, h2⟩ := hall ρ a.eval zv.cells (fun i => some (i * i'.size, i'.size)) hvs hcz hsz (by
        intro i off sz hp hsz0
        unfold ePlace Env.und at hp
        rw [hu] at hp
        simp only at hp
        cases hp
        rw [hs'])
      refine fin cells ?_ h2
      unfold Program.built
      simp only [hi, hu, hzv, hi']
      exact h1
    · cases hpt
  · cases h

end
end Go.Ev

/-
  Conversions; copy.
-/
namespace Go.Ev

section
variable {E : Env} {R : Type}

theorem run_convert_bytes {src dst e : TypeId} {s : St} {x : V} {l : List Int} (hs : E.P.underlying src = some (.slice e)) (he : E.P.underlying e = some (.int .u8)) (hd : E.P.underlying dst = some .string)
    (hx : (∃ b, x = .own b) ∨ ∃ b off n, x = .sl b off n) (hrow : rowOf s (.int .u8 0) x = some (.row .u8 l)) {ρ : Ren} {m1 : Mem} {xv : Value} {w : World} (hv : VR ρ x xv) (hm : RM ρ m1 w) (hr : ∀ b ∈ x.names, m1 b = mget s.m b) :
    ∃ z, (convert src dst xv).run E.P w = .ok z w ∧ VR ρ (.str l) z := by
  obtain ⟨cs, hsrc⟩ := src_ok (E := E) hrow (by simp [fits]) hv hm hr
  have hcells := hsrc.cells
  obtain ⟨rfl, hrng⟩ := hcells
  have hxv : ∃ a n c, xv = .slice a n c := by
    rcases hx with ⟨b, rfl⟩ | ⟨b, off, n, rfl⟩
    · obtain ⟨p, _, h⟩ := vr_own hv
      rcases h with ⟨_, rfl⟩ | ⟨_, cap, _, _, rfl⟩ <;> exact ⟨_, _, _, rfl⟩
    · obtain ⟨p, _, _, _, _, h⟩ := vr_sl hv
      rcases h with ⟨_, rfl⟩ | ⟨_, cap, a, _, _, rfl, _⟩ <;> exact ⟨_, _, _, rfl⟩
  obtain ⟨a, n, c, rfl⟩ := hxv
  have hn : n = l.length := by
    have := hsrc.len
    simpa [Builtin.lenOf, rowLen] using this
  subst hn
  have hb : ∀ y ∈ l, (UInt8.ofNat y.toNat).toNat = y.toNat ∧ 0 ≤ y := by
    intro y hy
    have := hrng y hy
    have e1 : IntKind.u8.min = 0 := by decide
    have e2 : IntKind.u8.max = 255 := by decide
    have h1 := this.1
    have h2 := this.2
    rw [e1] at h1
    rw [e2] at h2
    refine ⟨?_, h1⟩
    rw [UInt8.toNat_ofNat']
    exact Nat.mod_eq_of_lt (by omega)
  cases a with
  | none =>
    refine ⟨.string .empty, ?_, ?_⟩
    · rw [run_convert_bytes_string w src dst e none _ c hs he hd]
      rfl
    · have hl := hsrc.first w.drawn
      simp [Builtin.firstCells] at hl
      subst hl
      exact ⟨_, rfl, rfl⟩
  | some a =>
    refine ⟨.string ⟨(l.map fun y => UInt8.ofNat y.toNat).toArray⟩, ?_, ⟨_, rfl, ?_⟩⟩
    · have := run_convert_bytes_back (P := E.P) w src dst e a c (l.map fun y => UInt8.ofNat y.toNat) hs he hd (fun j hj => by
        have hj' : j < l.length := by simpa using hj
        rw [hsrc.at_ a _ c rfl j (.int .u8 l[j]) (by rw [List.getElem?_map, List.getElem?_eq_getElem hj']; rfl)]
        obtain ⟨h1, h2⟩ := hb l[j] (List.getElem_mem hj')
        rw [List.getElem_map, h1, Int.toNat_of_nonneg h2])
      rwa [List.length_map] at this
    · unfold bytesOf
      rw [show (⟨(l.map fun y => UInt8.ofNat y.toNat).toArray⟩ : ByteArray).data.toList = l.map fun y => UInt8.ofNat y.toNat by simp, List.map_map]
      conv => lhs; rw [← List.map_id l]
      apply List.map_congr_left
      intro y hy
      obtain ⟨h1, h2⟩ := hb y hy
      simp only [id, Function.comp, h1, Int.toNat_of_nonneg h2]

theorem run_convert_str {src dst : TypeId} (hs : E.P.underlying src = some .string) (hd : E.P.underlying dst = some .string) (b : ByteArray) (w : World) : (convert src dst (.string b)).run E.P w = .ok (.string b) w := by
  unfold convert
  rw [Sem.run_bind, run_und hs]
  simp only [Result.andThen_ok]
  rw [Sem.run_bind, run_und hd]
  rfl

theorem run_convert_int {src dst : TypeId} {d : TypeDesc} {k k' : IntKind} {n : Int} (hs : E.P.underlying src = some d) (hd : E.P.underlying dst = some (.int k)) (w : World) :
    (convert src dst (.int k' n)).run E.P w = .ok (.int k (k.wrap n)) w := by
  unfold convert
  rw [Sem.run_bind, run_und hs]
  simp only [Result.andThen_ok]
  rw [Sem.run_bind, run_und hd]
  rfl

theorem exec_convert {o : Oper} {src dst : TypeId} {X : Operand} (ho : o.op = .convert src dst X) {a : Act} {w w' : World} {v : Value} (h : (convert src dst (a.eval X)).run E.P w = .ok v w') :
    (execOp a.eval o).run E.P w = .ok (.value v) w' := by
  unfold execOp
  simp only [ho]
  show (do pure (Next.value (← convert src dst (a.eval X))) : Sem Next).run E.P w = _
  rw [Sem.run_bind, h]
  rfl

theorem convert_ok {full : Bool} {o : Oper} {s : St} {src dst : TypeId} {X : Operand} {K : V → St → List Nat → Option R} {r : R} (ho : o.op = .convert src dst X)
    (h : eConvert E s src dst (eopd E s X) K = some r) : ∃ v s' rd, K v s' rd = some r ∧ OpOK E full o s v s' rd [] := by
  generalize hxe : eopd E s X = x at h
  have hX : ∀ {a : Act} {ρ : Ren}, (∀ y ∈ o.op.operands, VR ρ (eopd E s y) (a.eval y)) → VR ρ x (a.eval X) := by
    intro a ρ hv
    rw [← hxe]
    exact hv X (by rw [ho]; simp [Op.operands])
  unfold eConvert at h
  split at h
  · cases h
  · rename_i hs
    have hs := und_some hs (by simp)
    split at h
    · rename_i l hd
      have hd := und_some hd (by simp)
      refine ⟨_, _, _, h, OpOK.read fun a w ρ m1 hv _ _ => ?_⟩
      have hv' := hX hv
      obtain ⟨b, hb, hb'⟩ := vr_str hv'
      exact ⟨.string b, exec_convert ho (by rw [hb]; exact run_convert_str hs hd b w), ⟨b, rfl, hb'⟩⟩
    · rename_i e l hd
      have hd := und_some hd (by simp)
      split at h
      · rename_i he
        have he := und_some he (by simp)
        refine ⟨_, _, _, h, OpOK.new fun a w ρ m1 hv _ _ => ?_⟩
        obtain ⟨b, hb, hb'⟩ := vr_str (hX hv)
        have hl := bytesOf_size hb'
        have hcap : b.size ≤ grownCap w b.size 0 e := by simp [grownCap, Question.cut]
        have hsz : (bytesRow b (grownCap w b.size 0 e)).size = grownCap w b.size 0 e := by
          have : b.data.size = b.size := rfl
          simp [bytesRow, this]
          omega
        have hrun := run_bytes_of_string (P := E.P) w src dst e b hs hd he
        refine ⟨e, bytesRow b (grownCap w b.size 0 e), _, l.map (Value.int .u8), l.length, 1, .slice (some ⟨w.heap.size, 0, none⟩) b.size (grownCap w b.size 0 e), w.drew.drawn, exec_convert ho (by rw [hb]; exact hrun), fun j hj => by simp only; omega, ⟨rfl, fun y hy => ?_⟩, fun j hj => ?_, ?_, ⟨rfl, rfl⟩, fun ρ' hp => ?_⟩
        · rw [hb'] at hy
          obtain ⟨u, _, rfl⟩ := List.mem_map.1 hy
          have := UInt8.toNat_lt u
          have e1 : IntKind.u8.min = 0 := by decide
          have e2 : IntKind.u8.max = 255 := by decide
          constructor <;> omega
        · rw [List.length_map] at hj
          have hj' : j < b.data.size := by
            have : b.data.size = b.size := rfl
            omega
          rw [bytesRow_at b _ j hj', List.getElem?_map]
          have : l[j]? = some (b.data[j].toNat : Int) := by
            rw [hb', List.getElem?_map, Array.getElem?_toList, Array.getElem?_eq_getElem hj']
            rfl
          rw [this]
          rfl
        · rw [List.length_map, hsz]; omega
        · refine ⟨_, hp, .inr ⟨rfl, grownCap w b.size 0 e, ?_, ?_, ?_⟩⟩
          · simp only; omega
          · simp only; rw [hsz]; omega
          · simp only; rw [hl]
      · cases h
    · cases h
  · rename_i e hs
    have hs := und_some hs (by simp)
    split at h
    · rename_i hd
      have hd := und_some hd (by simp)
      split at h
      · rename_i he
        have he := und_some he (by simp)
        refine ⟨_, _, _, h, OpOK.read fun a w ρ m1 hv _ _ => ?_⟩
        have hv' := hX hv
        have hb : a.eval X = .slice none 0 0 := by simpa [VR, wrapR, Cells] using hv'
        refine ⟨.string .empty, exec_convert ho ?_, ⟨_, rfl, rfl⟩⟩
        rw [hb, run_convert_bytes_string w src dst e none _ _ hs he hd]
        rfl
      · rename_i b he
        have he := und_some he (by simp)
        split at h
        · rename_i l hrow
          refine ⟨_, _, _, h, OpOK.read fun a w ρ m1 hv hm hr => ?_⟩
          obtain ⟨z, h1, h2⟩ := run_convert_bytes hs he hd (.inl ⟨b, rfl⟩) hrow (hX hv) hm (by simpa [V.names] using hr)
          exact ⟨z, exec_convert ho h1, h2⟩
        · cases h
      · rename_i b off n he
        have he := und_some he (by simp)
        split at h
        · rename_i l hrow
          refine ⟨_, _, _, h, OpOK.read fun a w ρ m1 hv hm hr => ?_⟩
          obtain ⟨z, h1, h2⟩ := run_convert_bytes hs he hd (.inr ⟨b, off, n, rfl⟩) hrow (hX hv) hm (by simpa [V.names] using hr)
          exact ⟨z, exec_convert ho h1, h2⟩
        · cases h
      · cases h
    · cases h
  · rename_i hns hi1 hi2
    have hs := und_some (E := E) (t := src) (d := E.und src) rfl (by simpa using hns)
    split at h
    · rename_i k k' n hd
      have hd := und_some hd (by simp)
      refine ⟨_, _, _, h, OpOK.read fun a w ρ m1 hv hm hr => ?_⟩
      obtain ⟨hb, _⟩ := vr_int (hX hv)
      exact ⟨_, exec_convert ho (by rw [hb]; exact run_convert_int hs hd w), VR_int (InR.wrap _ _)⟩
    · cases h

end
end Go.Ev
