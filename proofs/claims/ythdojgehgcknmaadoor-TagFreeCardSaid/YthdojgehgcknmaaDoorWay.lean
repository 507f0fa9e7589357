/-
  What a law of this seat is told of the world in which it begins.
-/
import Derived.Test.YthdojgehgcknmaaDoorM12
import Derived.Test.YthdojgehgcknmaaDoorOk
import Derived.Test.YthdojgehgcknmaaDoorRows
import Derived.ProofKit
import Derived.LaidMore
import Derived.Stop.Joined
import Derived.Laws.IdiomArrays
import Derived.ShutString
namespace Go.Proofs.YthdojgehgcknmaaDoor
open Go Go.Ev Go.ChangeShapes Go.WideShapes Go.ChangeAt Go.RowKit
set_option maxRecDepth 100000
theorem own : ownKnob Tryd.prog.godebug = none := by kernel_rfl
theorem laidOut : laidOutB Tryd.prog = true := by kernel_rfl
abbrev laidList : List (String × DataW Unit) := [("belfry/sip.signs", Rows.laid_belfry_sip_signs)]
abbrev signs : List Int := [8317987319222330741, 7237128888997146477, 7816392313619706465, 8387220255154660723]
theorem door_met (os : Os) (args : Array Value) : laidMetH Tryd.prog laidList ((World.doorLaid Tryd.prog 400 os).forCall (fun _ _ => 0) ⟨#[], args, []⟩).memory :=
  laidMetH_of_parts3 (fuel := 8) (laidMet_of_run' 8 (by kernel_rfl) (by kernel_rfl)) (by kernel_rfl) (by kernel_rfl)
theorem of_laid {W : World} (h : laidMetH Tryd.prog laidList W) : 0 < W.heap.size ∧ ∀ j, j < 4 → W.cell? ⟨0, j, none⟩ = some (.int .u64 (signs.getD j 0)) := by
  rw [MakeChecks.laidMetH_plain _ _ _ (by kernel_rfl)] at h
  obtain ⟨ps, ⟨g0, t0, cs0, f0, p0, q0, hg0, ht0, hv0, hd0, _, _⟩, _, _⟩ := h
  have gS : Tryd.prog.globalNamed "belfry/sip.signs" = some 0 := by kernel_rfl
  have tS : (Tryd.prog.globals[0]?).map (·.type) = some 155 := by kernel_rfl
  obtain rfl := Option.some.inj (gS.symm.trans hg0)
  obtain rfl := Option.some.inj (tS.symm.trans ht0)
  obtain ⟨xs, m1, rfl, hx1, hlen, hn3, hel⟩ := DataW.trod_array Tryd.underlying155 hd0
  have cE : Tryd.prog.cellsOf 110 = 1 := by kernel_rfl
  have cT : Tryd.prog.cellsOf 155 = 4 := by kernel_rfl
  obtain ⟨l, hl⟩ : ∃ l, cs0 = ⟨l⟩ := ⟨cs0.toList, rfl⟩
  subst hl
  rw [cT] at hlen
  match l, hlen with
  | [c0, c1, c2, c3], _ =>
    match xs, hn3 with
    | [x0, x1, x2, x3], _ =>
      have e0 := hel 0 (by decide)
      have e1 := hel 1 (by decide)
      have e2 := hel 2 (by decide)
      have e3 := hel 3 (by decide)
      simp only [cE] at e0 e1 e2 e3
      simp at e0 e1 e2 e3
      obtain ⟨n0, a0, b0, _⟩ := DataW.trod_int Tryd.underlying110 e0
      obtain ⟨n1, a1, b1, _⟩ := DataW.trod_int Tryd.underlying110 e1
      obtain ⟨n2, a2, b2, _⟩ := DataW.trod_int Tryd.underlying110 e2
      obtain ⟨n3, a3, b3, _⟩ := DataW.trod_int Tryd.underlying110 e3
      simp only [Prod.mk.injEq] at hx1
      have hd := hx1.1
      simp only [List.map_cons, List.map_nil, b0, b1, b2, b3, Rows.laid_belfry_sip_signs, DataW.agg.injEq, List.cons.injEq, DataW.lit.injEq, Lit.int.injEq, true_and, and_true] at hd
      obtain ⟨q0, q1, q2, q3⟩ := hd
      simp only [List.cons.injEq, and_true] at a0 a1 a2 a3
      have hc : ∀ j, W.cell? ⟨0, j, none⟩ = ([c0, c1, c2, c3] : List Value)[j]? := fun j => by
        rw [World.var?_cell hg0 hv0 j]; simp
      refine ⟨?_, fun j hj => ?_⟩
      · have := hc 0
        simp at this
        exact World.block_lt_of_cell? _ _ this
      · rw [hc j]
        match j, hj with
        | 0, _ => simp [a0, ← q0]
        | 1, _ => simp [a1, ← q1]
        | 2, _ => simp [a2, ← q2]
        | 3, _ => simp [a3, ← q3]
theorem signs_in : ∀ a ∈ signs, InR .u64 a := by
  intro a ha
  have e1 : IntKind.u64.min = 0 := by decide
  have e2 : IntKind.u64.max = 18446744073709551615 := by decide
  simp only [signs, List.mem_cons, List.not_mem_nil, or_false] at ha
  unfold InR
  rw [e1, e2]
  omega
/-- The memory in which a law of plain arguments begins. -/
noncomputable abbrev m0 : List (Option (Bool × V)) := globM globs
abbrev ρ0 : Ren := fun b => if b = 0 then some { nil := false, blk := 0, base := 0, psz := 4, cn := 4, n := 4, es := 1 } else none
theorem m0_get : mget m0 = fun b => if b = 0 then some (false, V.ints .u64 4 signs) else none := by
  funext b
  match b with
  | 0 => rfl
  | _ + 1 => rfl
theorem m0_locked : ∀ b c, mget m0 b ≠ some (true, c) := by
  intro b c h
  rw [m0_get] at h
  replace h : (if b = 0 then some (false, V.ints .u64 4 signs) else none) = some (true, c) := h
  split at h <;> cases h
theorem rm0 {W : World} (h : laidMetH Tryd.prog laidList W) : RM ρ0 (mget m0) W := by
  rw [m0_get]
  exact RM_glob rfl signs_in (of_laid h).1 (of_laid h).2
theorem gok0 : GOK env0 ρ0 := by
  intro g n h
  match g with
  | 0 =>
    have : gsizes 0 = n + 1 := h
    have e : gsizes 0 = 4 := rfl
    rw [e] at this
    exact ⟨_, rfl, rfl, rfl, rfl, by show n + 1 ≤ 4; omega⟩
  | _ + 1 => cases h
theorem names0 : ∀ b, m0.length ≤ b → ρ0 b = none := by
  intro b h
  have : 1 ≤ b := h
  exact if_neg (by omega)
end Go.Proofs.YthdojgehgcknmaaDoor
