/-
  Printed by a program of this session.
-/
import Derived.Test.YthdojgehgcknmaaDoorM11
import Derived.Test.YthdojgehgcknmaaDoorSh
namespace Go.Proofs.YthdojgehgcknmaaDoor
open Go Go.Ev
set_option maxRecDepth 100000
theorem zero_ok : ∀ t z, zeros t = some z → (z.flat = true ∧ ∃ x, (∀ w, (zeroValue t).run Tryd.prog w = .ok x w) ∧ ∀ ρ, VR ρ z x) ∧
    (∀ fs, Tryd.prog.underlying t = some (.struct fs) → ∃ pl, fs.toList.mapM (fun f => (Tryd.prog.info? f.type).map fun i => (f.offset, i.size)) = some pl) := by
  intro t z h
  unfold zeros at h
  split at h
  · cases h; exact ⟨zero_of (by kernel_rfl) (fun w => by kernel_rfl), place_of (by kernel_rfl)⟩
  · cases h; exact ⟨zero_of (by kernel_rfl) (fun w => by kernel_rfl), place_of (by kernel_rfl)⟩
  · cases h; exact ⟨zero_of (by kernel_rfl) (fun w => by kernel_rfl), place_of (by kernel_rfl)⟩
  · cases h; exact ⟨zero_of (by kernel_rfl) (fun w => by kernel_rfl), place_of (by kernel_rfl)⟩
  · cases h; exact ⟨zero_of (by kernel_rfl) (fun w => by kernel_rfl), place_of (by kernel_rfl)⟩
  · cases h; exact ⟨zero_of (by kernel_rfl) (fun w => by kernel_rfl), place_of (by kernel_rfl)⟩
  · cases h; exact ⟨zero_of (by kernel_rfl) (fun w => by kernel_rfl), place_of (by kernel_rfl)⟩
  · cases h; exact ⟨zero_of (by kernel_rfl) (fun w => by kernel_rfl), place_of (by kernel_rfl)⟩
  · cases h; exact ⟨zero_of (by kernel_rfl) (fun w => by kernel_rfl), place_of (by kernel_rfl)⟩
  · cases h; exact ⟨zero_of (by kernel_rfl) (fun w => by kernel_rfl), place_of (by kernel_rfl)⟩
  · cases h; exact ⟨zero_of (by kernel_rfl) (fun w => by kernel_rfl), place_of (by kernel_rfl)⟩
  · cases h; exact ⟨zero_of (by kernel_rfl) (fun w => by kernel_rfl), place_of (by kernel_rfl)⟩
  · cases h; exact ⟨zero_of (by kernel_rfl) (fun w => by kernel_rfl), place_of (by kernel_rfl)⟩
  · cases h; exact ⟨zero_of (by kernel_rfl) (fun w => by kernel_rfl), place_of (by kernel_rfl)⟩
  · cases h; exact ⟨zero_of (by kernel_rfl) (fun w => by kernel_rfl), place_of (by kernel_rfl)⟩
  · cases h; exact ⟨zero_of (by kernel_rfl) (fun w => by kernel_rfl), place_of (by kernel_rfl)⟩
  · cases h; exact ⟨zero_of (by kernel_rfl) (fun w => by kernel_rfl), place_of (by kernel_rfl)⟩
  · cases h; exact ⟨zero_of (by kernel_rfl) (fun w => by kernel_rfl), place_of (by kernel_rfl)⟩
  · cases h; exact ⟨zero_of (by kernel_rfl) (fun w => by kernel_rfl), place_of (by kernel_rfl)⟩
  · cases h; exact ⟨zero_of (by kernel_rfl) (fun w => by kernel_rfl), place_of (by kernel_rfl)⟩
  · cases h; exact ⟨zero_of (by kernel_rfl) (fun w => by kernel_rfl), place_of (by kernel_rfl)⟩
  · cases h; exact ⟨zero_of (by kernel_rfl) (fun w => by kernel_rfl), place_of (by kernel_rfl)⟩
  · cases h; exact ⟨zero_of (by kernel_rfl) (fun w => by kernel_rfl), place_of (by kernel_rfl)⟩
  · cases h; exact ⟨zero_of (by kernel_rfl) (fun w => by kernel_rfl), place_of (by kernel_rfl)⟩
  · cases h; exact ⟨zero_of (by kernel_rfl) (fun w => by kernel_rfl), place_of (by kernel_rfl)⟩
  · cases h; exact ⟨zero_of (by kernel_rfl) (fun w => by kernel_rfl), place_of (by kernel_rfl)⟩
  · cases h; exact ⟨zero_of (by kernel_rfl) (fun w => by kernel_rfl), place_of (by kernel_rfl)⟩
  · cases h; exact ⟨zero_of (by kernel_rfl) (fun w => by kernel_rfl), place_of (by kernel_rfl)⟩
  · cases h; exact ⟨zero_of (by kernel_rfl) (fun w => by kernel_rfl), place_of (by kernel_rfl)⟩
  · cases h; exact ⟨zero_of (by kernel_rfl) (fun w => by kernel_rfl), place_of (by kernel_rfl)⟩
  · cases h; exact ⟨zero_of (by kernel_rfl) (fun w => by kernel_rfl), place_of (by kernel_rfl)⟩
  · cases h; exact ⟨zero_of (by kernel_rfl) (fun w => by kernel_rfl), place_of (by kernel_rfl)⟩
  · cases h; exact ⟨zero_of (by kernel_rfl) (fun w => by kernel_rfl), place_of (by kernel_rfl)⟩
  · cases h; exact ⟨zero_of (by kernel_rfl) (fun w => by kernel_rfl), place_of (by kernel_rfl)⟩
  · cases h; exact ⟨zero_of (by kernel_rfl) (fun w => by kernel_rfl), place_of (by kernel_rfl)⟩
  · cases h; exact ⟨zero_of (by kernel_rfl) (fun w => by kernel_rfl), place_of (by kernel_rfl)⟩
  · cases h; exact ⟨zero_of (by kernel_rfl) (fun w => by kernel_rfl), place_of (by kernel_rfl)⟩
  · cases h; exact ⟨zero_of (by kernel_rfl) (fun w => by kernel_rfl), place_of (by kernel_rfl)⟩
  · cases h
theorem eqi_ok : ∀ t k n, eqInts t = some (k, n) → ∀ (X Y : Operand) (a b : List Int) (w : World), a.length = n → b.length = n → (∀ x ∈ a, InR k x) → (∀ x ∈ b, InR k x) →
    (eqGuard .eql t X Y (.agg (a.map (Value.int k)).toArray) (.agg (b.map (Value.int k)).toArray)).run Tryd.prog w = .ok () w ∧
    (eqGuard .neq t X Y (.agg (a.map (Value.int k)).toArray) (.agg (b.map (Value.int k)).toArray)).run Tryd.prog w = .ok () w ∧
    (Op.equal t (.agg (a.map (Value.int k)).toArray) (.agg (b.map (Value.int k)).toArray)).run Tryd.prog w = .ok (a == b) w := by
  intro t k n h
  unfold eqInts at h
  split at h
  · cases h; exact eq_ints (by kernel_rfl) (by kernel_rfl) (by kernel_rfl) (by kernel_rfl) (by kernel_rfl)
  · cases h; exact eq_ints (by kernel_rfl) (by kernel_rfl) (by kernel_rfl) (by kernel_rfl) (by kernel_rfl)
  · cases h; exact eq_ints (by kernel_rfl) (by kernel_rfl) (by kernel_rfl) (by kernel_rfl) (by kernel_rfl)
  · cases h; exact eq_ints (by kernel_rfl) (by kernel_rfl) (by kernel_rfl) (by kernel_rfl) (by kernel_rfl)
  · cases h; exact eq_ints (by kernel_rfl) (by kernel_rfl) (by kernel_rfl) (by kernel_rfl) (by kernel_rfl)
  · cases h; exact eq_ints (by kernel_rfl) (by kernel_rfl) (by kernel_rfl) (by kernel_rfl) (by kernel_rfl)
  · cases h
theorem eqb_ok : ∀ t n, eqBools t = some n → ∀ (X Y : Operand) (a b : List Bool) (w : World), a.length = n → b.length = n →
    (eqGuard .eql t X Y (.agg (a.map Value.bool).toArray) (.agg (b.map Value.bool).toArray)).run Tryd.prog w = .ok () w ∧
    (eqGuard .neq t X Y (.agg (a.map Value.bool).toArray) (.agg (b.map Value.bool).toArray)).run Tryd.prog w = .ok () w ∧
    (Op.equal t (.agg (a.map Value.bool).toArray) (.agg (b.map Value.bool).toArray)).run Tryd.prog w = .ok (a == b) w := by
  intro t n h
  unfold eqBools at h
  split at h
  · cases h; exact eq_bools (by kernel_rfl) (by kernel_rfl) (by kernel_rfl) (by kernel_rfl) (by kernel_rfl)
  · cases h
theorem names_ok : ∀ (f : Nat) (fn : Func), Tryd.prog.funcs[f]? = some fn → fn.name ≠ "runtime.NumGoroutine" := names_of (by kernel_rfl)
theorem gsz_ok : ∀ g, gsizes g ≠ 0 → g < 1 := by
  intro g h
  unfold gsizes at h
  split at h
  · omega
  · exact (h rfl).elim
theorem envOK (sig : FuncId → Option Sig) (k : Nat) (ann : List (List Nat × Ann)) : EnvOK { P := Tryd.prog, eqi := eqInts, eqb := eqBools, zero := zeros, gsz := gsizes, gn := 1, gl := globs, sig := sig, k := k, ann := ann } :=
  ⟨fun t z h => (zero_ok t z h).1, eqi_ok, eqb_ok, fun t z fs h => (zero_ok t z h).2 fs, by kernel_rfl, gsz_ok, by kernel_rfl, names_ok⟩
end Go.Proofs.YthdojgehgcknmaaDoor
