/-
  Printed by a program of this session.
-/
import Derived.Test.YthdojgehgcknmaaDoorSh
namespace Go.Proofs.YthdojgehgcknmaaDoor
open Go Go.Ev
set_option maxRecDepth 100000
set_option linter.unusedVariables false
noncomputable def sig_tag_Parity (k : Nat) : FuncId → Option Sig
  | 63 => some (sigOf globs [.sl (.row .i64)] [.v (.int .i64)] (fun x => f_pvq_Pulses k x.1))
  | 93 => some (sigOf globs [.v (.ints .i64 4)] [.v (.bool)] (fun x => f_tag_few k x.1))
  | 94 => some (sigOf globs [.v (.ints .u8 16), .v (.int .i64), .v (.int .i64), .v (.int .i64)] [.v (.bools 4)] (fun x => f_keyed_Subset k x.1 x.2.1 x.2.2.1 x.2.2.2.1))
  | 95 => some (sigOf globs [.v (.ints .i64 4), .v (.bools 4)] [.v (.int .i64)] (fun x => f_tag_odd k x.1 x.2.1))
  | _ => none
noncomputable def env_tag_Parity (k : Nat) : Env := { P := Tryd.prog, eqi := eqInts, eqb := eqBools, zero := zeros, gsz := gsizes, gn := 1, gl := globs, sig := sig_tag_Parity k, k := k, ann := [
  ([10001], { items := [.slot 21 (.bool)], outs := [], fresh := 0 }),
  ([10004], { items := [.slot 8 (.int .i64), .slot 9 (.bool)], outs := [], fresh := 0 })] }
theorem tie_tag_Parity (k : Nat) (a0 : List Int) (a1 : Int) (a2 : Int) (a3 : List Int) : fun_ (env_tag_Parity k) Tryd.f47 [.v (.ints .u8 16), .v (.int .i64), .v (.int .i64), .v (.ints .i64 4)] [.v (.int .i64), .v (.bool)] (a0, a1, a2, a3, ()) = f_tag_Parity k a0 a1 a2 a3 := by kernel_rfl
noncomputable def sig_tag_Ask (k : Nat) : FuncId → Option Sig
  | 46 => some (sigOf globs [.v (.ints .u8 16), .v (.ints .i64 41), .v (.str)] [.v (.ints .i64 12)] (fun x => f_tag_wishes k x.1 x.2.1 x.2.2.1))
  | 47 => some (sigOf globs [.v (.ints .u8 16), .v (.int .i64), .v (.int .i64), .v (.ints .i64 4)] [.v (.int .i64), .v (.bool)] (fun x => f_tag_Parity k x.1 x.2.1 x.2.2.1 x.2.2.2.1))
  | _ => none
noncomputable def env_tag_Ask (k : Nat) : Env := { P := Tryd.prog, eqi := eqInts, eqb := eqBools, zero := zeros, gsz := gsizes, gn := 1, gl := globs, sig := sig_tag_Ask k, k := k, ann := [
  ([20035], { items := [.blk (.slot 7) (.ints .i64 4)], outs := [(.normal, [.blk (.slot 7) (.ints .i64 4)])], fresh := 8 }),
  ([10008], { items := [.slot 50 (.bool)], outs := [], fresh := 0 }),
  ([20050], { items := [.blk (.slot 7) (.ints .i64 4)], outs := [(.normal, [.blk (.slot 7) (.ints .i64 4)])], fresh := 8 }),
  ([0], { items := [.slot 16 (.int .i64), .blk (.slot 7) (.ints .i64 4)], outs := [(.exit 0, [.blk (.slot 7) (.ints .i64 4)])], fresh := 8 })] }
theorem tie_tag_Ask (k : Nat) (a0 : List Int) (a1 : List Int) (a2 : List Int) : fun_ (env_tag_Ask k) Tryd.f15 [.v (.ints .u8 16), .v (.ints .i64 41), .v (.str)] [.v (.ints .i64 4)] (a0, a1, a2, ()) = f_tag_Ask k a0 a1 a2 := by kernel_rfl
noncomputable def sig_band_Right_1 (k : Nat) : FuncId → Option Sig
  | _ => none
noncomputable def env_band_Right_1 (k : Nat) : Env := { P := Tryd.prog, eqi := eqInts, eqb := eqBools, zero := zeros, gsz := gsizes, gn := 1, gl := globs, sig := sig_band_Right_1 k, k := k, ann := [
  ([10001], { items := [.slot 2 (.bool)], outs := [], fresh := 0 })] }
theorem tie_band_Right_1 (k : Nat) (a0 : Int) : fun_ (env_band_Right_1 k) Tryd.f110 [.v (.int .i64)] [.v (.bool)] (a0, ()) = f_band_Right_1 k a0 := by kernel_rfl
noncomputable def sig_band_Right (k : Nat) : FuncId → Option Sig
  | 110 => some (sigOf globs [.v (.int .i64)] [.v (.bool)] (fun x => f_band_Right_1 k x.1))
  | _ => none
noncomputable def env_band_Right (k : Nat) : Env := { P := Tryd.prog, eqi := eqInts, eqb := eqBools, zero := zeros, gsz := gsizes, gn := 1, gl := globs, sig := sig_band_Right k, k := k, ann := [
  ([0, 1002, 1001], { items := [.slot 8 (.int .i64)], outs := [(.ret, [.slot 4 (.int .i64)]), (.exit 0, [])], fresh := 8 }),
  ([10001, 1001], { items := [.slot 4 (.bool)], outs := [], fresh := 0 })] }
theorem tie_band_Right (k : Nat) (a0 : List Int) : fun_ (env_band_Right k) Tryd.f68 [.v (.ints .i64 8)] [.v (.bool)] (a0, ()) = f_band_Right k a0 := by kernel_rfl
noncomputable def sig_mask_may (k : Nat) : FuncId → Option Sig
  | 68 => some (sigOf globs [.v (.ints .i64 8)] [.v (.bool)] (fun x => f_band_Right k x.1))
  | _ => none
noncomputable def env_mask_may (k : Nat) : Env := { P := Tryd.prog, eqi := eqInts, eqb := eqBools, zero := zeros, gsz := gsizes, gn := 1, gl := globs, sig := sig_mask_may k, k := k, ann := [
  ([10001], { items := [.slot 4 (.bool)], outs := [], fresh := 0 })] }
theorem tie_mask_may (k : Nat) (a0 : List Int) (a1 : Int) : fun_ (env_mask_may k) Tryd.f71 [.v (.ints .i64 8), .v (.int .i64)] [.v (.bool)] (a0, a1, ()) = f_mask_may k a0 a1 := by kernel_rfl
noncomputable def sig_mask_Budget (k : Nat) : FuncId → Option Sig
  | 71 => some (sigOf globs [.v (.ints .i64 8), .v (.int .i64)] [.v (.bool)] (fun x => f_mask_may k x.1 x.2.1))
  | _ => none
noncomputable def env_mask_Budget (k : Nat) : Env := { P := Tryd.prog, eqi := eqInts, eqb := eqBools, zero := zeros, gsz := gsizes, gn := 1, gl := globs, sig := sig_mask_Budget k, k := k, ann := [
  ([20026], { items := [], outs := [(.normal, [.slot 10 (.int .i64)])], fresh := 8 }),
  ([0], { items := [.slot 7 (.int .i64), .slot 18 (.int .i64)], outs := [(.exit 0, [.slot 7 (.int .i64)])], fresh := 8 })] }
theorem tie_mask_Budget (k : Nat) (a0 : List Int) (a1 : Int) : fun_ (env_mask_Budget k) Tryd.f108 [.v (.ints .i64 8), .v (.int .i64)] [.v (.int .i64)] (a0, a1, ()) = f_mask_Budget k a0 a1 := by kernel_rfl
noncomputable def sig_mask_Moves (k : Nat) : FuncId → Option Sig
  | 71 => some (sigOf globs [.v (.ints .i64 8), .v (.int .i64)] [.v (.bool)] (fun x => f_mask_may k x.1 x.2.1))
  | 108 => some (sigOf globs [.v (.ints .i64 8), .v (.int .i64)] [.v (.int .i64)] (fun x => f_mask_Budget k x.1 x.2.1))
  | _ => none
noncomputable def env_mask_Moves (k : Nat) : Env := { P := Tryd.prog, eqi := eqInts, eqb := eqBools, zero := zeros, gsz := gsizes, gn := 1, gl := globs, sig := sig_mask_Moves k, k := k, ann := [] }
theorem tie_mask_Moves (k : Nat) (a0 : List Int) (a1 : Int) : fun_ (env_mask_Moves k) Tryd.f62 [.v (.ints .i64 8), .v (.int .i64)] [.v (.int .i64)] (a0, a1, ()) = f_mask_Moves k a0 a1 := by kernel_rfl
noncomputable def sig_mask_Far (k : Nat) : FuncId → Option Sig
  | _ => none
noncomputable def env_mask_Far (k : Nat) : Env := { P := Tryd.prog, eqi := eqInts, eqb := eqBools, zero := zeros, gsz := gsizes, gn := 1, gl := globs, sig := sig_mask_Far k, k := k, ann := [
  ([10005], { items := [.slot 35 (.bool)], outs := [], fresh := 0 }),
  ([0], { items := [.slot 5 (.int .i64), .slot 7 (.int .i64)], outs := [(.ret, [.slot 4 (.int .i64)]), (.exit 0, [.slot 5 (.int .i64)])], fresh := 8 })] }
theorem tie_mask_Far (k : Nat) (a0 : List Int) (a1 : List Int) : fun_ (env_mask_Far k) Tryd.f70 [.v (.ints .i64 4), .v (.ints .i64 4)] [.v (.int .i64)] (a0, a1, ()) = f_mask_Far k a0 a1 := by kernel_rfl
noncomputable def sig_mask_May (k : Nat) : FuncId → Option Sig
  | 62 => some (sigOf globs [.v (.ints .i64 8), .v (.int .i64)] [.v (.int .i64)] (fun x => f_mask_Moves k x.1 x.2.1))
  | 70 => some (sigOf globs [.v (.ints .i64 4), .v (.ints .i64 4)] [.v (.int .i64)] (fun x => f_mask_Far k x.1 x.2.1))
  | 71 => some (sigOf globs [.v (.ints .i64 8), .v (.int .i64)] [.v (.bool)] (fun x => f_mask_may k x.1 x.2.1))
  | _ => none
noncomputable def env_mask_May (k : Nat) : Env := { P := Tryd.prog, eqi := eqInts, eqb := eqBools, zero := zeros, gsz := gsizes, gn := 1, gl := globs, sig := sig_mask_May k, k := k, ann := [
  ([10002], { items := [.slot 8 (.bool)], outs := [], fresh := 0 })] }
theorem tie_mask_May (k : Nat) (a0 : List Int) (a1 : Int) (a2 : List Int) (a3 : List Int) : fun_ (env_mask_May k) Tryd.f34 [.v (.ints .i64 8), .v (.int .i64), .v (.ints .i64 4), .v (.ints .i64 4)] [.v (.bool)] (a0, a1, a2, a3, ()) = f_mask_May k a0 a1 a2 a3 := by kernel_rfl
noncomputable def sig_tag_right (k : Nat) : FuncId → Option Sig
  | 68 => some (sigOf globs [.v (.ints .i64 8)] [.v (.bool)] (fun x => f_band_Right k x.1))
  | 93 => some (sigOf globs [.v (.ints .i64 4)] [.v (.bool)] (fun x => f_tag_few k x.1))
  | _ => none
noncomputable def env_tag_right (k : Nat) : Env := { P := Tryd.prog, eqi := eqInts, eqb := eqBools, zero := zeros, gsz := gsizes, gn := 1, gl := globs, sig := sig_tag_right k, k := k, ann := [
  ([0], { items := [.slot 7 (.int .i64)], outs := [(.ret, [.slot 2 (.bool)]), (.exit 0, [])], fresh := 8 })] }
theorem tie_tag_right (k : Nat) (a0 : List Int) : fun_ (env_tag_right k) Tryd.f48 [.v (.ints .i64 40)] [.v (.bool)] (a0, ()) = f_tag_right k a0 := by kernel_rfl
end Go.Proofs.YthdojgehgcknmaaDoor
