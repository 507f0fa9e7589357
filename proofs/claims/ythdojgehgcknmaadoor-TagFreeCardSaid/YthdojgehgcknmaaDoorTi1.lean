/-
  Printed by a program of this session.
-/
import Derived.Test.YthdojgehgcknmaaDoorSh
namespace Go.Proofs.YthdojgehgcknmaaDoor
open Go Go.Ev
set_option maxRecDepth 100000
set_option linter.unusedVariables false
noncomputable def sig_tag_Bands (k : Nat) : FuncId → Option Sig
  | 19 => some (sigOf globs [.v (.ints .u8 16), .v (.int .i64)] [.v (.int .i64)] (fun x => f_keyed_Band k x.1 x.2.1))
  | _ => none
noncomputable def env_tag_Bands (k : Nat) : Env := { P := Tryd.prog, eqi := eqInts, eqb := eqBools, zero := zeros, gsz := gsizes, gn := 1, gl := globs, sig := sig_tag_Bands k, k := k, ann := [
  ([20017], { items := [.blk (.slot 6) (.ints .i64 7)], outs := [(.normal, [.slot 7 (.int .i64), .blk (.slot 6) (.ints .i64 7)])], fresh := 8 }),
  ([0], { items := [.slot 7 (.int .i64), .slot 12 (.int .i64), .blk (.slot 6) (.ints .i64 7)], outs := [(.exit 0, [.blk (.slot 6) (.ints .i64 7)])], fresh := 8 })] }
theorem tie_tag_Bands (k : Nat) (a0 : List Int) (a1 : Int) : fun_ (env_tag_Bands k) Tryd.f17 [.v (.ints .u8 16), .v (.int .i64)] [.v (.ints .i64 7)] (a0, a1, ()) = f_tag_Bands k a0 a1 := by kernel_rfl
noncomputable def sig_tag_bytes (k : Nat) : FuncId → Option Sig
  | _ => none
noncomputable def env_tag_bytes (k : Nat) : Env := { P := Tryd.prog, eqi := eqInts, eqb := eqBools, zero := zeros, gsz := gsizes, gn := 1, gl := globs, sig := sig_tag_bytes k, k := k, ann := [
  ([0], { items := [.own 3 0 (.row .u8), .slot 7 (.int .i64)], outs := [(.exit 0, [.own 3 0 (.row .u8)])], fresh := 8 })] }
theorem tie_tag_bytes (k : Nat) (a0 : List Int) : fun_ (env_tag_bytes k) Tryd.f51 [.v (.ints .i64 4)] [.v (.str)] (a0, ()) = f_tag_bytes k a0 := by kernel_rfl
noncomputable def sig_tag_Own (k : Nat) : FuncId → Option Sig
  | 17 => some (sigOf globs [.v (.ints .u8 16), .v (.int .i64)] [.v (.ints .i64 7)] (fun x => f_tag_Bands k x.1 x.2.1))
  | 19 => some (sigOf globs [.v (.ints .u8 16), .v (.int .i64)] [.v (.int .i64)] (fun x => f_keyed_Band k x.1 x.2.1))
  | 51 => some (sigOf globs [.v (.ints .i64 4)] [.v (.str)] (fun x => f_tag_bytes k x.1))
  | 52 => some (sigOf globs [.v (.ints .u8 16), .v (.str)] [.v (.int .u64)] (fun x => f_sip_Sum k x.1 x.2.1))
  | _ => none
noncomputable def env_tag_Own (k : Nat) : Env := { P := Tryd.prog, eqi := eqInts, eqb := eqBools, zero := zeros, gsz := gsizes, gn := 1, gl := globs, sig := sig_tag_Own k, k := k, ann := [
  ([0], { items := [.slot 5 (.str), .slot 22 (.int .i64)], outs := [(.exit 0, [.slot 5 (.str)])], fresh := 8 })] }
theorem tie_tag_Own (k : Nat) (a0 : List Int) (a1 : List Int) : fun_ (env_tag_Own k) Tryd.f18 [.v (.ints .u8 16), .v (.ints .i64 41)] [.v (.int .i64)] (a0, a1, ()) = f_tag_Own k a0 a1 := by kernel_rfl
noncomputable def sig_tag_Ahead (k : Nat) : FuncId → Option Sig
  | 52 => some (sigOf globs [.v (.ints .u8 16), .v (.str)] [.v (.int .u64)] (fun x => f_sip_Sum k x.1 x.2.1))
  | _ => none
noncomputable def env_tag_Ahead (k : Nat) : Env := { P := Tryd.prog, eqi := eqInts, eqb := eqBools, zero := zeros, gsz := gsizes, gn := 1, gl := globs, sig := sig_tag_Ahead k, k := k, ann := [] }
theorem tie_tag_Ahead (k : Nat) (a0 : List Int) (a1 : List Int) : fun_ (env_tag_Ahead k) Tryd.f92 [.v (.ints .u8 16), .v (.str)] [.v (.int .i64)] (a0, a1, ()) = f_tag_Ahead k a0 a1 := by kernel_rfl
noncomputable def sig_tag_wishes (k : Nat) : FuncId → Option Sig
  | 17 => some (sigOf globs [.v (.ints .u8 16), .v (.int .i64)] [.v (.ints .i64 7)] (fun x => f_tag_Bands k x.1 x.2.1))
  | 18 => some (sigOf globs [.v (.ints .u8 16), .v (.ints .i64 41)] [.v (.int .i64)] (fun x => f_tag_Own k x.1 x.2.1))
  | 92 => some (sigOf globs [.v (.ints .u8 16), .v (.str)] [.v (.int .i64)] (fun x => f_tag_Ahead k x.1 x.2.1))
  | _ => none
noncomputable def env_tag_wishes (k : Nat) : Env := { P := Tryd.prog, eqi := eqInts, eqb := eqBools, zero := zeros, gsz := gsizes, gn := 1, gl := globs, sig := sig_tag_wishes k, k := k, ann := [
  ([0], { items := [.slot 22 (.int .i64), .blk (.slot 7) (.ints .i64 12)], outs := [(.exit 0, [.blk (.slot 7) (.ints .i64 12)])], fresh := 8 })] }
theorem tie_tag_wishes (k : Nat) (a0 : List Int) (a1 : List Int) (a2 : List Int) : fun_ (env_tag_wishes k) Tryd.f46 [.v (.ints .u8 16), .v (.ints .i64 41), .v (.str)] [.v (.ints .i64 12)] (a0, a1, a2, ()) = f_tag_wishes k a0 a1 a2 := by kernel_rfl
noncomputable def sig_pvq_size (k : Nat) : FuncId → Option Sig
  | _ => none
noncomputable def env_pvq_size (k : Nat) : Env := { P := Tryd.prog, eqi := eqInts, eqb := eqBools, zero := zeros, gsz := gsizes, gn := 1, gl := globs, sig := sig_pvq_size k, k := k, ann := [
  ([10001], { items := [.slot 8 (.bool)], outs := [], fresh := 0 })] }
theorem tie_pvq_size (k : Nat) (a0 : Int) : fun_ (env_pvq_size k) Tryd.f91 [.v (.int .i64)] [.v (.int .i64)] (a0, ()) = f_pvq_size k a0 := by kernel_rfl
noncomputable def sig_pvq_Pulses (k : Nat) : FuncId → Option Sig
  | 91 => some (sigOf globs [.v (.int .i64)] [.v (.int .i64)] (fun x => f_pvq_size k x.1))
  | _ => none
noncomputable def env_pvq_Pulses (k : Nat) : Env := { P := Tryd.prog, eqi := eqInts, eqb := eqBools, zero := zeros, gsz := gsizes, gn := 1, gl := globs, sig := sig_pvq_Pulses k, k := k, ann := [
  ([0], { items := [.slot 3 (.int .i64), .slot 11 (.int .i64)], outs := [(.exit 0, [.slot 3 (.int .i64)])], fresh := 8 })] }
theorem tie_pvq_Pulses (k : Nat) (a0 : List Int) : fun_ (env_pvq_Pulses k) Tryd.f63 [.sl (.row .i64)] [.v (.int .i64)] (a0, ()) = f_pvq_Pulses k a0 := by kernel_rfl
noncomputable def sig_tag_few (k : Nat) : FuncId → Option Sig
  | 63 => some (sigOf globs [.sl (.row .i64)] [.v (.int .i64)] (fun x => f_pvq_Pulses k x.1))
  | _ => none
noncomputable def env_tag_few (k : Nat) : Env := { P := Tryd.prog, eqi := eqInts, eqb := eqBools, zero := zeros, gsz := gsizes, gn := 1, gl := globs, sig := sig_tag_few k, k := k, ann := [] }
theorem tie_tag_few (k : Nat) (a0 : List Int) : fun_ (env_tag_few k) Tryd.f93 [.v (.ints .i64 4)] [.v (.bool)] (a0, ()) = f_tag_few k a0 := by kernel_rfl
noncomputable def sig_keyed_Subset (k : Nat) : FuncId → Option Sig
  | 53 => some (sigOf globs [.v (.int .i64)] [.v (.int .i64)] (fun x => f_keyed_Frame k x.1))
  | 102 => some (sigOf globs [.v (.ints .u8 16), .v (.int .u8), .v (.int .i64)] [.v (.int .u64)] (fun x => f_keyed_Num k x.1 x.2.1 x.2.2.1))
  | _ => none
noncomputable def env_keyed_Subset (k : Nat) : Env := { P := Tryd.prog, eqi := eqInts, eqb := eqBools, zero := zeros, gsz := gsizes, gn := 1, gl := globs, sig := sig_keyed_Subset k, k := k, ann := [
  ([10002], { items := [.slot 26 (.bool)], outs := [], fresh := 0 }),
  ([10010], { items := [.slot 11 (.bool)], outs := [], fresh := 0 }),
  ([0], { items := [.slot 11 (.bool), .slot 36 (.int .i64), .blk (.slot 9) (.bools 4)], outs := [(.exit 0, [.slot 11 (.bool), .blk (.slot 9) (.bools 4)])], fresh := 8 })] }
theorem tie_keyed_Subset (k : Nat) (a0 : List Int) (a1 : Int) (a2 : Int) (a3 : Int) : fun_ (env_keyed_Subset k) Tryd.f94 [.v (.ints .u8 16), .v (.int .i64), .v (.int .i64), .v (.int .i64)] [.v (.bools 4)] (a0, a1, a2, a3, ()) = f_keyed_Subset k a0 a1 a2 a3 := by kernel_rfl
noncomputable def sig_tag_odd (k : Nat) : FuncId → Option Sig
  | _ => none
noncomputable def env_tag_odd (k : Nat) : Env := { P := Tryd.prog, eqi := eqInts, eqb := eqBools, zero := zeros, gsz := gsizes, gn := 1, gl := globs, sig := sig_tag_odd k, k := k, ann := [
  ([20013], { items := [], outs := [(.normal, [.slot 5 (.int .i64)])], fresh := 8 }),
  ([0], { items := [.slot 5 (.int .i64), .slot 9 (.int .i64)], outs := [(.exit 0, [.slot 5 (.int .i64)])], fresh := 8 })] }
theorem tie_tag_odd (k : Nat) (a0 : List Int) (a1 : List Bool) : fun_ (env_tag_odd k) Tryd.f95 [.v (.ints .i64 4), .v (.bools 4)] [.v (.int .i64)] (a0, a1, ()) = f_tag_odd k a0 a1 := by kernel_rfl
end Go.Proofs.YthdojgehgcknmaaDoor
