/-
  Printed by a program of this session.
-/
import Derived.Test.YthdojgehgcknmaaDoorSh
namespace Go.Proofs.YthdojgehgcknmaaDoor
open Go Go.Ev
set_option maxRecDepth 100000
set_option linter.unusedVariables false
noncomputable def sig_keyed_Frame (k : Nat) : FuncId → Option Sig
  | _ => none
noncomputable def env_keyed_Frame (k : Nat) : Env := { P := Tryd.prog, eqi := eqInts, eqb := eqBools, zero := zeros, gsz := gsizes, gn := 1, gl := globs, sig := sig_keyed_Frame k, k := k, ann := [] }
theorem tie_keyed_Frame (k : Nat) (a0 : Int) : fun_ (env_keyed_Frame k) Tryd.f53 [.v (.int .i64)] [.v (.int .i64)] (a0, ()) = f_keyed_Frame k a0 := by kernel_rfl
noncomputable def sig_sip_number (k : Nat) : FuncId → Option Sig
  | _ => none
noncomputable def env_sip_number (k : Nat) : Env := { P := Tryd.prog, eqi := eqInts, eqb := eqBools, zero := zeros, gsz := gsizes, gn := 1, gl := globs, sig := sig_sip_number k, k := k, ann := [
  ([0], { items := [.slot 3 (.int .u64), .slot 7 (.int .i64)], outs := [(.exit 0, [.slot 3 (.int .u64)])], fresh := 8 })] }
theorem tie_sip_number (k : Nat) (a0 : List Int) : fun_ (env_sip_number k) Tryd.f98 [.v (.str)] [.v (.int .u64)] (a0, ()) = f_sip_number k a0 := by kernel_rfl
noncomputable def sig_sip_Turn (k : Nat) : FuncId → Option Sig
  | _ => none
noncomputable def env_sip_Turn (k : Nat) : Env := { P := Tryd.prog, eqi := eqInts, eqb := eqBools, zero := zeros, gsz := gsizes, gn := 1, gl := globs, sig := sig_sip_Turn k, k := k, ann := [] }
theorem tie_sip_Turn (k : Nat) (a0 : Int) (a1 : Int) : fun_ (env_sip_Turn k) Tryd.f137 [.v (.int .u64), .v (.int .i64)] [.v (.int .u64)] (a0, a1, ()) = f_sip_Turn k a0 a1 := by kernel_rfl
noncomputable def sig_sip_state_mix (k : Nat) : FuncId → Option Sig
  | 137 => some (sigOf globs [.v (.int .u64), .v (.int .i64)] [.v (.int .u64)] (fun x => f_sip_Turn k x.1 x.2.1))
  | _ => none
noncomputable def env_sip_state_mix (k : Nat) : Env := { P := Tryd.prog, eqi := eqInts, eqb := eqBools, zero := zeros, gsz := gsizes, gn := 1, gl := globs, sig := sig_sip_state_mix k, k := k, ann := [] }
theorem tie_sip_state_mix (k : Nat) (a0 : List Int) (a1 : Int) (a2 : Int) (a3 : Int) : fun_ (env_sip_state_mix k) Tryd.f136 [.ptr (.ints .u64 4), .v (.int .i64), .v (.int .i64), .v (.int .i64)] [] (a0, a1, a2, a3, ()) = f_sip_state_mix k a0 a1 a2 a3 := by kernel_rfl
noncomputable def sig_sip_state_round (k : Nat) : FuncId → Option Sig
  | 136 => some (sigOf globs [.ptr (.ints .u64 4), .v (.int .i64), .v (.int .i64), .v (.int .i64)] [] (fun x => f_sip_state_mix k x.1 x.2.1 x.2.2.1 x.2.2.2.1))
  | 137 => some (sigOf globs [.v (.int .u64), .v (.int .i64)] [.v (.int .u64)] (fun x => f_sip_Turn k x.1 x.2.1))
  | _ => none
noncomputable def env_sip_state_round (k : Nat) : Env := { P := Tryd.prog, eqi := eqInts, eqb := eqBools, zero := zeros, gsz := gsizes, gn := 1, gl := globs, sig := sig_sip_state_round k, k := k, ann := [] }
theorem tie_sip_state_round (k : Nat) (a0 : List Int) : fun_ (env_sip_state_round k) Tryd.f99 [.ptr (.ints .u64 4)] [] (a0, ()) = f_sip_state_round k a0 := by kernel_rfl
noncomputable def sig_sip_Words (k : Nat) : FuncId → Option Sig
  | 98 => some (sigOf globs [.v (.str)] [.v (.int .u64)] (fun x => f_sip_number k x.1))
  | _ => none
noncomputable def env_sip_Words (k : Nat) : Env := { P := Tryd.prog, eqi := eqInts, eqb := eqBools, zero := zeros, gsz := gsizes, gn := 1, gl := globs, sig := sig_sip_Words k, k := k, ann := [
  ([0], { items := [.slot 0 (.str), .own 3 0 (.row .u64)], outs := [(.exit 0, [.slot 0 (.str), .own 3 0 (.row .u64)])], fresh := 8 })] }
theorem tie_sip_Words (k : Nat) (a0 : List Int) : fun_ (env_sip_Words k) Tryd.f100 [.v (.str)] [.own (.row .u64)] (a0, ()) = f_sip_Words k a0 := by kernel_rfl
noncomputable def sig_sip_Sum (k : Nat) : FuncId → Option Sig
  | 98 => some (sigOf globs [.v (.str)] [.v (.int .u64)] (fun x => f_sip_number k x.1))
  | 99 => some (sigOf globs [.ptr (.ints .u64 4)] [] (fun x => f_sip_state_round k x.1))
  | 100 => some (sigOf globs [.v (.str)] [.own (.row .u64)] (fun x => f_sip_Words k x.1))
  | _ => none
noncomputable def env_sip_Sum (k : Nat) : Env := { P := Tryd.prog, eqi := eqInts, eqb := eqBools, zero := zeros, gsz := gsizes, gn := 1, gl := globs, sig := sig_sip_Sum k, k := k, ann := [
  ([0, 8001], { items := [.slot 5 (.int .i64), .blk (.fst (.slot 1) 0) (.ints .u64 4)], outs := [(.exit 0, [.blk (.fst (.slot 1) 0) (.ints .u64 4)])], fresh := 8 }),
  ([0], { items := [.slot 38 (.int .i64), .blk (.slot 7) (.ints .u64 4)], outs := [(.exit 0, [.blk (.slot 7) (.ints .u64 4)])], fresh := 8 }),
  ([0, 12001], { items := [.slot 5 (.int .i64), .blk (.fst (.slot 1) 0) (.ints .u64 4)], outs := [(.exit 0, [.blk (.fst (.slot 1) 0) (.ints .u64 4)])], fresh := 8 })] }
theorem tie_sip_Sum (k : Nat) (a0 : List Int) (a1 : List Int) : fun_ (env_sip_Sum k) Tryd.f52 [.v (.ints .u8 16), .v (.str)] [.v (.int .u64)] (a0, a1, ()) = f_sip_Sum k a0 a1 := by kernel_rfl
noncomputable def sig_keyed_Num (k : Nat) : FuncId → Option Sig
  | 52 => some (sigOf globs [.v (.ints .u8 16), .v (.str)] [.v (.int .u64)] (fun x => f_sip_Sum k x.1 x.2.1))
  | _ => none
noncomputable def env_keyed_Num (k : Nat) : Env := { P := Tryd.prog, eqi := eqInts, eqb := eqBools, zero := zeros, gsz := gsizes, gn := 1, gl := globs, sig := sig_keyed_Num k, k := k, ann := [
  ([0], { items := [.own 7 0 (.row .u8), .slot 11 (.int .i64)], outs := [(.exit 0, [.own 7 0 (.row .u8)])], fresh := 8 })] }
theorem tie_keyed_Num (k : Nat) (a0 : List Int) (a1 : Int) (a2 : Int) : fun_ (env_keyed_Num k) Tryd.f102 [.v (.ints .u8 16), .v (.int .u8), .v (.int .i64)] [.v (.int .u64)] (a0, a1, a2, ()) = f_keyed_Num k a0 a1 a2 := by kernel_rfl
noncomputable def sig_keyed_Order (k : Nat) : FuncId → Option Sig
  | 102 => some (sigOf globs [.v (.ints .u8 16), .v (.int .u8), .v (.int .i64)] [.v (.int .u64)] (fun x => f_keyed_Num k x.1 x.2.1 x.2.2.1))
  | _ => none
noncomputable def env_keyed_Order (k : Nat) : Env := { P := Tryd.prog, eqi := eqInts, eqb := eqBools, zero := zeros, gsz := gsizes, gn := 1, gl := globs, sig := sig_keyed_Order k, k := k, ann := [
  ([10001], { items := [.slot 16 (.bool)], outs := [], fresh := 0 }),
  ([0], { items := [.slot 21 (.int .i64), .blk (.slot 7) (.row .i64)], outs := [(.exit 0, [.blk (.slot 7) (.row .i64)])], fresh := 8 }),
  ([2], { items := [.slot 9 (.int .i64), .blk (.slot 7) (.row .i64)], outs := [(.exit 2, [.blk (.slot 7) (.row .i64)])], fresh := 8 })] }
theorem tie_keyed_Order (k : Nat) (a0 : List Int) (a1 : Int) (a2 : Int) : fun_ (env_keyed_Order k) Tryd.f54 [.v (.ints .u8 16), .v (.int .u8), .v (.int .i64)] [.own (.row .i64)] (a0, a1, a2, ()) = f_keyed_Order k a0 a1 a2 := by kernel_rfl
noncomputable def sig_keyed_Band (k : Nat) : FuncId → Option Sig
  | 53 => some (sigOf globs [.v (.int .i64)] [.v (.int .i64)] (fun x => f_keyed_Frame k x.1))
  | 54 => some (sigOf globs [.v (.ints .u8 16), .v (.int .u8), .v (.int .i64)] [.own (.row .i64)] (fun x => f_keyed_Order k x.1 x.2.1 x.2.2.1))
  | _ => none
noncomputable def env_keyed_Band (k : Nat) : Env := { P := Tryd.prog, eqi := eqInts, eqb := eqBools, zero := zeros, gsz := gsizes, gn := 1, gl := globs, sig := sig_keyed_Band k, k := k, ann := [] }
theorem tie_keyed_Band (k : Nat) (a0 : List Int) (a1 : Int) : fun_ (env_keyed_Band k) Tryd.f19 [.v (.ints .u8 16), .v (.int .i64)] [.v (.int .i64)] (a0, a1, ()) = f_keyed_Band k a0 a1 := by kernel_rfl
end Go.Proofs.YthdojgehgcknmaaDoor
