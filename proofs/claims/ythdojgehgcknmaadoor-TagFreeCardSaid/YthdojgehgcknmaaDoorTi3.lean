/-
  Printed by a program of this session.
-/
import Derived.Test.YthdojgehgcknmaaDoorSh
namespace Go.Proofs.YthdojgehgcknmaaDoor
open Go Go.Ev
set_option maxRecDepth 100000
set_option linter.unusedVariables false
noncomputable def sig_tag_gained (k : Nat) : FuncId → Option Sig
  | _ => none
noncomputable def env_tag_gained (k : Nat) : Env := { P := Tryd.prog, eqi := eqInts, eqb := eqBools, zero := zeros, gsz := gsizes, gn := 1, gl := globs, sig := sig_tag_gained k, k := k, ann := [] }
theorem tie_tag_gained (k : Nat) (a0 : List Int) (a1 : Int) : fun_ (env_tag_gained k) Tryd.f134 [.v (.ints .i64 4), .v (.int .i64)] [.own (.rows .i64 4)] (a0, a1, ()) = f_tag_gained k a0 a1 := by kernel_rfl
noncomputable def sig_tag_moved (k : Nat) : FuncId → Option Sig
  | 134 => some (sigOf globs [.v (.ints .i64 4), .v (.int .i64)] [.own (.rows .i64 4)] (fun x => f_tag_gained k x.1 x.2.1))
  | _ => none
noncomputable def env_tag_moved (k : Nat) : Env := { P := Tryd.prog, eqi := eqInts, eqb := eqBools, zero := zeros, gsz := gsizes, gn := 1, gl := globs, sig := sig_tag_moved k, k := k, ann := [
  ([20029], { items := [.own 3 0 (.rows .i64 4)], outs := [(.normal, [.own 3 0 (.rows .i64 4)])], fresh := 8 }),
  ([2], { items := [.own 3 0 (.rows .i64 4), .slot 24 (.int .i64)], outs := [(.exit 2, [.own 3 0 (.rows .i64 4)])], fresh := 8 }),
  ([0], { items := [.own 3 0 (.rows .i64 4), .slot 9 (.int .i64)], outs := [(.exit 0, [.own 3 0 (.rows .i64 4)])], fresh := 8 })] }
theorem tie_tag_moved (k : Nat) (a0 : List Int) : fun_ (env_tag_moved k) Tryd.f96 [.v (.ints .i64 4)] [.own (.rows .i64 4)] (a0, ()) = f_tag_moved k a0 := by kernel_rfl
noncomputable def sig_pvq_numbers (k : Nat) : FuncId → Option Sig
  | _ => none
noncomputable def env_pvq_numbers (k : Nat) : Env := { P := Tryd.prog, eqi := eqInts, eqb := eqBools, zero := zeros, gsz := gsizes, gn := 1, gl := globs, sig := sig_pvq_numbers k, k := k, ann := [
  ([0], { items := [.own 3 0 (.row .i64), .slot 4 (.int .i64)], outs := [(.exit 0, [.own 3 0 (.row .i64)])], fresh := 8 })] }
theorem tie_pvq_numbers (k : Nat) (a0 : Int) : fun_ (env_pvq_numbers k) Tryd.f88 [.v (.int .i64)] [.own (.row .i64)] (a0, ()) = f_pvq_numbers k a0 := by kernel_rfl
noncomputable def sig_slices_Index_int_int (k : Nat) : FuncId → Option Sig
  | _ => none
noncomputable def env_slices_Index_int_int (k : Nat) : Env := { P := Tryd.prog, eqi := eqInts, eqb := eqBools, zero := zeros, gsz := gsizes, gn := 1, gl := globs, sig := sig_slices_Index_int_int k, k := k, ann := [
  ([0], { items := [.slot 8 (.int .i64)], outs := [(.ret, [.slot 4 (.int .i64)]), (.exit 0, [])], fresh := 8 })] }
theorem tie_slices_Index_int_int (k : Nat) (a0 : List Int) (a1 : Int) : fun_ (env_slices_Index_int_int k) Tryd.f135 [.sl (.row .i64), .v (.int .i64)] [.v (.int .i64)] (a0, a1, ()) = f_slices_Index_int_int k a0 a1 := by kernel_rfl
noncomputable def sig_pvq_Index (k : Nat) : FuncId → Option Sig
  | 63 => some (sigOf globs [.sl (.row .i64)] [.v (.int .i64)] (fun x => f_pvq_Pulses k x.1))
  | 88 => some (sigOf globs [.v (.int .i64)] [.own (.row .i64)] (fun x => f_pvq_numbers k x.1))
  | 91 => some (sigOf globs [.v (.int .i64)] [.v (.int .i64)] (fun x => f_pvq_size k x.1))
  | 135 => some (sigOf globs [.sl (.row .i64), .v (.int .i64)] [.v (.int .i64)] (fun x => f_slices_Index_int_int k x.1 x.2.1))
  | _ => none
noncomputable def env_pvq_Index (k : Nat) : Env := { P := Tryd.prog, eqi := eqInts, eqb := eqBools, zero := zeros, gsz := gsizes, gn := 1, gl := globs, sig := sig_pvq_Index k, k := k, ann := [
  ([4, 4000], { items := [.slot 25 (.int .i64), .blk (.slot 1) (.ints .i64 117)], outs := [(.exit 4, [.blk (.slot 1) (.ints .i64 117)])], fresh := 8 }),
  ([2, 4000], { items := [.slot 11 (.int .i64), .blk (.slot 1) (.ints .i64 117)], outs := [(.exit 2, [.blk (.slot 1) (.ints .i64 117)])], fresh := 8 }),
  ([0, 4000], { items := [.slot 2 (.int .i64), .blk (.slot 1) (.ints .i64 117)], outs := [(.exit 0, [.blk (.slot 1) (.ints .i64 117)])], fresh := 8 }),
  ([2], { items := [.slot 6 (.int .i64), .slot 32 (.int .i64)], outs := [(.exit 2, [.slot 6 (.int .i64)])], fresh := 8 }),
  ([0], { items := [.slot 4 (.int .i64), .slot 6 (.int .i64), .slot 19 (.int .i64)], outs := [(.exit 0, [.slot 6 (.int .i64)])], fresh := 8 })] }
theorem tie_pvq_Index (k : Nat) (a0 : List Int) : fun_ (env_pvq_Index k) Tryd.f97 [.sl (.row .i64)] [.v (.int .i64), .v (.int .i64)] (a0, ()) = f_pvq_Index k a0 := by kernel_rfl
noncomputable def sig_tag_Put (k : Nat) : FuncId → Option Sig
  | 34 => some (sigOf globs [.v (.ints .i64 8), .v (.int .i64), .v (.ints .i64 4), .v (.ints .i64 4)] [.v (.bool)] (fun x => f_mask_May k x.1 x.2.1 x.2.2.1 x.2.2.2.1))
  | 46 => some (sigOf globs [.v (.ints .u8 16), .v (.ints .i64 41), .v (.str)] [.v (.ints .i64 12)] (fun x => f_tag_wishes k x.1 x.2.1 x.2.2.1))
  | 47 => some (sigOf globs [.v (.ints .u8 16), .v (.int .i64), .v (.int .i64), .v (.ints .i64 4)] [.v (.int .i64), .v (.bool)] (fun x => f_tag_Parity k x.1 x.2.1 x.2.2.1 x.2.2.2.1))
  | 48 => some (sigOf globs [.v (.ints .i64 40)] [.v (.bool)] (fun x => f_tag_right k x.1))
  | 96 => some (sigOf globs [.v (.ints .i64 4)] [.own (.rows .i64 4)] (fun x => f_tag_moved k x.1))
  | 97 => some (sigOf globs [.sl (.row .i64)] [.v (.int .i64), .v (.int .i64)] (fun x => f_pvq_Index k x.1))
  | _ => none
noncomputable def env_tag_Put (k : Nat) : Env := { P := Tryd.prog, eqi := eqInts, eqb := eqBools, zero := zeros, gsz := gsizes, gn := 1, gl := globs, sig := sig_tag_Put k, k := k, ann := [
  ([10008], { items := [.slot 49 (.bool)], outs := [], fresh := 0 }),
  ([10002, 6005, 10004], { items := [.slot 7 (.bool)], outs := [], fresh := 0 }),
  ([10006, 10004], { items := [.slot 39 (.bool)], outs := [], fresh := 0 }),
  ([20039, 10004], { items := [.blk (.slot 5) (.ints .i64 4)], outs := [(.normal, [.slot 6 (.int .i64), .blk (.slot 5) (.ints .i64 4)])], fresh := 8 }),
  ([0, 10004], { items := [.slot 6 (.int .i64), .slot 15 (.int .i64), .blk (.slot 5) (.ints .i64 4)], outs := [(.exit 0, [.blk (.slot 5) (.ints .i64 4)])], fresh := 8 }),
  ([0], { items := [.slot 23 (.int .i64), .blk (.slot 7) (.ints .i64 40)], outs := [(.exit 0, [.blk (.slot 7) (.ints .i64 40)])], fresh := 8 })] }
theorem tie_tag_Put (k : Nat) (a0 : List Int) (a1 : List Int) (a2 : List Int) : fun_ (env_tag_Put k) Tryd.f16 [.v (.ints .u8 16), .v (.ints .i64 41), .v (.str)] [.v (.ints .i64 40)] (a0, a1, a2, ()) = f_tag_Put k a0 a1 a2 := by kernel_rfl
noncomputable def sig_belfrylaw23_awake (k : Nat) : FuncId → Option Sig
  | 15 => some (sigOf globs [.v (.ints .u8 16), .v (.ints .i64 41), .v (.str)] [.v (.ints .i64 4)] (fun x => f_tag_Ask k x.1 x.2.1 x.2.2.1))
  | 16 => some (sigOf globs [.v (.ints .u8 16), .v (.ints .i64 41), .v (.str)] [.v (.ints .i64 40)] (fun x => f_tag_Put k x.1 x.2.1 x.2.2.1))
  | 17 => some (sigOf globs [.v (.ints .u8 16), .v (.int .i64)] [.v (.ints .i64 7)] (fun x => f_tag_Bands k x.1 x.2.1))
  | _ => none
noncomputable def env_belfrylaw23_awake (k : Nat) : Env := { P := Tryd.prog, eqi := eqInts, eqb := eqBools, zero := zeros, gsz := gsizes, gn := 1, gl := globs, sig := sig_belfrylaw23_awake k, k := k, ann := [
  ([0], { items := [.slot 3 (.int .i64), .blk (.slot 2) (.ints .i64 41)], outs := [(.exit 0, [.blk (.slot 2) (.ints .i64 41)])], fresh := 8 }),
  ([10010], { items := [.slot 0 (.bool)], outs := [], fresh := 0 })] }
theorem tie_belfrylaw23_awake (k : Nat)  : fun_ (env_belfrylaw23_awake k) Tryd.f13 [] [.v (.bool)] () = f_belfrylaw23_awake k := by kernel_rfl
noncomputable def sig_belfryref13_Count (k : Nat) : FuncId → Option Sig
  | _ => none
noncomputable def env_belfryref13_Count (k : Nat) : Env := { P := Tryd.prog, eqi := eqInts, eqb := eqBools, zero := zeros, gsz := gsizes, gn := 1, gl := globs, sig := sig_belfryref13_Count k, k := k, ann := [
  ([20048], { items := [.blk (.slot 7) (.row .i64)], outs := [(.normal, [.blk (.slot 7) (.row .i64)])], fresh := 8 }),
  ([4], { items := [.slot 9 (.int .i64), .blk (.slot 7) (.row .i64)], outs := [(.exit 4, [.blk (.slot 7) (.row .i64)])], fresh := 8 }),
  ([2], { items := [.slot 8 (.int .i64), .blk (.slot 7) (.row .i64)], outs := [(.exit 2, [.blk (.slot 7) (.row .i64)])], fresh := 8 }),
  ([0], { items := [.own 5 0 (.row .i64), .slot 6 (.int .i64)], outs := [(.exit 0, [.own 5 0 (.row .i64)])], fresh := 8 })] }
theorem tie_belfryref13_Count (k : Nat) (a0 : Int) (a1 : Int) : fun_ (env_belfryref13_Count k) Tryd.f133 [.v (.int .i64), .v (.int .i64)] [.v (.int .i64)] (a0, a1, ()) = f_belfryref13_Count k a0 a1 := by kernel_rfl
noncomputable def sig_belfryref18_Bits (k : Nat) : FuncId → Option Sig
  | 133 => some (sigOf globs [.v (.int .i64), .v (.int .i64)] [.v (.int .i64)] (fun x => f_belfryref13_Count k x.1 x.2.1))
  | _ => none
noncomputable def env_belfryref18_Bits (k : Nat) : Env := { P := Tryd.prog, eqi := eqInts, eqb := eqBools, zero := zeros, gsz := gsizes, gn := 1, gl := globs, sig := sig_belfryref18_Bits k, k := k, ann := [
  ([0], { items := [.slot 3 (.int .i64), .slot 4 (.int .i64)], outs := [(.exit 0, [.slot 3 (.int .i64)])], fresh := 8 })] }
theorem tie_belfryref18_Bits (k : Nat) (a0 : Int) : fun_ (env_belfryref18_Bits k) Tryd.f85 [.v (.int .i64)] [.v (.int .i64)] (a0, ()) = f_belfryref18_Bits k a0 := by kernel_rfl
noncomputable def sig_belfryref18_Pulses (k : Nat) : FuncId → Option Sig
  | 85 => some (sigOf globs [.v (.int .i64)] [.v (.int .i64)] (fun x => f_belfryref18_Bits k x.1))
  | _ => none
noncomputable def env_belfryref18_Pulses (k : Nat) : Env := { P := Tryd.prog, eqi := eqInts, eqb := eqBools, zero := zeros, gsz := gsizes, gn := 1, gl := globs, sig := sig_belfryref18_Pulses k, k := k, ann := [
  ([0], { items := [.slot 6 (.int .i64), .blk (.slot 5) (.ints .i64 13)], outs := [(.exit 0, [.blk (.slot 5) (.ints .i64 13)])], fresh := 8 }),
  ([10011], { items := [.slot 62 (.bool)], outs := [], fresh := 0 }),
  ([20062], { items := [], outs := [(.normal, [.slot 8 (.int .i64)])], fresh := 8 }),
  ([4], { items := [.slot 8 (.int .i64), .slot 9 (.int .i64)], outs := [(.exit 4, [.slot 8 (.int .i64)])], fresh := 8 }),
  ([2], { items := [.slot 1 (.int .i64), .blk (.slot 4) (.ints .i64 8), .blk (.slot 7) (.ints .i64 8)], outs := [(.ret, [.blk (.slot 4) (.ints .i64 8), .blk (.slot 7) (.ints .i64 8)])], fresh := 8 })] }
theorem tie_belfryref18_Pulses (k : Nat) (a0 : List Int) (a1 : Int) : fun_ (env_belfryref18_Pulses k) Tryd.f43 [.v (.ints .i64 8), .v (.int .i64)] [.v (.ints .i64 8)] (a0, a1, ()) = f_belfryref18_Pulses k a0 a1 := by kernel_rfl
end Go.Proofs.YthdojgehgcknmaaDoor
