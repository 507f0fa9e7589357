/-
  Printed by a program of this session.
-/
import Derived.Test.YthdojgehgcknmaaDoorSh
namespace Go.Proofs.YthdojgehgcknmaaDoor
open Go Go.Ev
set_option maxRecDepth 100000
set_option linter.unusedVariables false
noncomputable def sig_pvq_may (k : Nat) : FuncId → Option Sig
  | _ => none
noncomputable def env_pvq_may (k : Nat) : Env := { P := Tryd.prog, eqi := eqInts, eqb := eqBools, zero := zeros, gsz := gsizes, gn := 1, gl := globs, sig := sig_pvq_may k, k := k, ann := [
  ([10001], { items := [.slot 4 (.bool)], outs := [], fresh := 0 })] }
theorem tie_pvq_may (k : Nat) (a0 : Int) (a1 : Int) : fun_ (env_pvq_may k) Tryd.f86 [.v (.int .i64), .v (.int .i64)] [.v (.bool)] (a0, a1, ()) = f_pvq_may k a0 a1 := by kernel_rfl
noncomputable def sig_pvq_Count (k : Nat) : FuncId → Option Sig
  | 86 => some (sigOf globs [.v (.int .i64), .v (.int .i64)] [.v (.bool)] (fun x => f_pvq_may k x.1 x.2.1))
  | _ => none
noncomputable def env_pvq_Count (k : Nat) : Env := { P := Tryd.prog, eqi := eqInts, eqb := eqBools, zero := zeros, gsz := gsizes, gn := 1, gl := globs, sig := sig_pvq_Count k, k := k, ann := [
  ([4, 3000], { items := [.slot 25 (.int .i64), .blk (.slot 1) (.ints .i64 117)], outs := [(.exit 4, [.blk (.slot 1) (.ints .i64 117)])], fresh := 8 }),
  ([2, 3000], { items := [.slot 11 (.int .i64), .blk (.slot 1) (.ints .i64 117)], outs := [(.exit 2, [.blk (.slot 1) (.ints .i64 117)])], fresh := 8 }),
  ([0, 3000], { items := [.slot 2 (.int .i64), .blk (.slot 1) (.ints .i64 117)], outs := [(.exit 0, [.blk (.slot 1) (.ints .i64 117)])], fresh := 8 })] }
theorem tie_pvq_Count (k : Nat) (a0 : Int) (a1 : Int) : fun_ (env_pvq_Count k) Tryd.f44 [.v (.int .i64), .v (.int .i64)] [.v (.int .i64)] (a0, a1, ()) = f_pvq_Count k a0 a1 := by kernel_rfl
noncomputable def sig_pvq_Vector (k : Nat) : FuncId → Option Sig
  | 44 => some (sigOf globs [.v (.int .i64), .v (.int .i64)] [.v (.int .i64)] (fun x => f_pvq_Count k x.1 x.2.1))
  | 86 => some (sigOf globs [.v (.int .i64), .v (.int .i64)] [.v (.bool)] (fun x => f_pvq_may k x.1 x.2.1))
  | 88 => some (sigOf globs [.v (.int .i64)] [.own (.row .i64)] (fun x => f_pvq_numbers k x.1))
  | 91 => some (sigOf globs [.v (.int .i64)] [.v (.int .i64)] (fun x => f_pvq_size k x.1))
  | _ => none
noncomputable def env_pvq_Vector (k : Nat) : Env := { P := Tryd.prog, eqi := eqInts, eqb := eqBools, zero := zeros, gsz := gsizes, gn := 1, gl := globs, sig := sig_pvq_Vector k, k := k, ann := [
  ([10003], { items := [.slot 18 (.bool)], outs := [], fresh := 0 }),
  ([4, 5000], { items := [.slot 25 (.int .i64), .blk (.slot 1) (.ints .i64 117)], outs := [(.exit 4, [.blk (.slot 1) (.ints .i64 117)])], fresh := 8 }),
  ([2, 5000], { items := [.slot 11 (.int .i64), .blk (.slot 1) (.ints .i64 117)], outs := [(.exit 2, [.blk (.slot 1) (.ints .i64 117)])], fresh := 8 }),
  ([0, 5000], { items := [.slot 2 (.int .i64), .blk (.slot 1) (.ints .i64 117)], outs := [(.exit 0, [.blk (.slot 1) (.ints .i64 117)])], fresh := 8 }),
  ([0, 11002], { items := [.slot 8 (.int .i64), .blk (.cap (.slot 1) 4) (.int .i64)], outs := [(.ret, [.slot 4 (.int .i64), .blk (.cap (.slot 1) 4) (.int .i64)]), (.exit 0, [.blk (.cap (.slot 1) 4) (.int .i64)])], fresh := 8 }),
  ([1], { items := [.own 9 0 (.row .i64), .slot 30 (.int .i64), .blk (.slot 4) (.int .i64), .blk (.slot 5) (.int .i64)], outs := [(.exit 1, [.own 9 0 (.row .i64), .blk (.slot 4) (.int .i64), .blk (.slot 5) (.int .i64)])], fresh := 8 })] }
theorem tie_pvq_Vector (k : Nat) (a0 : Int) (a1 : Int) (a2 : Int) : fun_ (env_pvq_Vector k) Tryd.f45 [.v (.int .i64), .v (.int .i64), .v (.int .i64)] [.own (.row .i64), .v (.int .i64)] (a0, a1, a2, ()) = f_pvq_Vector k a0 a1 a2 := by kernel_rfl
noncomputable def sig_belfrylaw19_Shape (k : Nat) : FuncId → Option Sig
  | 43 => some (sigOf globs [.v (.ints .i64 8), .v (.int .i64)] [.v (.ints .i64 8)] (fun x => f_belfryref18_Pulses k x.1 x.2.1))
  | 44 => some (sigOf globs [.v (.int .i64), .v (.int .i64)] [.v (.int .i64)] (fun x => f_pvq_Count k x.1 x.2.1))
  | 45 => some (sigOf globs [.v (.int .i64), .v (.int .i64), .v (.int .i64)] [.own (.row .i64), .v (.int .i64)] (fun x => f_pvq_Vector k x.1 x.2.1 x.2.2.1))
  | _ => none
noncomputable def env_belfrylaw19_Shape (k : Nat) : Env := { P := Tryd.prog, eqi := eqInts, eqb := eqBools, zero := zeros, gsz := gsizes, gn := 1, gl := globs, sig := sig_belfrylaw19_Shape k, k := k, ann := [
  ([0], { items := [.slot 8 (.int .i64), .blk (.slot 7) (.ints .i64 40)], outs := [(.exit 0, [.blk (.slot 7) (.ints .i64 40)])], fresh := 8 }),
  ([10015], { items := [.slot 62 (.bool)], outs := [], fresh := 0 }),
  ([4], { items := [.slot 14 (.int .i64), .blk (.slot 7) (.ints .i64 40)], outs := [(.exit 4, [.blk (.slot 7) (.ints .i64 40)])], fresh := 8 }),
  ([2], { items := [.slot 10 (.int .i64), .blk (.slot 6) (.ints .i64 40), .blk (.slot 7) (.ints .i64 40)], outs := [(.ret, [.blk (.slot 6) (.ints .i64 40), .blk (.slot 7) (.ints .i64 40)]), (.exit 2, [.blk (.slot 6) (.ints .i64 40), .blk (.slot 7) (.ints .i64 40)])], fresh := 8 })] }
theorem tie_belfrylaw19_Shape (k : Nat) (a0 : List Int) (a1 : List Int) (a2 : Int) : fun_ (env_belfrylaw19_Shape k) Tryd.f14 [.v (.ints .i64 8), .v (.ints .u32 8), .v (.int .i64)] [.v (.ints .i64 40)] (a0, a1, a2, ()) = f_belfrylaw19_Shape k a0 a1 a2 := by kernel_rfl
noncomputable def sig_belfrylaw23_TagTells (k : Nat) : FuncId → Option Sig
  | 13 => some (sigOf globs [] [.v (.bool)] (fun x => f_belfrylaw23_awake k))
  | 14 => some (sigOf globs [.v (.ints .i64 8), .v (.ints .u32 8), .v (.int .i64)] [.v (.ints .i64 40)] (fun x => f_belfrylaw19_Shape k x.1 x.2.1 x.2.2.1))
  | 15 => some (sigOf globs [.v (.ints .u8 16), .v (.ints .i64 41), .v (.str)] [.v (.ints .i64 4)] (fun x => f_tag_Ask k x.1 x.2.1 x.2.2.1))
  | 16 => some (sigOf globs [.v (.ints .u8 16), .v (.ints .i64 41), .v (.str)] [.v (.ints .i64 40)] (fun x => f_tag_Put k x.1 x.2.1 x.2.2.1))
  | _ => none
noncomputable def env_belfrylaw23_TagTells (k : Nat) : Env := { P := Tryd.prog, eqi := eqInts, eqb := eqBools, zero := zeros, gsz := gsizes, gn := 1, gl := globs, sig := sig_belfrylaw23_TagTells k, k := k, ann := [
  ([10001], { items := [.slot 22 (.bool)], outs := [], fresh := 0 }),
  ([10007], { items := [.slot 12 (.bool)], outs := [], fresh := 0 })] }
theorem tie_belfrylaw23_TagTells (k : Nat) (a0 : List Int) (a1 : Int) (a2 : List Int) (a3 : List Int) (a4 : Int) (a5 : List Int) : fun_ (env_belfrylaw23_TagTells k) Tryd.f3 [.v (.ints .u8 16), .v (.int .u16), .v (.ints .i64 8), .v (.ints .u32 8), .v (.int .u8), .v (.str)] [.v (.bool)] (a0, a1, a2, a3, a4, a5, ()) = f_belfrylaw23_TagTells k a0 a1 a2 a3 a4 a5 := by kernel_rfl
noncomputable def sig_belfrylaw23_TagFree (k : Nat) : FuncId → Option Sig
  | 13 => some (sigOf globs [] [.v (.bool)] (fun x => f_belfrylaw23_awake k))
  | 14 => some (sigOf globs [.v (.ints .i64 8), .v (.ints .u32 8), .v (.int .i64)] [.v (.ints .i64 40)] (fun x => f_belfrylaw19_Shape k x.1 x.2.1 x.2.2.1))
  | 17 => some (sigOf globs [.v (.ints .u8 16), .v (.int .i64)] [.v (.ints .i64 7)] (fun x => f_tag_Bands k x.1 x.2.1))
  | 18 => some (sigOf globs [.v (.ints .u8 16), .v (.ints .i64 41)] [.v (.int .i64)] (fun x => f_tag_Own k x.1 x.2.1))
  | 19 => some (sigOf globs [.v (.ints .u8 16), .v (.int .i64)] [.v (.int .i64)] (fun x => f_keyed_Band k x.1 x.2.1))
  | _ => none
noncomputable def env_belfrylaw23_TagFree (k : Nat) : Env := { P := Tryd.prog, eqi := eqInts, eqb := eqBools, zero := zeros, gsz := gsizes, gn := 1, gl := globs, sig := sig_belfrylaw23_TagFree k, k := k, ann := [
  ([0], { items := [.slot 18 (.int .i64), .blk (.slot 14) (.ints .i64 41)], outs := [(.exit 0, [.blk (.slot 14) (.ints .i64 41)])], fresh := 8 }),
  ([10016], { items := [.slot 12 (.bool)], outs := [], fresh := 0 })] }
theorem tie_belfrylaw23_TagFree (k : Nat) (a0 : List Int) (a1 : Int) (a2 : List Int) (a3 : List Int) (a4 : List Int) (a5 : Int) : fun_ (env_belfrylaw23_TagFree k) Tryd.f4 [.v (.ints .u8 16), .v (.int .u16), .v (.ints .i64 8), .v (.ints .u32 8), .v (.ints .u32 8), .v (.int .u8)] [.v (.bool)] (a0, a1, a2, a3, a4, a5, ()) = f_belfrylaw23_TagFree k a0 a1 a2 a3 a4 a5 := by kernel_rfl
end Go.Proofs.YthdojgehgcknmaaDoor
