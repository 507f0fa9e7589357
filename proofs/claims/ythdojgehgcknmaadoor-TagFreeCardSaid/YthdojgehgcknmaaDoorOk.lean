/-
  Printed by a program of this session.
-/
import Derived.Test.YthdojgehgcknmaaDoorEv
import Derived.Test.YthdojgehgcknmaaDoorTi0
import Derived.Test.YthdojgehgcknmaaDoorTi1
import Derived.Test.YthdojgehgcknmaaDoorTi2
import Derived.Test.YthdojgehgcknmaaDoorTi3
import Derived.Test.YthdojgehgcknmaaDoorTi4
namespace Go.Proofs.YthdojgehgcknmaaDoor
open Go Go.Ev
set_option maxRecDepth 100000
noncomputable def env0 : Env := { P := Tryd.prog, eqi := eqInts, eqb := eqBools, zero := zeros, gsz := gsizes, gn := 1, gl := globs, sig := fun _ => none, k := 0, ann := [] }
theorem ok_keyed_Frame (k : Nat) : SigOK env0 53 (sigOf globs [.v (.int .i64)] [.v (.int .i64)] (fun x => f_keyed_Frame k x.1)) := by
  refine SigOK.env (E := env_keyed_Frame k) (E' := env0) rfl rfl rfl (fun_ok (envOK _ k _) ?_ Tryd.func53 (fun (x : Acs.T [.v (.int .i64)]) => tie_keyed_Frame k x.1))
  intro f g h
  replace h : sig_keyed_Frame k f = some g := h
  unfold sig_keyed_Frame at h
  cases h
theorem ok_sip_number (k : Nat) : SigOK env0 98 (sigOf globs [.v (.str)] [.v (.int .u64)] (fun x => f_sip_number k x.1)) := by
  refine SigOK.env (E := env_sip_number k) (E' := env0) rfl rfl rfl (fun_ok (envOK _ k _) ?_ Tryd.func98 (fun (x : Acs.T [.v (.str)]) => tie_sip_number k x.1))
  intro f g h
  replace h : sig_sip_number k f = some g := h
  unfold sig_sip_number at h
  cases h
theorem ok_sip_Turn (k : Nat) : SigOK env0 137 (sigOf globs [.v (.int .u64), .v (.int .i64)] [.v (.int .u64)] (fun x => f_sip_Turn k x.1 x.2.1)) := by
  refine SigOK.env (E := env_sip_Turn k) (E' := env0) rfl rfl rfl (fun_ok (envOK _ k _) ?_ Tryd.func137 (fun (x : Acs.T [.v (.int .u64), .v (.int .i64)]) => tie_sip_Turn k x.1 x.2.1))
  intro f g h
  replace h : sig_sip_Turn k f = some g := h
  unfold sig_sip_Turn at h
  cases h
theorem ok_sip_state_mix (k : Nat) : SigOK env0 136 (sigOf globs [.ptr (.ints .u64 4), .v (.int .i64), .v (.int .i64), .v (.int .i64)] [] (fun x => f_sip_state_mix k x.1 x.2.1 x.2.2.1 x.2.2.2.1)) := by
  refine SigOK.env (E := env_sip_state_mix k) (E' := env0) rfl rfl rfl (fun_ok (envOK _ k _) ?_ Tryd.func136 (fun (x : Acs.T [.ptr (.ints .u64 4), .v (.int .i64), .v (.int .i64), .v (.int .i64)]) => tie_sip_state_mix k x.1 x.2.1 x.2.2.1 x.2.2.2.1))
  intro f g h
  replace h : sig_sip_state_mix k f = some g := h
  unfold sig_sip_state_mix at h
  split at h
  · cases h; exact SigOK.env (E := env0) (E' := env_sip_state_mix k) rfl rfl rfl (ok_sip_Turn k)
  · cases h
theorem ok_sip_state_round (k : Nat) : SigOK env0 99 (sigOf globs [.ptr (.ints .u64 4)] [] (fun x => f_sip_state_round k x.1)) := by
  refine SigOK.env (E := env_sip_state_round k) (E' := env0) rfl rfl rfl (fun_ok (envOK _ k _) ?_ Tryd.func99 (fun (x : Acs.T [.ptr (.ints .u64 4)]) => tie_sip_state_round k x.1))
  intro f g h
  replace h : sig_sip_state_round k f = some g := h
  unfold sig_sip_state_round at h
  split at h
  · cases h; exact SigOK.env (E := env0) (E' := env_sip_state_round k) rfl rfl rfl (ok_sip_state_mix k)
  · cases h; exact SigOK.env (E := env0) (E' := env_sip_state_round k) rfl rfl rfl (ok_sip_Turn k)
  · cases h
theorem ok_sip_Words (k : Nat) : SigOK env0 100 (sigOf globs [.v (.str)] [.own (.row .u64)] (fun x => f_sip_Words k x.1)) := by
  refine SigOK.env (E := env_sip_Words k) (E' := env0) rfl rfl rfl (fun_ok (envOK _ k _) ?_ Tryd.func100 (fun (x : Acs.T [.v (.str)]) => tie_sip_Words k x.1))
  intro f g h
  replace h : sig_sip_Words k f = some g := h
  unfold sig_sip_Words at h
  split at h
  · cases h; exact SigOK.env (E := env0) (E' := env_sip_Words k) rfl rfl rfl (ok_sip_number k)
  · cases h
theorem ok_sip_Sum (k : Nat) : SigOK env0 52 (sigOf globs [.v (.ints .u8 16), .v (.str)] [.v (.int .u64)] (fun x => f_sip_Sum k x.1 x.2.1)) := by
  refine SigOK.env (E := env_sip_Sum k) (E' := env0) rfl rfl rfl (fun_ok (envOK _ k _) ?_ Tryd.func52 (fun (x : Acs.T [.v (.ints .u8 16), .v (.str)]) => tie_sip_Sum k x.1 x.2.1))
  intro f g h
  replace h : sig_sip_Sum k f = some g := h
  unfold sig_sip_Sum at h
  split at h
  · cases h; exact SigOK.env (E := env0) (E' := env_sip_Sum k) rfl rfl rfl (ok_sip_number k)
  · cases h; exact SigOK.env (E := env0) (E' := env_sip_Sum k) rfl rfl rfl (ok_sip_state_round k)
  · cases h; exact SigOK.env (E := env0) (E' := env_sip_Sum k) rfl rfl rfl (ok_sip_Words k)
  · cases h
theorem ok_keyed_Num (k : Nat) : SigOK env0 102 (sigOf globs [.v (.ints .u8 16), .v (.int .u8), .v (.int .i64)] [.v (.int .u64)] (fun x => f_keyed_Num k x.1 x.2.1 x.2.2.1)) := by
  refine SigOK.env (E := env_keyed_Num k) (E' := env0) rfl rfl rfl (fun_ok (envOK _ k _) ?_ Tryd.func102 (fun (x : Acs.T [.v (.ints .u8 16), .v (.int .u8), .v (.int .i64)]) => tie_keyed_Num k x.1 x.2.1 x.2.2.1))
  intro f g h
  replace h : sig_keyed_Num k f = some g := h
  unfold sig_keyed_Num at h
  split at h
  · cases h; exact SigOK.env (E := env0) (E' := env_keyed_Num k) rfl rfl rfl (ok_sip_Sum k)
  · cases h
theorem ok_keyed_Order (k : Nat) : SigOK env0 54 (sigOf globs [.v (.ints .u8 16), .v (.int .u8), .v (.int .i64)] [.own (.row .i64)] (fun x => f_keyed_Order k x.1 x.2.1 x.2.2.1)) := by
  refine SigOK.env (E := env_keyed_Order k) (E' := env0) rfl rfl rfl (fun_ok (envOK _ k _) ?_ Tryd.func54 (fun (x : Acs.T [.v (.ints .u8 16), .v (.int .u8), .v (.int .i64)]) => tie_keyed_Order k x.1 x.2.1 x.2.2.1))
  intro f g h
  replace h : sig_keyed_Order k f = some g := h
  unfold sig_keyed_Order at h
  split at h
  · cases h; exact SigOK.env (E := env0) (E' := env_keyed_Order k) rfl rfl rfl (ok_keyed_Num k)
  · cases h
theorem ok_keyed_Band (k : Nat) : SigOK env0 19 (sigOf globs [.v (.ints .u8 16), .v (.int .i64)] [.v (.int .i64)] (fun x => f_keyed_Band k x.1 x.2.1)) := by
  refine SigOK.env (E := env_keyed_Band k) (E' := env0) rfl rfl rfl (fun_ok (envOK _ k _) ?_ Tryd.func19 (fun (x : Acs.T [.v (.ints .u8 16), .v (.int .i64)]) => tie_keyed_Band k x.1 x.2.1))
  intro f g h
  replace h : sig_keyed_Band k f = some g := h
  unfold sig_keyed_Band at h
  split at h
  · cases h; exact SigOK.env (E := env0) (E' := env_keyed_Band k) rfl rfl rfl (ok_keyed_Frame k)
  · cases h; exact SigOK.env (E := env0) (E' := env_keyed_Band k) rfl rfl rfl (ok_keyed_Order k)
  · cases h
theorem ok_tag_Bands (k : Nat) : SigOK env0 17 (sigOf globs [.v (.ints .u8 16), .v (.int .i64)] [.v (.ints .i64 7)] (fun x => f_tag_Bands k x.1 x.2.1)) := by
  refine SigOK.env (E := env_tag_Bands k) (E' := env0) rfl rfl rfl (fun_ok (envOK _ k _) ?_ Tryd.func17 (fun (x : Acs.T [.v (.ints .u8 16), .v (.int .i64)]) => tie_tag_Bands k x.1 x.2.1))
  intro f g h
  replace h : sig_tag_Bands k f = some g := h
  unfold sig_tag_Bands at h
  split at h
  · cases h; exact SigOK.env (E := env0) (E' := env_tag_Bands k) rfl rfl rfl (ok_keyed_Band k)
  · cases h
theorem ok_tag_bytes (k : Nat) : SigOK env0 51 (sigOf globs [.v (.ints .i64 4)] [.v (.str)] (fun x => f_tag_bytes k x.1)) := by
  refine SigOK.env (E := env_tag_bytes k) (E' := env0) rfl rfl rfl (fun_ok (envOK _ k _) ?_ Tryd.func51 (fun (x : Acs.T [.v (.ints .i64 4)]) => tie_tag_bytes k x.1))
  intro f g h
  replace h : sig_tag_bytes k f = some g := h
  unfold sig_tag_bytes at h
  cases h
theorem ok_tag_Own (k : Nat) : SigOK env0 18 (sigOf globs [.v (.ints .u8 16), .v (.ints .i64 41)] [.v (.int .i64)] (fun x => f_tag_Own k x.1 x.2.1)) := by
  refine SigOK.env (E := env_tag_Own k) (E' := env0) rfl rfl rfl (fun_ok (envOK _ k _) ?_ Tryd.func18 (fun (x : Acs.T [.v (.ints .u8 16), .v (.ints .i64 41)]) => tie_tag_Own k x.1 x.2.1))
  intro f g h
  replace h : sig_tag_Own k f = some g := h
  unfold sig_tag_Own at h
  split at h
  · cases h; exact SigOK.env (E := env0) (E' := env_tag_Own k) rfl rfl rfl (ok_tag_Bands k)
  · cases h; exact SigOK.env (E := env0) (E' := env_tag_Own k) rfl rfl rfl (ok_keyed_Band k)
  · cases h; exact SigOK.env (E := env0) (E' := env_tag_Own k) rfl rfl rfl (ok_tag_bytes k)
  · cases h; exact SigOK.env (E := env0) (E' := env_tag_Own k) rfl rfl rfl (ok_sip_Sum k)
  · cases h
theorem ok_tag_Ahead (k : Nat) : SigOK env0 92 (sigOf globs [.v (.ints .u8 16), .v (.str)] [.v (.int .i64)] (fun x => f_tag_Ahead k x.1 x.2.1)) := by
  refine SigOK.env (E := env_tag_Ahead k) (E' := env0) rfl rfl rfl (fun_ok (envOK _ k _) ?_ Tryd.func92 (fun (x : Acs.T [.v (.ints .u8 16), .v (.str)]) => tie_tag_Ahead k x.1 x.2.1))
  intro f g h
  replace h : sig_tag_Ahead k f = some g := h
  unfold sig_tag_Ahead at h
  split at h
  · cases h; exact SigOK.env (E := env0) (E' := env_tag_Ahead k) rfl rfl rfl (ok_sip_Sum k)
  · cases h
theorem ok_tag_wishes (k : Nat) : SigOK env0 46 (sigOf globs [.v (.ints .u8 16), .v (.ints .i64 41), .v (.str)] [.v (.ints .i64 12)] (fun x => f_tag_wishes k x.1 x.2.1 x.2.2.1)) := by
  refine SigOK.env (E := env_tag_wishes k) (E' := env0) rfl rfl rfl (fun_ok (envOK _ k _) ?_ Tryd.func46 (fun (x : Acs.T [.v (.ints .u8 16), .v (.ints .i64 41), .v (.str)]) => tie_tag_wishes k x.1 x.2.1 x.2.2.1))
  intro f g h
  replace h : sig_tag_wishes k f = some g := h
  unfold sig_tag_wishes at h
  split at h
  · cases h; exact SigOK.env (E := env0) (E' := env_tag_wishes k) rfl rfl rfl (ok_tag_Bands k)
  · cases h; exact SigOK.env (E := env0) (E' := env_tag_wishes k) rfl rfl rfl (ok_tag_Own k)
  · cases h; exact SigOK.env (E := env0) (E' := env_tag_wishes k) rfl rfl rfl (ok_tag_Ahead k)
  · cases h
theorem ok_pvq_size (k : Nat) : SigOK env0 91 (sigOf globs [.v (.int .i64)] [.v (.int .i64)] (fun x => f_pvq_size k x.1)) := by
  refine SigOK.env (E := env_pvq_size k) (E' := env0) rfl rfl rfl (fun_ok (envOK _ k _) ?_ Tryd.func91 (fun (x : Acs.T [.v (.int .i64)]) => tie_pvq_size k x.1))
  intro f g h
  replace h : sig_pvq_size k f = some g := h
  unfold sig_pvq_size at h
  cases h
theorem ok_pvq_Pulses (k : Nat) : SigOK env0 63 (sigOf globs [.sl (.row .i64)] [.v (.int .i64)] (fun x => f_pvq_Pulses k x.1)) := by
  refine SigOK.env (E := env_pvq_Pulses k) (E' := env0) rfl rfl rfl (fun_ok (envOK _ k _) ?_ Tryd.func63 (fun (x : Acs.T [.sl (.row .i64)]) => tie_pvq_Pulses k x.1))
  intro f g h
  replace h : sig_pvq_Pulses k f = some g := h
  unfold sig_pvq_Pulses at h
  split at h
  · cases h; exact SigOK.env (E := env0) (E' := env_pvq_Pulses k) rfl rfl rfl (ok_pvq_size k)
  · cases h
theorem ok_tag_few (k : Nat) : SigOK env0 93 (sigOf globs [.v (.ints .i64 4)] [.v (.bool)] (fun x => f_tag_few k x.1)) := by
  refine SigOK.env (E := env_tag_few k) (E' := env0) rfl rfl rfl (fun_ok (envOK _ k _) ?_ Tryd.func93 (fun (x : Acs.T [.v (.ints .i64 4)]) => tie_tag_few k x.1))
  intro f g h
  replace h : sig_tag_few k f = some g := h
  unfold sig_tag_few at h
  split at h
  · cases h; exact SigOK.env (E := env0) (E' := env_tag_few k) rfl rfl rfl (ok_pvq_Pulses k)
  · cases h
theorem ok_keyed_Subset (k : Nat) : SigOK env0 94 (sigOf globs [.v (.ints .u8 16), .v (.int .i64), .v (.int .i64), .v (.int .i64)] [.v (.bools 4)] (fun x => f_keyed_Subset k x.1 x.2.1 x.2.2.1 x.2.2.2.1)) := by
  refine SigOK.env (E := env_keyed_Subset k) (E' := env0) rfl rfl rfl (fun_ok (envOK _ k _) ?_ Tryd.func94 (fun (x : Acs.T [.v (.ints .u8 16), .v (.int .i64), .v (.int .i64), .v (.int .i64)]) => tie_keyed_Subset k x.1 x.2.1 x.2.2.1 x.2.2.2.1))
  intro f g h
  replace h : sig_keyed_Subset k f = some g := h
  unfold sig_keyed_Subset at h
  split at h
  · cases h; exact SigOK.env (E := env0) (E' := env_keyed_Subset k) rfl rfl rfl (ok_keyed_Frame k)
  · cases h; exact SigOK.env (E := env0) (E' := env_keyed_Subset k) rfl rfl rfl (ok_keyed_Num k)
  · cases h
theorem ok_tag_odd (k : Nat) : SigOK env0 95 (sigOf globs [.v (.ints .i64 4), .v (.bools 4)] [.v (.int .i64)] (fun x => f_tag_odd k x.1 x.2.1)) := by
  refine SigOK.env (E := env_tag_odd k) (E' := env0) rfl rfl rfl (fun_ok (envOK _ k _) ?_ Tryd.func95 (fun (x : Acs.T [.v (.ints .i64 4), .v (.bools 4)]) => tie_tag_odd k x.1 x.2.1))
  intro f g h
  replace h : sig_tag_odd k f = some g := h
  unfold sig_tag_odd at h
  cases h
theorem ok_tag_Parity (k : Nat) : SigOK env0 47 (sigOf globs [.v (.ints .u8 16), .v (.int .i64), .v (.int .i64), .v (.ints .i64 4)] [.v (.int .i64), .v (.bool)] (fun x => f_tag_Parity k x.1 x.2.1 x.2.2.1 x.2.2.2.1)) := by
  refine SigOK.env (E := env_tag_Parity k) (E' := env0) rfl rfl rfl (fun_ok (envOK _ k _) ?_ Tryd.func47 (fun (x : Acs.T [.v (.ints .u8 16), .v (.int .i64), .v (.int .i64), .v (.ints .i64 4)]) => tie_tag_Parity k x.1 x.2.1 x.2.2.1 x.2.2.2.1))
  intro f g h
  replace h : sig_tag_Parity k f = some g := h
  unfold sig_tag_Parity at h
  split at h
  · cases h; exact SigOK.env (E := env0) (E' := env_tag_Parity k) rfl rfl rfl (ok_pvq_Pulses k)
  · cases h; exact SigOK.env (E := env0) (E' := env_tag_Parity k) rfl rfl rfl (ok_tag_few k)
  · cases h; exact SigOK.env (E := env0) (E' := env_tag_Parity k) rfl rfl rfl (ok_keyed_Subset k)
  · cases h; exact SigOK.env (E := env0) (E' := env_tag_Parity k) rfl rfl rfl (ok_tag_odd k)
  · cases h
theorem ok_tag_Ask (k : Nat) : SigOK env0 15 (sigOf globs [.v (.ints .u8 16), .v (.ints .i64 41), .v (.str)] [.v (.ints .i64 4)] (fun x => f_tag_Ask k x.1 x.2.1 x.2.2.1)) := by
  refine SigOK.env (E := env_tag_Ask k) (E' := env0) rfl rfl rfl (fun_ok (envOK _ k _) ?_ Tryd.func15 (fun (x : Acs.T [.v (.ints .u8 16), .v (.ints .i64 41), .v (.str)]) => tie_tag_Ask k x.1 x.2.1 x.2.2.1))
  intro f g h
  replace h : sig_tag_Ask k f = some g := h
  unfold sig_tag_Ask at h
  split at h
  · cases h; exact SigOK.env (E := env0) (E' := env_tag_Ask k) rfl rfl rfl (ok_tag_wishes k)
  · cases h; exact SigOK.env (E := env0) (E' := env_tag_Ask k) rfl rfl rfl (ok_tag_Parity k)
  · cases h
theorem ok_band_Right_1 (k : Nat) : SigOK env0 110 (sigOf globs [.v (.int .i64)] [.v (.bool)] (fun x => f_band_Right_1 k x.1)) := by
  refine SigOK.env (E := env_band_Right_1 k) (E' := env0) rfl rfl rfl (fun_ok (envOK _ k _) ?_ Tryd.func110 (fun (x : Acs.T [.v (.int .i64)]) => tie_band_Right_1 k x.1))
  intro f g h
  replace h : sig_band_Right_1 k f = some g := h
  unfold sig_band_Right_1 at h
  cases h
theorem ok_band_Right (k : Nat) : SigOK env0 68 (sigOf globs [.v (.ints .i64 8)] [.v (.bool)] (fun x => f_band_Right k x.1)) := by
  refine SigOK.env (E := env_band_Right k) (E' := env0) rfl rfl rfl (fun_ok (envOK _ k _) ?_ Tryd.func68 (fun (x : Acs.T [.v (.ints .i64 8)]) => tie_band_Right k x.1))
  intro f g h
  replace h : sig_band_Right k f = some g := h
  unfold sig_band_Right at h
  split at h
  · cases h; exact SigOK.env (E := env0) (E' := env_band_Right k) rfl rfl rfl (ok_band_Right_1 k)
  · cases h
theorem ok_mask_may (k : Nat) : SigOK env0 71 (sigOf globs [.v (.ints .i64 8), .v (.int .i64)] [.v (.bool)] (fun x => f_mask_may k x.1 x.2.1)) := by
  refine SigOK.env (E := env_mask_may k) (E' := env0) rfl rfl rfl (fun_ok (envOK _ k _) ?_ Tryd.func71 (fun (x : Acs.T [.v (.ints .i64 8), .v (.int .i64)]) => tie_mask_may k x.1 x.2.1))
  intro f g h
  replace h : sig_mask_may k f = some g := h
  unfold sig_mask_may at h
  split at h
  · cases h; exact SigOK.env (E := env0) (E' := env_mask_may k) rfl rfl rfl (ok_band_Right k)
  · cases h
theorem ok_mask_Budget (k : Nat) : SigOK env0 108 (sigOf globs [.v (.ints .i64 8), .v (.int .i64)] [.v (.int .i64)] (fun x => f_mask_Budget k x.1 x.2.1)) := by
  refine SigOK.env (E := env_mask_Budget k) (E' := env0) rfl rfl rfl (fun_ok (envOK _ k _) ?_ Tryd.func108 (fun (x : Acs.T [.v (.ints .i64 8), .v (.int .i64)]) => tie_mask_Budget k x.1 x.2.1))
  intro f g h
  replace h : sig_mask_Budget k f = some g := h
  unfold sig_mask_Budget at h
  split at h
  · cases h; exact SigOK.env (E := env0) (E' := env_mask_Budget k) rfl rfl rfl (ok_mask_may k)
  · cases h
theorem ok_mask_Moves (k : Nat) : SigOK env0 62 (sigOf globs [.v (.ints .i64 8), .v (.int .i64)] [.v (.int .i64)] (fun x => f_mask_Moves k x.1 x.2.1)) := by
  refine SigOK.env (E := env_mask_Moves k) (E' := env0) rfl rfl rfl (fun_ok (envOK _ k _) ?_ Tryd.func62 (fun (x : Acs.T [.v (.ints .i64 8), .v (.int .i64)]) => tie_mask_Moves k x.1 x.2.1))
  intro f g h
  replace h : sig_mask_Moves k f = some g := h
  unfold sig_mask_Moves at h
  split at h
  · cases h; exact SigOK.env (E := env0) (E' := env_mask_Moves k) rfl rfl rfl (ok_mask_may k)
  · cases h; exact SigOK.env (E := env0) (E' := env_mask_Moves k) rfl rfl rfl (ok_mask_Budget k)
  · cases h
theorem ok_mask_Far (k : Nat) : SigOK env0 70 (sigOf globs [.v (.ints .i64 4), .v (.ints .i64 4)] [.v (.int .i64)] (fun x => f_mask_Far k x.1 x.2.1)) := by
  refine SigOK.env (E := env_mask_Far k) (E' := env0) rfl rfl rfl (fun_ok (envOK _ k _) ?_ Tryd.func70 (fun (x : Acs.T [.v (.ints .i64 4), .v (.ints .i64 4)]) => tie_mask_Far k x.1 x.2.1))
  intro f g h
  replace h : sig_mask_Far k f = some g := h
  unfold sig_mask_Far at h
  cases h
theorem ok_mask_May (k : Nat) : SigOK env0 34 (sigOf globs [.v (.ints .i64 8), .v (.int .i64), .v (.ints .i64 4), .v (.ints .i64 4)] [.v (.bool)] (fun x => f_mask_May k x.1 x.2.1 x.2.2.1 x.2.2.2.1)) := by
  refine SigOK.env (E := env_mask_May k) (E' := env0) rfl rfl rfl (fun_ok (envOK _ k _) ?_ Tryd.func34 (fun (x : Acs.T [.v (.ints .i64 8), .v (.int .i64), .v (.ints .i64 4), .v (.ints .i64 4)]) => tie_mask_May k x.1 x.2.1 x.2.2.1 x.2.2.2.1))
  intro f g h
  replace h : sig_mask_May k f = some g := h
  unfold sig_mask_May at h
  split at h
  · cases h; exact SigOK.env (E := env0) (E' := env_mask_May k) rfl rfl rfl (ok_mask_Moves k)
  · cases h; exact SigOK.env (E := env0) (E' := env_mask_May k) rfl rfl rfl (ok_mask_Far k)
  · cases h; exact SigOK.env (E := env0) (E' := env_mask_May k) rfl rfl rfl (ok_mask_may k)
  · cases h
theorem ok_tag_right (k : Nat) : SigOK env0 48 (sigOf globs [.v (.ints .i64 40)] [.v (.bool)] (fun x => f_tag_right k x.1)) := by
  refine SigOK.env (E := env_tag_right k) (E' := env0) rfl rfl rfl (fun_ok (envOK _ k _) ?_ Tryd.func48 (fun (x : Acs.T [.v (.ints .i64 40)]) => tie_tag_right k x.1))
  intro f g h
  replace h : sig_tag_right k f = some g := h
  unfold sig_tag_right at h
  split at h
  · cases h; exact SigOK.env (E := env0) (E' := env_tag_right k) rfl rfl rfl (ok_band_Right k)
  · cases h; exact SigOK.env (E := env0) (E' := env_tag_right k) rfl rfl rfl (ok_tag_few k)
  · cases h
theorem ok_tag_gained (k : Nat) : SigOK env0 134 (sigOf globs [.v (.ints .i64 4), .v (.int .i64)] [.own (.rows .i64 4)] (fun x => f_tag_gained k x.1 x.2.1)) := by
  refine SigOK.env (E := env_tag_gained k) (E' := env0) rfl rfl rfl (fun_ok (envOK _ k _) ?_ Tryd.func134 (fun (x : Acs.T [.v (.ints .i64 4), .v (.int .i64)]) => tie_tag_gained k x.1 x.2.1))
  intro f g h
  replace h : sig_tag_gained k f = some g := h
  unfold sig_tag_gained at h
  cases h
theorem ok_tag_moved (k : Nat) : SigOK env0 96 (sigOf globs [.v (.ints .i64 4)] [.own (.rows .i64 4)] (fun x => f_tag_moved k x.1)) := by
  refine SigOK.env (E := env_tag_moved k) (E' := env0) rfl rfl rfl (fun_ok (envOK _ k _) ?_ Tryd.func96 (fun (x : Acs.T [.v (.ints .i64 4)]) => tie_tag_moved k x.1))
  intro f g h
  replace h : sig_tag_moved k f = some g := h
  unfold sig_tag_moved at h
  split at h
  · cases h; exact SigOK.env (E := env0) (E' := env_tag_moved k) rfl rfl rfl (ok_tag_gained k)
  · cases h
theorem ok_pvq_numbers (k : Nat) : SigOK env0 88 (sigOf globs [.v (.int .i64)] [.own (.row .i64)] (fun x => f_pvq_numbers k x.1)) := by
  refine SigOK.env (E := env_pvq_numbers k) (E' := env0) rfl rfl rfl (fun_ok (envOK _ k _) ?_ Tryd.func88 (fun (x : Acs.T [.v (.int .i64)]) => tie_pvq_numbers k x.1))
  intro f g h
  replace h : sig_pvq_numbers k f = some g := h
  unfold sig_pvq_numbers at h
  cases h
theorem ok_slices_Index_int_int (k : Nat) : SigOK env0 135 (sigOf globs [.sl (.row .i64), .v (.int .i64)] [.v (.int .i64)] (fun x => f_slices_Index_int_int k x.1 x.2.1)) := by
  refine SigOK.env (E := env_slices_Index_int_int k) (E' := env0) rfl rfl rfl (fun_ok (envOK _ k _) ?_ Tryd.func135 (fun (x : Acs.T [.sl (.row .i64), .v (.int .i64)]) => tie_slices_Index_int_int k x.1 x.2.1))
  intro f g h
  replace h : sig_slices_Index_int_int k f = some g := h
  unfold sig_slices_Index_int_int at h
  cases h
theorem ok_pvq_Index (k : Nat) : SigOK env0 97 (sigOf globs [.sl (.row .i64)] [.v (.int .i64), .v (.int .i64)] (fun x => f_pvq_Index k x.1)) := by
  refine SigOK.env (E := env_pvq_Index k) (E' := env0) rfl rfl rfl (fun_ok (envOK _ k _) ?_ Tryd.func97 (fun (x : Acs.T [.sl (.row .i64)]) => tie_pvq_Index k x.1))
  intro f g h
  replace h : sig_pvq_Index k f = some g := h
  unfold sig_pvq_Index at h
  split at h
  · cases h; exact SigOK.env (E := env0) (E' := env_pvq_Index k) rfl rfl rfl (ok_pvq_Pulses k)
  · cases h; exact SigOK.env (E := env0) (E' := env_pvq_Index k) rfl rfl rfl (ok_pvq_numbers k)
  · cases h; exact SigOK.env (E := env0) (E' := env_pvq_Index k) rfl rfl rfl (ok_pvq_size k)
  · cases h; exact SigOK.env (E := env0) (E' := env_pvq_Index k) rfl rfl rfl (ok_slices_Index_int_int k)
  · cases h
theorem ok_tag_Put (k : Nat) : SigOK env0 16 (sigOf globs [.v (.ints .u8 16), .v (.ints .i64 41), .v (.str)] [.v (.ints .i64 40)] (fun x => f_tag_Put k x.1 x.2.1 x.2.2.1)) := by
  refine SigOK.env (E := env_tag_Put k) (E' := env0) rfl rfl rfl (fun_ok (envOK _ k _) ?_ Tryd.func16 (fun (x : Acs.T [.v (.ints .u8 16), .v (.ints .i64 41), .v (.str)]) => tie_tag_Put k x.1 x.2.1 x.2.2.1))
  intro f g h
  replace h : sig_tag_Put k f = some g := h
  unfold sig_tag_Put at h
  split at h
  · cases h; exact SigOK.env (E := env0) (E' := env_tag_Put k) rfl rfl rfl (ok_mask_May k)
  · cases h; exact SigOK.env (E := env0) (E' := env_tag_Put k) rfl rfl rfl (ok_tag_wishes k)
  · cases h; exact SigOK.env (E := env0) (E' := env_tag_Put k) rfl rfl rfl (ok_tag_Parity k)
  · cases h; exact SigOK.env (E := env0) (E' := env_tag_Put k) rfl rfl rfl (ok_tag_right k)
  · cases h; exact SigOK.env (E := env0) (E' := env_tag_Put k) rfl rfl rfl (ok_tag_moved k)
  · cases h; exact SigOK.env (E := env0) (E' := env_tag_Put k) rfl rfl rfl (ok_pvq_Index k)
  · cases h
theorem ok_belfrylaw23_awake (k : Nat) : SigOK env0 13 (sigOf globs [] [.v (.bool)] (fun x => f_belfrylaw23_awake k)) := by
  refine SigOK.env (E := env_belfrylaw23_awake k) (E' := env0) rfl rfl rfl (fun_ok (envOK _ k _) ?_ Tryd.func13 (fun (x : Acs.T []) => tie_belfrylaw23_awake k))
  intro f g h
  replace h : sig_belfrylaw23_awake k f = some g := h
  unfold sig_belfrylaw23_awake at h
  split at h
  · cases h; exact SigOK.env (E := env0) (E' := env_belfrylaw23_awake k) rfl rfl rfl (ok_tag_Ask k)
  · cases h; exact SigOK.env (E := env0) (E' := env_belfrylaw23_awake k) rfl rfl rfl (ok_tag_Put k)
  · cases h; exact SigOK.env (E := env0) (E' := env_belfrylaw23_awake k) rfl rfl rfl (ok_tag_Bands k)
  · cases h
theorem ok_belfryref13_Count (k : Nat) : SigOK env0 133 (sigOf globs [.v (.int .i64), .v (.int .i64)] [.v (.int .i64)] (fun x => f_belfryref13_Count k x.1 x.2.1)) := by
  refine SigOK.env (E := env_belfryref13_Count k) (E' := env0) rfl rfl rfl (fun_ok (envOK _ k _) ?_ Tryd.func133 (fun (x : Acs.T [.v (.int .i64), .v (.int .i64)]) => tie_belfryref13_Count k x.1 x.2.1))
  intro f g h
  replace h : sig_belfryref13_Count k f = some g := h
  unfold sig_belfryref13_Count at h
  cases h
theorem ok_belfryref18_Bits (k : Nat) : SigOK env0 85 (sigOf globs [.v (.int .i64)] [.v (.int .i64)] (fun x => f_belfryref18_Bits k x.1)) := by
  refine SigOK.env (E := env_belfryref18_Bits k) (E' := env0) rfl rfl rfl (fun_ok (envOK _ k _) ?_ Tryd.func85 (fun (x : Acs.T [.v (.int .i64)]) => tie_belfryref18_Bits k x.1))
  intro f g h
  replace h : sig_belfryref18_Bits k f = some g := h
  unfold sig_belfryref18_Bits at h
  split at h
  · cases h; exact SigOK.env (E := env0) (E' := env_belfryref18_Bits k) rfl rfl rfl (ok_belfryref13_Count k)
  · cases h
theorem ok_belfryref18_Pulses (k : Nat) : SigOK env0 43 (sigOf globs [.v (.ints .i64 8), .v (.int .i64)] [.v (.ints .i64 8)] (fun x => f_belfryref18_Pulses k x.1 x.2.1)) := by
  refine SigOK.env (E := env_belfryref18_Pulses k) (E' := env0) rfl rfl rfl (fun_ok (envOK _ k _) ?_ Tryd.func43 (fun (x : Acs.T [.v (.ints .i64 8), .v (.int .i64)]) => tie_belfryref18_Pulses k x.1 x.2.1))
  intro f g h
  replace h : sig_belfryref18_Pulses k f = some g := h
  unfold sig_belfryref18_Pulses at h
  split at h
  · cases h; exact SigOK.env (E := env0) (E' := env_belfryref18_Pulses k) rfl rfl rfl (ok_belfryref18_Bits k)
  · cases h
theorem ok_pvq_may (k : Nat) : SigOK env0 86 (sigOf globs [.v (.int .i64), .v (.int .i64)] [.v (.bool)] (fun x => f_pvq_may k x.1 x.2.1)) := by
  refine SigOK.env (E := env_pvq_may k) (E' := env0) rfl rfl rfl (fun_ok (envOK _ k _) ?_ Tryd.func86 (fun (x : Acs.T [.v (.int .i64), .v (.int .i64)]) => tie_pvq_may k x.1 x.2.1))
  intro f g h
  replace h : sig_pvq_may k f = some g := h
  unfold sig_pvq_may at h
  cases h
theorem ok_pvq_Count (k : Nat) : SigOK env0 44 (sigOf globs [.v (.int .i64), .v (.int .i64)] [.v (.int .i64)] (fun x => f_pvq_Count k x.1 x.2.1)) := by
  refine SigOK.env (E := env_pvq_Count k) (E' := env0) rfl rfl rfl (fun_ok (envOK _ k _) ?_ Tryd.func44 (fun (x : Acs.T [.v (.int .i64), .v (.int .i64)]) => tie_pvq_Count k x.1 x.2.1))
  intro f g h
  replace h : sig_pvq_Count k f = some g := h
  unfold sig_pvq_Count at h
  split at h
  · cases h; exact SigOK.env (E := env0) (E' := env_pvq_Count k) rfl rfl rfl (ok_pvq_may k)
  · cases h
theorem ok_pvq_Vector (k : Nat) : SigOK env0 45 (sigOf globs [.v (.int .i64), .v (.int .i64), .v (.int .i64)] [.own (.row .i64), .v (.int .i64)] (fun x => f_pvq_Vector k x.1 x.2.1 x.2.2.1)) := by
  refine SigOK.env (E := env_pvq_Vector k) (E' := env0) rfl rfl rfl (fun_ok (envOK _ k _) ?_ Tryd.func45 (fun (x : Acs.T [.v (.int .i64), .v (.int .i64), .v (.int .i64)]) => tie_pvq_Vector k x.1 x.2.1 x.2.2.1))
  intro f g h
  replace h : sig_pvq_Vector k f = some g := h
  unfold sig_pvq_Vector at h
  split at h
  · cases h; exact SigOK.env (E := env0) (E' := env_pvq_Vector k) rfl rfl rfl (ok_pvq_Count k)
  · cases h; exact SigOK.env (E := env0) (E' := env_pvq_Vector k) rfl rfl rfl (ok_pvq_may k)
  · cases h; exact SigOK.env (E := env0) (E' := env_pvq_Vector k) rfl rfl rfl (ok_pvq_numbers k)
  · cases h; exact SigOK.env (E := env0) (E' := env_pvq_Vector k) rfl rfl rfl (ok_pvq_size k)
  · cases h
theorem ok_belfrylaw19_Shape (k : Nat) : SigOK env0 14 (sigOf globs [.v (.ints .i64 8), .v (.ints .u32 8), .v (.int .i64)] [.v (.ints .i64 40)] (fun x => f_belfrylaw19_Shape k x.1 x.2.1 x.2.2.1)) := by
  refine SigOK.env (E := env_belfrylaw19_Shape k) (E' := env0) rfl rfl rfl (fun_ok (envOK _ k _) ?_ Tryd.func14 (fun (x : Acs.T [.v (.ints .i64 8), .v (.ints .u32 8), .v (.int .i64)]) => tie_belfrylaw19_Shape k x.1 x.2.1 x.2.2.1))
  intro f g h
  replace h : sig_belfrylaw19_Shape k f = some g := h
  unfold sig_belfrylaw19_Shape at h
  split at h
  · cases h; exact SigOK.env (E := env0) (E' := env_belfrylaw19_Shape k) rfl rfl rfl (ok_belfryref18_Pulses k)
  · cases h; exact SigOK.env (E := env0) (E' := env_belfrylaw19_Shape k) rfl rfl rfl (ok_pvq_Count k)
  · cases h; exact SigOK.env (E := env0) (E' := env_belfrylaw19_Shape k) rfl rfl rfl (ok_pvq_Vector k)
  · cases h
theorem ok_belfrylaw23_TagTells (k : Nat) : SigOK env0 3 (sigOf globs [.v (.ints .u8 16), .v (.int .u16), .v (.ints .i64 8), .v (.ints .u32 8), .v (.int .u8), .v (.str)] [.v (.bool)] (fun x => f_belfrylaw23_TagTells k x.1 x.2.1 x.2.2.1 x.2.2.2.1 x.2.2.2.2.1 x.2.2.2.2.2.1)) := by
  refine SigOK.env (E := env_belfrylaw23_TagTells k) (E' := env0) rfl rfl rfl (fun_ok (envOK _ k _) ?_ Tryd.func3 (fun (x : Acs.T [.v (.ints .u8 16), .v (.int .u16), .v (.ints .i64 8), .v (.ints .u32 8), .v (.int .u8), .v (.str)]) => tie_belfrylaw23_TagTells k x.1 x.2.1 x.2.2.1 x.2.2.2.1 x.2.2.2.2.1 x.2.2.2.2.2.1))
  intro f g h
  replace h : sig_belfrylaw23_TagTells k f = some g := h
  unfold sig_belfrylaw23_TagTells at h
  split at h
  · cases h; exact SigOK.env (E := env0) (E' := env_belfrylaw23_TagTells k) rfl rfl rfl (ok_belfrylaw23_awake k)
  · cases h; exact SigOK.env (E := env0) (E' := env_belfrylaw23_TagTells k) rfl rfl rfl (ok_belfrylaw19_Shape k)
  · cases h; exact SigOK.env (E := env0) (E' := env_belfrylaw23_TagTells k) rfl rfl rfl (ok_tag_Ask k)
  · cases h; exact SigOK.env (E := env0) (E' := env_belfrylaw23_TagTells k) rfl rfl rfl (ok_tag_Put k)
  · cases h
theorem ok_belfrylaw23_TagFree (k : Nat) : SigOK env0 4 (sigOf globs [.v (.ints .u8 16), .v (.int .u16), .v (.ints .i64 8), .v (.ints .u32 8), .v (.ints .u32 8), .v (.int .u8)] [.v (.bool)] (fun x => f_belfrylaw23_TagFree k x.1 x.2.1 x.2.2.1 x.2.2.2.1 x.2.2.2.2.1 x.2.2.2.2.2.1)) := by
  refine SigOK.env (E := env_belfrylaw23_TagFree k) (E' := env0) rfl rfl rfl (fun_ok (envOK _ k _) ?_ Tryd.func4 (fun (x : Acs.T [.v (.ints .u8 16), .v (.int .u16), .v (.ints .i64 8), .v (.ints .u32 8), .v (.ints .u32 8), .v (.int .u8)]) => tie_belfrylaw23_TagFree k x.1 x.2.1 x.2.2.1 x.2.2.2.1 x.2.2.2.2.1 x.2.2.2.2.2.1))
  intro f g h
  replace h : sig_belfrylaw23_TagFree k f = some g := h
  unfold sig_belfrylaw23_TagFree at h
  split at h
  · cases h; exact SigOK.env (E := env0) (E' := env_belfrylaw23_TagFree k) rfl rfl rfl (ok_belfrylaw23_awake k)
  · cases h; exact SigOK.env (E := env0) (E' := env_belfrylaw23_TagFree k) rfl rfl rfl (ok_belfrylaw19_Shape k)
  · cases h; exact SigOK.env (E := env0) (E' := env_belfrylaw23_TagFree k) rfl rfl rfl (ok_tag_Bands k)
  · cases h; exact SigOK.env (E := env0) (E' := env_belfrylaw23_TagFree k) rfl rfl rfl (ok_tag_Own k)
  · cases h; exact SigOK.env (E := env0) (E' := env_belfrylaw23_TagFree k) rfl rfl rfl (ok_keyed_Band k)
  · cases h
end Go.Proofs.YthdojgehgcknmaaDoor
