/-
  belfry/belfrylaw23.TagFree: for every input it answers true; its arguments read afterwards as before. No condition but the given ones.
-/
import Derived.Test.YthdojgehgcknmaaDoorWay
import Derived.Test.YthdojgehgcknmaaDoorLTagFree
import Derived.Test.YthdojgehgcknmaaDoorCards
import Derived.Test.YthdojgehgcknmaaDoorTie
import Derived.SevenTiedAt
namespace Go.Proofs.YthdojgehgcknmaaDoor
open Go Go.Ev Go.ChangeShapes Go.WideShapes Go.ChangeAt Go.RowKit
open Go.ChangeMaps (open_string shut_string)
set_option maxRecDepth 100000
theorem walk_belfrylaw23_TagFree (W : World) (hL : laidMetH Tryd.prog laidList W) (a0 : List Int) (n0 : a0.length = 16) (w0 : ∀ a ∈ a0, InR .u8 a) (a1 : Int) (w1 : (Lit.int .u16 a1).wf = true) (a2 : List Int) (n2 : a2.length = 8) (w2 : ∀ a ∈ a2, InR .i64 a) (a3 : List Int) (n3 : a3.length = 8) (w3 : ∀ a ∈ a3, InR .u32 a) (a4 : List Int) (n4 : a4.length = 8) (w4 : ∀ a ∈ a4, InR .u32 a) (a5 : Int) (w5 : (Lit.int .u8 a5).wf = true) : Calls Tryd.prog 4 #[.agg (a0.map (Value.int .u8)).toArray, .int .u16 a1, .agg (a2.map (Value.int .i64)).toArray, .agg (a3.map (Value.int .u32)).toArray, .agg (a4.map (Value.int .u32)).toArray, .int .u8 a5] W fun e W' => e = .returned (.bool true) ∧ Below W.heap.size W W' := by
  have hv : VRL ρ0 [.ints .u8 16 a0, .int .u16 a1, .ints .i64 8 a2, .ints .u32 8 a3, .ints .u32 8 a4, .int .u8 a5] [.agg (a0.map (Value.int .u8)).toArray, .int .u16 a1, .agg (a2.map (Value.int .i64)).toArray, .agg (a3.map (Value.int .u32)).toArray, .agg (a4.map (Value.int .u32)).toArray, .int .u8 a5] := ⟨_, _, rfl, VR_leaf n0 w0, ⟨_, _, rfl, VR_int (wf_inR w1), ⟨_, _, rfl, VR_leaf n2 w2, ⟨_, _, rfl, VR_leaf n3 w3, ⟨_, _, rfl, VR_leaf n4 w4, ⟨_, _, rfl, VR_int (wf_inR w5), rfl⟩⟩⟩⟩⟩⟩
  have hF := true_belfrylaw23_TagFree a0 a1 a2 a3 a4 a5 n0 w0 (wf_inR w1) n2 w2 n3 w3 n4 w4 (wf_inR w5)
  have hsig : sigOf globs [.v (.ints .u8 16), .v (.int .u16), .v (.ints .i64 8), .v (.ints .u32 8), .v (.ints .u32 8), .v (.int .u8)] [.v (.bool)] (fun x => f_belfrylaw23_TagFree 1000000 x.1 x.2.1 x.2.2.1 x.2.2.2.1 x.2.2.2.2.1 x.2.2.2.2.2.1) (V × List V × List (Nat × V)) [.ints .u8 16 a0, .int .u16 a1, .ints .i64 8 a2, .ints .u32 8 a3, .ints .u32 8 a4, .int .u8 a5] m0 (fun v cs us => some (v, cs, us)) = some (.bool true, [], []) :=
    sig_true (l := [.v (.ints .u8 16), .v (.int .u16), .v (.ints .i64 8), .v (.ints .u32 8), .v (.ints .u32 8), .v (.int .u8)]) (r := [.v (.bool)]) (x := (a0, a1, a2, a3, a4, a5, ())) (y := ((true, ()), ())) (by kernel_rfl) (by kernel_rfl) (by kernel_rfl) (fun _ => by kernel_rfl) hF (by kernel_rfl)
  exact (ok_belfrylaw23_TagFree 1000000).calls m0_locked hv (rm0 hL) gok0 names0 hsig
theorem lifted_belfrylaw23_TagFree (os : Os) (started : os.Started) (H : Type) (enc : TypeId × Value → H) :
    ReturnsInHanded {} Tryd.checked os 4 .any (fun w args => (Rows.tagFreeSpec.pre enc Tryd.prog Tryd.f4 [] false w args ∧ laidMetH Tryd.prog laidList w) ∧ sizedMet enc Tryd.prog Tryd.f4 (OpenSpec.ofChange Rows.tagFreeSpec) false w args)
      (Rows.tagFreeSpec.post enc Tryd.prog Tryd.f4 false true false false) := by
  refine returnsInHanded_of_change_and (C := Tryd.checked) (X := fun w _ => laidMetH Tryd.prog laidList w) (fun _ _ _ hh h => h.of_heap hh) own started (by kernel_rfl) Tryd.func4
    (ChangeSpec.witness_shaped (enc := enc) (C := Tryd.checked) (os := os) (X := fun w _ => laidMetH Tryd.prog laidList w) false (World.doorLaid Tryd.prog 400 os) #[.agg (List.replicate 16 (Value.int .u8 0)).toArray, .int .u16 0, .agg (List.replicate 8 (Value.int .i64 0)).toArray, .agg (List.replicate 8 (Value.int .u32 0)).toArray, .agg (List.replicate 8 (Value.int .u32 0)).toArray, .int .u8 0] 8 rfl (World.shaped_of_RefB (by kernel_rfl) (by kernel_rfl)) (by kernel_rfl) (by kernel_rfl) (by kernel_rfl) (door_met os _)) ?_
  intro W base args ds gs before hval0 hW _ _ hL _
  have hval : ∀ (j : Nat) t v, Tryd.f4.params[j]? = some t → args[j]? = some v → Value.okWide Tryd.prog W .any base t v := hval0
  have hW' := hW
  obtain ⟨p, q, hA0, hV, rfl, hfz, hnd⟩ := hW
  have hA : DataW.TrodAll enc Tryd.prog W 0 (fun _ => true) true Tryd.f4.params.toList args.toList ds p := hA0
  rw [Tryd.params4] at hA hval
  obtain ⟨v0, vs0, d0, ds0, p0, q0, hargs, rfl, rfl, h0, r0⟩ := trodAll_cons hA
  obtain ⟨v1, vs1, d1, ds1, p1, q1, rfl, rfl, rfl, h1, r1⟩ := trodAll_cons r0
  obtain ⟨v2, vs2, d2, ds2, p2, q2, rfl, rfl, rfl, h2, r2⟩ := trodAll_cons r1
  obtain ⟨v3, vs3, d3, ds3, p3, q3, rfl, rfl, rfl, h3, r3⟩ := trodAll_cons r2
  obtain ⟨v4, vs4, d4, ds4, p4, q4, rfl, rfl, rfl, h4, r4⟩ := trodAll_cons r3
  obtain ⟨v5, vs5, d5, ds5, p5, q5, rfl, rfl, rfl, h5, r5⟩ := trodAll_cons r4
  obtain ⟨rfl, rfl, rfl⟩ := trodAll_nil r5
  obtain rfl : args = #[v0, v1, v2, v3, v4, v5] := by cases args; simp_all
  obtain ⟨rfl, rfl⟩ := trodVars_none hV
  have k0 := h0
  have lt0 : ∀ x ∈ p0, x.block < W.heap.size := by obtain ⟨m, hm⟩ := k0; exact DataW.trod_lt m _ _ _ hm
  have k1 := h1
  have lt1 : ∀ x ∈ p1, x.block < W.heap.size := by obtain ⟨m, hm⟩ := k1; exact DataW.trod_lt m _ _ _ hm
  have k2 := h2
  have lt2 : ∀ x ∈ p2, x.block < W.heap.size := by obtain ⟨m, hm⟩ := k2; exact DataW.trod_lt m _ _ _ hm
  have k3 := h3
  have lt3 : ∀ x ∈ p3, x.block < W.heap.size := by obtain ⟨m, hm⟩ := k3; exact DataW.trod_lt m _ _ _ hm
  have k4 := h4
  have lt4 : ∀ x ∈ p4, x.block < W.heap.size := by obtain ⟨m, hm⟩ := k4; exact DataW.trod_lt m _ _ _ hm
  have k5 := h5
  have lt5 : ∀ x ∈ p5, x.block < W.heap.size := by obtain ⟨m, hm⟩ := k5; exact DataW.trod_lt m _ _ _ hm
  obtain ⟨a0, rfl, n0, w0⟩ := open_leaf (k := .u8) (n := 16) (by kernel_rfl) (by kernel_rfl) (by kernel_rfl) (hval 0 23 v0 rfl rfl) h0
  obtain ⟨a1, rfl, e1, z1, w1⟩ := open_int Tryd.underlying24 (hval 1 24 v1 rfl rfl) h1
  obtain ⟨a2, rfl, n2, w2⟩ := open_leaf (k := .i64) (n := 8) (by kernel_rfl) (by kernel_rfl) (by kernel_rfl) (hval 2 25 v2 rfl rfl) h2
  obtain ⟨a3, rfl, n3, w3⟩ := open_leaf (k := .u32) (n := 8) (by kernel_rfl) (by kernel_rfl) (by kernel_rfl) (hval 3 27 v3 rfl rfl) h3
  obtain ⟨a4, rfl, n4, w4⟩ := open_leaf (k := .u32) (n := 8) (by kernel_rfl) (by kernel_rfl) (by kernel_rfl) (hval 4 27 v4 rfl rfl) h4
  obtain ⟨a5, rfl, e5, z5, w5⟩ := open_int Tryd.underlying5 (hval 5 5 v5 rfl rfl) h5
  clear hA0 hval0
  refine (walk_belfrylaw23_TagFree W hL a0 n0 w0 a1 w1 a2 n2 w2 a3 n3 w3 a4 n4 w4 a5 w5).mono fun e W' ⟨he, bel⟩ => ?_
  subst he
  exact ⟨_, rfl, _, _, _, [], _, [], hW', trodAll_mk1 (shut_bool Tryd.underlying4 _), (trodAll_cons_mk (Below.trod laidOut (by kernel_rfl) (of_decide_eq_true (by kernel_rfl)) k0 bel lt0) (trodAll_cons_mk (Below.trod laidOut (by kernel_rfl) (of_decide_eq_true (by kernel_rfl)) k1 bel lt1) (trodAll_cons_mk (Below.trod laidOut (by kernel_rfl) (of_decide_eq_true (by kernel_rfl)) k2 bel lt2) (trodAll_cons_mk (Below.trod laidOut (by kernel_rfl) (of_decide_eq_true (by kernel_rfl)) k3 bel lt3) (trodAll_cons_mk (Below.trod laidOut (by kernel_rfl) (of_decide_eq_true (by kernel_rfl)) k4 bel lt4) (trodAll_cons_mk (Below.trod laidOut (by kernel_rfl) (of_decide_eq_true (by kernel_rfl)) k5 bel lt5) trodAll_mk0)))))), rfl, bel.frame _, fun h => by cases h⟩
theorem tagFree_holds : Rows.TagFreeSaid :=
  OpenClaim.holds_of_wide 4 Tryd.f4 rfl rfl rfl rfl rfl rfl rfl ⟨rfl, rfl, rfl, rfl, rfl⟩ rfl rfl rfl rfl rfl (by kernel_rfl) Tryd.func4 (by kernel_rfl)
    (of_decide_eq_true (by kernel_rfl)) (by unfold Func.isWrapper; first | (rw [if_pos (by decide +kernel)]; kernel_rfl) | (rw [if_neg (by decide +kernel)]; exact ⟨rfl, rfl⟩))
    (fun os started H enc _ => lifted_belfrylaw23_TagFree os started H enc)
theorem tagFree_card : Rows.TagFreeCardSaid :=
  Claim7.holds_tied_plain_at .later [] [.data] true Rows.tagFreeCard.stood.harness true
    tagFree_holds (fun _ h => by cases h) (by kernel_rfl) (fun _ h => by cases h) tagFree_row_tie rfl ⟨rfl, rfl⟩ (by kernel_rfl) rfl
    (fun f fn hf hfn => by
      obtain rfl : f = 4 := Option.some.inj ((show Tryd.prog.funcNamed "belfry/belfrylaw23.TagFree" = some 4 by kernel_rfl).symm.trans hf) |>.symm
      obtain rfl : fn = Tryd.f4 := (Option.some.inj (Tryd.func4.symm.trans hfn)).symm
      exact ⟨by kernel_rfl, fun j t ht => by
        rw [Tryd.params4] at ht
        have hm : t ∈ [23, 24, 25, 27, 27, 5] := by simpa using Array.mem_of_getElem? ht
        have hall : ([23, 24, 25, 27, 27, 5].all fun u => !Tryd.prog.wantsStandIn u) = true := by kernel_rfl
        exact (show Tryd.prog.wantsStandIn t = false by simpa using List.all_eq_true.1 hall t hm)⟩)
    (by kernel_rfl)
#print axioms tagFree_card
end Go.Proofs.YthdojgehgcknmaaDoor
