/-
  Printed by a program of this session.
-/
import Derived.Test.YthdojgehgcknmaaDoorM10
import Derived.Test.YthdojgehgcknmaaDoorProg
import Derived.KernelRfl
namespace Go.Proofs.YthdojgehgcknmaaDoor
open Go Go.Ev
set_option maxRecDepth 100000
noncomputable def zeros : TypeId → Option V
  | 3 => some (.int .i64 0)
  | 4 => some (.bool false)
  | 5 => some (.int .u8 0)
  | 23 => some (.ints .u8 16 (List.replicate 16 0))
  | 24 => some (.int .u16 0)
  | 25 => some (.ints .i64 8 (List.replicate 8 0))
  | 30 => some (.ints .i64 4 (List.replicate 4 0))
  | 31 => some (.ints .i64 4 (List.replicate 4 0))
  | 34 => some (.ints .i64 40 (List.replicate 40 0))
  | 37 => some (.ints .i64 41 (List.replicate 41 0))
  | 39 => some (.ints .i64 4 (List.replicate 4 0))
  | 43 => some (.ints .i64 7 (List.replicate 7 0))
  | 49 => some (.bools 127 (List.replicate 127 false))
  | 52 => some (.ints .i64 127 (List.replicate 127 0))
  | 60 => some (.bools 127 (List.replicate 127 false))
  | 71 => some (.ints .i64 2 (List.replicate 2 0))
  | 82 => some (.ints .i64 32 (List.replicate 32 0))
  | 96 => some (.ints .i64 2 (List.replicate 2 0))
  | 97 => some (.ints .i64 4 (List.replicate 4 0))
  | 99 => some (.ints .i64 2 (List.replicate 2 0))
  | 100 => some (.ints .i64 12 (List.replicate 12 0))
  | 110 => some (.int .u64 0)
  | 119 => some (.ints .i64 14 (List.replicate 14 0))
  | 141 => some (.ints .i64 13 (List.replicate 13 0))
  | 143 => some (.nilptr)
  | 148 => some (.bools 4 (List.replicate 4 false))
  | 155 => some (.ints .u64 4 (List.replicate 4 0))
  | 156 => some (.ints .u64 4 (List.replicate 4 0))
  | 165 => some (.nilfn)
  | 171 => some (.agg [.nilsl, .nilfn])
  | 174 => some (.ints .i64 2 (List.replicate 2 0))
  | 182 => some (.ints .i64 32 (List.replicate 32 0))
  | 194 => some (.ints .i64 117 (List.replicate 117 0))
  | 199 => some (.bools 128 (List.replicate 128 false))
  | 217 => some (.agg [.nilptr, .nilsl, .nilsl, .nilsl, .int .i64 0, .int .i64 0, .int .i64 0])
  | 226 => some (.ints .i64 4 (List.replicate 4 0))
  | 229 => some (.ints .i64 255 (List.replicate 255 0))
  | 232 => some (.ints .i64 14 (List.replicate 14 0))
  | _ => none
noncomputable def eqInts : TypeId → Option (IntKind × Nat)
  | 29 => some (.i64, 8)
  | 31 => some (.i64, 4)
  | 34 => some (.i64, 40)
  | 37 => some (.i64, 41)
  | 52 => some (.i64, 127)
  | 99 => some (.i64, 2)
  | _ => none
noncomputable def eqBools : TypeId → Option Nat
  | 148 => some 4
  | _ => none
noncomputable def globs : List (Option V) := [some (.ints .u64 4 [8317987319222330741, 7237128888997146477, 7816392313619706465, 8387220255154660723])]
noncomputable def gsizes : Nat → Nat
  | 0 => 4
  | _ => 0
noncomputable def f_keyed_Frame (k : Nat) (a0 : Int) : Option ((Int × Unit) × Unit) :=
  lt (Int.tmod a0 1016) fun z =>
    lt (w64 (z + 1016)) fun z =>
      lt (Int.tmod z 1016) fun z => some ((z, ()), ())
noncomputable def f_sip_number (k : Nat) (a0 : List Int) : Option ((Int × Unit) × Unit) :=
  chk (decide (List.length a0 ≤ 4611686018427387904))
    (lt (↑(List.length a0) : Int) fun z =>
      obind
        (iter k
          (fun (x : Int × Int × Unit) =>
            br (decide (x.2.1 < z))
              (chk (decide (0 ≤ x.2.1))
                (chk (decide (x.2.1 < (↑(List.length a0) : Int)))
                  (lt (at0 a0 (Int.toNat (x.2.1))) fun z_1 =>
                    lt (wu64 z_1) fun z_2 =>
                      lt (w64 (8 * x.2.1)) fun z_3 =>
                        chk (decide (0 ≤ z_3))
                          (lt (ishl IntKind.u64 z_2 z_3) fun z_4 =>
                            lt (ibit BinOp.or IntKind.u64 (x.1) z_4) fun z_5 =>
                              lt (w64 (x.2.1 + 1)) fun z =>
                                some (Sum.inl (z_5, z, ()))))))
              (some (Sum.inr (x.1, ()))))
          (0, 0, ()))
        fun (y : Int × Unit) => some ((y.1, ()), ()))
noncomputable def f_sip_Turn (k : Nat) (a0 : Int) (a1 : Int) : Option ((Int × Unit) × Unit) :=
  lt (Int.tmod a1 64) fun z =>
    lt (w64 (z + 64)) fun z =>
      lt (Int.tmod z 64) fun z =>
        chk (decide (0 ≤ z))
          (lt (ishl IntKind.u64 a0 z) fun z_1 =>
            lt (w64 (64 - z)) fun z =>
              chk (decide (0 ≤ z))
                (lt (ishr IntKind.u64 a0 z) fun z =>
                  lt (ibit BinOp.or IntKind.u64 z_1 z) fun z => some ((z, ()), ())))
noncomputable def f_sip_state_mix (k : Nat) (a0 : List Int) (a1 : Int) (a2 : Int) (a3 : Int) : Option (Unit × (List Int × Unit)) :=
  chk (decide (0 ≤ a1))
    (chk (decide (a1 < 4))
      (lt (at0 a0 (Int.toNat a1)) fun x =>
        chk (decide (0 ≤ a2))
          (chk (decide (a2 < 4))
            (lt (at0 a0 (Int.toNat a2)) fun x_1 =>
              lt (wu64 (x + x_1)) fun z =>
                chk (decide (0 ≤ a1))
                  (chk (decide (a1 < 4))
                    (lt (List.set a0 (Int.toNat a1) z) fun l' =>
                      chk (decide (0 ≤ a2))
                        (chk (decide (a2 < 4))
                          (lt (at0 l' (Int.toNat a2)) fun x =>
                            obind (f_sip_Turn k x a3) fun (y : (Int × Unit) × Unit) =>
                              chk (decide (0 ≤ a1))
                                (chk (decide (a1 < 4))
                                  (lt (at0 l' (Int.toNat a1)) fun x =>
                                    lt (ibit BinOp.xor IntKind.u64 (y.1.1) x) fun z =>
                                      chk (decide (0 ≤ a2))
                                        (chk (decide (a2 < 4))
                                          (lt (List.set l' (Int.toNat a2) z) fun l' =>
                                            some ((), l', ())))))))))))))
noncomputable def f_sip_state_round (k : Nat) (a0 : List Int) : Option (Unit × (List Int × Unit)) :=
  obind (f_sip_state_mix k a0 0 1 13) fun (y : Unit × List Int × Unit) =>
    lt (at0 (y.2.1) 0) fun x =>
      obind (f_sip_Turn k x 32) fun (y_1 : (Int × Unit) × Unit) =>
        lt (List.set (y.2.1) 0 (y_1.1.1)) fun l' =>
          obind (f_sip_state_mix k l' 2 3 16) fun (y : Unit × List Int × Unit) =>
            obind (f_sip_state_mix k (y.2.1) 0 3 21)
              fun (y : Unit × List Int × Unit) =>
              obind (f_sip_state_mix k (y.2.1) 2 1 17)
                fun (y : Unit × List Int × Unit) =>
                lt (at0 (y.2.1) 2) fun x =>
                  obind (f_sip_Turn k x 32) fun (y_2 : (Int × Unit) × Unit) =>
                    lt (List.set (y.2.1) 2 (y_2.1.1)) fun l' =>
                      some ((), l', ())
noncomputable def f_sip_Words (k : Nat) (a0 : List Int) : Option ((List Int × Unit) × Unit) :=
  chk (decide (List.length a0 ≤ 4611686018427387904))
    (lt (↑(List.length a0) : Int) fun z =>
      lt (wu64 z) fun z_1 =>
        lt (ishl IntKind.u64 z_1 56) fun z_2 =>
          obind
            (iter k
              (fun (x : List Int × List Int × Unit) =>
                chk (decide (List.length (x.1) ≤ 4611686018427387904))
                  (lt (↑(List.length (x.1)) : Int) fun z_3 =>
                    br (decide (z_3 ≥ 8))
                      (chk (decide (8 ≤ (↑(List.length (x.1)) : Int)))
                        (lt (List.take 8 (x.1)) fun z_4 =>
                          obind (f_sip_number k z_4) fun (y : (Int × Unit) × Unit) =>
                            chk (decide (List.length (x.2.1) + List.length [y.1.1] ≤ 10000000000))
                              (lt (x.2.1 ++ [y.1.1]) fun z_5 =>
                                chk (decide (8 ≤ (↑(List.length (x.1)) : Int)))
                                  (chk
                                    (decide ((↑(List.length (x.1)) : Int) ≤ (↑(List.length (x.1)) : Int)))
                                    (lt (List.drop 8 (x.1)) fun z =>
                                      some (Sum.inl (z, z_5, ())))))))
                      (some (Sum.inr (x.1, x.2.1, ())))))
              (a0, [], ()))
            fun (y : List Int × List Int × Unit) =>
            obind (f_sip_number k (y.1)) fun (y_1 : (Int × Unit) × Unit) =>
              lt (ibit BinOp.or IntKind.u64 (y_1.1.1) z_2) fun z_3 =>
                chk (decide (List.length (y.2.1) + List.length [z_3] ≤ 10000000000))
                  (lt (y.2.1 ++ [z_3]) fun z => some ((z, ()), ())))
noncomputable def f_sip_Sum (k : Nat) (a0 : List Int) (a1 : List Int) : Option ((Int × Unit) × Unit) :=
  obind (f_sip_number k (List.take 8 a0)) fun (y : (Int × Unit) × Unit) =>
    lt (8 : Int) fun z =>
      obind (f_sip_number k (cut a0 8 (Int.toNat z))) fun (y_1 : (Int × Unit) × Unit) =>
        lt (8317987319222330741 : Int) fun x =>
          lt (ibit BinOp.xor IntKind.u64 (y.1.1) x) fun z_1 =>
            lt (7237128888997146477 : Int) fun x_1 =>
              lt (ibit BinOp.xor IntKind.u64 (y_1.1.1) x_1) fun z_2 =>
                lt (7816392313619706465 : Int) fun x_2 =>
                  lt (ibit BinOp.xor IntKind.u64 (y.1.1) x_2) fun z_3 =>
                    lt (8387220255154660723 : Int) fun x_3 =>
                      lt (ibit BinOp.xor IntKind.u64 (y_1.1.1) x_3) fun z_4 =>
                        lt (List.set (List.replicate 4 (0 : Int)) 0 z_1) fun l' =>
                          lt (List.set l' 1 z_2) fun l' =>
                            lt (List.set l' 2 z_3) fun l' =>
                              lt (List.set l' 3 z_4) fun l' =>
                                obind (f_sip_Words k a1) fun (y_2 : (List Int × Unit) × Unit) =>
                                  chk (decide ((↑(List.length (y_2.1.1)) : Int) ≤ 4611686018427387904))
                                    (lt (↑(List.length (y_2.1.1)) : Int) fun z_5 =>
                                      obind
                                        (iter k
                                          (fun (x_4 : Int × List Int × Unit) =>
                                            br (decide (x_4.1 < z_5))
                                              (chk (decide (0 ≤ x_4.1))
                                                (chk (decide (x_4.1 < (↑(List.length (y_2.1.1)) : Int)))
                                                  (lt (at0 (y_2.1.1) (Int.toNat (x_4.1)))
                                                    fun x_5 =>
                                                    lt (at0 (x_4.2.1) 3) fun x_6 =>
                                                      lt (ibit BinOp.xor IntKind.u64 x_6 x_5) fun z_6 =>
                                                        lt (List.set (x_4.2.1) 3 z_6)
                                                          fun l'_1 =>
                                                          obind
                                                            (iter k
                                                              (fun (x_7 : Int × List Int × Unit) =>
                                                                br (decide (x_7.1 < 2))
                                                                  (obind (f_sip_state_round k (x_7.2.1))
                                                                    fun (y_3 : Unit × List Int × Unit) =>
                                                                    lt
                                                                      (w64
                                                                        (x_7.1 + 1))
                                                                      fun z =>
                                                                      some (Sum.inl (z, y_3.2.1, ())))
                                                                  (some (Sum.inr (x_7.2.1, ()))))
                                                              (0, l'_1, ()))
                                                            fun (y_3 : List Int × Unit) =>
                                                            lt (at0 (y_3.1) 0) fun x_7 =>
                                                              lt (ibit BinOp.xor IntKind.u64 x_7 x_5) fun z_7 =>
                                                                lt (List.set (y_3.1) 0 z_7)
                                                                  fun l'_2 =>
                                                                  lt
                                                                    (w64
                                                                      (x_4.1 + 1))
                                                                    fun z =>
                                                                    some (Sum.inl (z, l'_2, ())))))
                                              (some (Sum.inr (x_4.2.1, ()))))
                                          (0, l', ()))
                                        fun (y_3 : List Int × Unit) =>
                                        lt (at0 (y_3.1) 2) fun x_4 =>
                                          lt (ibit BinOp.xor IntKind.u64 x_4 255) fun z_6 =>
                                            lt (List.set (y_3.1) 2 z_6) fun l'_1 =>
                                              obind
                                                (iter k
                                                  (fun (x_5 : Int × List Int × Unit) =>
                                                    br (decide (x_5.1 < 4))
                                                      (obind (f_sip_state_round k (x_5.2.1))
                                                        fun (y_4 : Unit × List Int × Unit) =>
                                                        lt (w64 (x_5.1 + 1))
                                                          fun z =>
                                                          some (Sum.inl (z, y_4.2.1, ())))
                                                      (some (Sum.inr (x_5.2.1, ()))))
                                                  (0, l'_1, ()))
                                                fun (y_4 : List Int × Unit) =>
                                                lt (at0 (y_4.1) 0) fun x_5 =>
                                                  lt (at0 (y_4.1) 1) fun x_6 =>
                                                    lt (ibit BinOp.xor IntKind.u64 x_5 x_6) fun z_7 =>
                                                      lt (at0 (y_4.1) 2) fun x_7 =>
                                                        lt (ibit BinOp.xor IntKind.u64 z_7 x_7) fun z_8 =>
                                                          lt (at0 (y_4.1) 3) fun x =>
                                                            lt (ibit BinOp.xor IntKind.u64 z_8 x) fun z =>
                                                              some ((z, ()), ()))
noncomputable def f_keyed_Num (k : Nat) (a0 : List Int) (a1 : Int) (a2 : Int) : Option ((Int × Unit) × Unit) :=
  obind
    (iter k
      (fun (x : List Int × Int × Unit) =>
        br (decide (x.2.1 < 8))
          (lt (wu64 a2) fun z =>
            lt (w64 (8 * x.2.1)) fun z_1 =>
              chk (decide (0 ≤ z_1))
                (lt (ishr IntKind.u64 z z_1) fun z =>
                  lt (IntKind.wrap IntKind.u8 z) fun z =>
                    chk (decide (List.length (x.1) + List.length [z] ≤ 10000000000))
                      (lt (x.1 ++ [z]) fun z =>
                        lt (w64 (x.2.1 + 1)) fun z_2 =>
                          some (Sum.inl (z, z_2, ())))))
          (some (Sum.inr (x.1, ()))))
      ([a1], 0, ()))
    fun (y : List Int × Unit) =>
    obind (f_sip_Sum k a0 (y.1)) fun (y : (Int × Unit) × Unit) => some ((y.1.1, ()), ())
noncomputable def f_keyed_Order (k : Nat) (a0 : List Int) (a1 : Int) (a2 : Int) : Option ((List Int × Unit) × Unit) :=
  obind (br (decide (a2 < 1)) (some (true, ())) (some (decide (a2 > 256), ())))
    fun (x : Bool × Unit) =>
    br (x.1) (some (([], ()), ()))
      (chk (decide (0 ≤ a2))
        (chk (decide (a2 ≤ 10000000000))
          (chk (decide ((↑(List.length (List.replicate (Int.toNat a2) (0 : Int))) : Int) ≤ 4611686018427387904))
            (lt (↑(List.length (List.replicate (Int.toNat a2) (0 : Int))) : Int) fun z =>
              obind
                (iter k
                  (fun (x_1 : Int × List Int × Unit) =>
                    br (decide (x_1.1 < z))
                      (chk (decide (0 ≤ x_1.1))
                        (chk (decide (x_1.1 < (↑(List.length (x_1.2.1)) : Int)))
                          (lt (List.set (x_1.2.1) (Int.toNat (x_1.1)) (x_1.1))
                            fun l' =>
                            lt (w64 (x_1.1 + 1)) fun z =>
                              some (Sum.inl (z, l', ())))))
                      (some (Sum.inr (x_1.2.1, ()))))
                  (0, List.replicate (Int.toNat a2) (0 : Int), ()))
                fun (y : List Int × Unit) =>
                lt (w64 (a2 - 1)) fun z_1 =>
                  obind
                    (iter k
                      (fun (x_1 : Int × List Int × Unit) =>
                        br (decide (x_1.1 > 0))
                          (obind (f_keyed_Num k a0 a1 (x_1.1)) fun (y_1 : (Int × Unit) × Unit) =>
                            lt (w64 (x_1.1 + 1)) fun z_2 =>
                              lt (wu64 z_2) fun z_3 =>
                                chk (decide (z_3 ≠ 0))
                                  (lt (Int.tmod (y_1.1.1) z_3) fun z_4 =>
                                    lt (w64 z_4) fun z_5 =>
                                      chk (decide (0 ≤ z_5))
                                        (chk (decide (z_5 < (↑(List.length (x_1.2.1)) : Int)))
                                          (lt (at0 (x_1.2.1) (Int.toNat z_5)) fun x_2 =>
                                            chk (decide (0 ≤ x_1.1))
                                              (chk (decide (x_1.1 < (↑(List.length (x_1.2.1)) : Int)))
                                                (lt (at0 (x_1.2.1) (Int.toNat (x_1.1))) fun x_3 =>
                                                  chk (decide (0 ≤ x_1.1))
                                                    (chk
                                                      (decide (x_1.1 < (↑(List.length (x_1.2.1)) : Int)))
                                                      (lt (List.set (x_1.2.1) (Int.toNat (x_1.1)) x_2)
                                                        fun l' =>
                                                        chk (decide (0 ≤ z_5))
                                                          (chk (decide (z_5 < (↑(List.length l') : Int)))
                                                            (lt (List.set l' (Int.toNat z_5) x_3) fun l' =>
                                                              lt (w64 (x_1.1 - 1))
                                                                fun z =>
                                                                some (Sum.inl (z, l', ()))))))))))))
                          (some (Sum.inr (x_1.2.1, ()))))
                      (z_1, y.1, ()))
                    fun (y_1 : List Int × Unit) => some ((y_1.1, ()), ())))))
noncomputable def f_keyed_Band (k : Nat) (a0 : List Int) (a1 : Int) : Option ((Int × Unit) × Unit) :=
  obind (f_keyed_Frame k a1) fun (y : (Int × Unit) × Unit) =>
    lt (w64 (Int.tdiv (y.1.1) 8)) fun z =>
      lt (w64 (128 + z)) fun z =>
        lt (IntKind.wrap IntKind.u8 z) fun z =>
          obind (f_keyed_Order k a0 z 8) fun (y_1 : (List Int × Unit) × Unit) =>
            lt (Int.tmod (y.1.1) 8) fun z =>
              chk (decide (0 ≤ z))
                (chk (decide (z < (↑(List.length (y_1.1.1)) : Int)))
                  (lt (at0 (y_1.1.1) (Int.toNat z)) fun x => some ((x, ()), ())))
noncomputable def f_tag_Bands (k : Nat) (a0 : List Int) (a1 : Int) : Option ((List Int × Unit) × Unit) :=
  obind (f_keyed_Band k a0 a1) fun (y : (Int × Unit) × Unit) =>
    obind
      (iter k
        (fun (x : Int × Int × List Int × Unit) =>
          br (decide (x.2.1 < 8))
            (obind
              (br (x.2.1 != y.1.1)
                (chk (decide (0 ≤ x.1))
                  (chk (decide (x.1 < 7))
                    (lt (List.set (x.2.2.1) (Int.toNat (x.1)) (x.2.1)) fun l' =>
                      lt (w64 (x.1 + 1)) fun z =>
                        some (z, l', ()))))
                (some (x.1, x.2.2.1, ())))
              fun (y_1 : Int × List Int × Unit) =>
              lt (w64 (x.2.1 + 1)) fun z =>
                some (Sum.inl (y_1.1, z, y_1.2.1, ())))
            (some (Sum.inr (x.2.2.1, ()))))
        (0, 0, List.replicate 7 (0 : Int), ()))
      fun (y_1 : List Int × Unit) => some ((y_1.1, ()), ())
noncomputable def f_tag_bytes (k : Nat) (a0 : List Int) : Option ((List Int × Unit) × Unit) :=
  obind
    (iter k
      (fun (x : List Int × Int × Unit) =>
        br (decide (x.2.1 < 4))
          (chk (decide (0 ≤ x.2.1))
            (chk (decide (x.2.1 < 4))
              (lt (at0 a0 (Int.toNat (x.2.1))) fun x_1 =>
                lt (w64 (x_1 + 128)) fun z =>
                  lt (IntKind.wrap IntKind.u8 z) fun z =>
                    chk (decide (List.length (x.1) + List.length [z] ≤ 10000000000))
                      (lt (x.1 ++ [z]) fun z =>
                        lt (w64 (x.2.1 + 1)) fun z_1 =>
                          some (Sum.inl (z, z_1, ()))))))
          (some (Sum.inr (x.1, ()))))
      ([], 0, ()))
    fun (y : List Int × Unit) => some ((y.1, ()), ())
noncomputable def f_tag_Own (k : Nat) (a0 : List Int) (a1 : List Int) : Option ((Int × Unit) × Unit) :=
  lt (at0 a1 0) fun x =>
    lt (ishr IntKind.i64 x 8) fun z =>
      lt (IntKind.wrap IntKind.u8 z) fun z_1 =>
        lt (at0 a1 0) fun x_1 =>
          lt (IntKind.wrap IntKind.u8 x_1) fun z_2 =>
            lt ([111] ++ [z_1, z_2]) fun z_3 =>
              lt (cut a1 1 8) fun x_2 =>
                obind
                  (iter k
                    (fun (x_3 : List Int × Int × Unit) =>
                      br (decide (x_3.2.1 < 8))
                        (chk (decide (0 ≤ x_3.2.1))
                          (chk (decide (x_3.2.1 < 8))
                            (lt (at0 x_2 (Int.toNat (x_3.2.1))) fun x_4 =>
                              lt (IntKind.wrap IntKind.u8 x_4) fun z_4 =>
                                chk (decide (List.length (x_3.1) + List.length [z_4] ≤ 10000000000))
                                  (lt (x_3.1 ++ [z_4]) fun z_5 =>
                                    lt (w64 (x_3.2.1 + 1)) fun z =>
                                      some (Sum.inl (z_5, z, ()))))))
                        (some (Sum.inr (x_3.1, ()))))
                    (z_3, 0, ()))
                  fun (y : List Int × Unit) =>
                  lt (at0 a1 0) fun x_3 =>
                    obind (f_tag_Bands k a0 x_3) fun (y_1 : (List Int × Unit) × Unit) =>
                      lt (at0 (y_1.1.1) 6) fun x_4 =>
                        lt (at0 a1 0) fun x_5 =>
                          obind (f_keyed_Band k a0 x_5) fun (y_2 : (Int × Unit) × Unit) =>
                            chk (decide (0 ≤ y_2.1.1))
                              (chk (decide (y_2.1.1 < 8))
                                (lt (cut a1 (Int.toNat (9 + y_2.1.1 * 4)) 4)
                                  fun x_6 =>
                                  obind (f_tag_bytes k x_6) fun (y_3 : (List Int × Unit) × Unit) =>
                                    chk (decide (0 ≤ x_4))
                                      (chk (decide (x_4 < 8))
                                        (lt (cut a1 (Int.toNat (9 + x_4 * 4)) 4)
                                          fun x_7 =>
                                          obind (f_tag_bytes k x_7) fun (y_4 : (List Int × Unit) × Unit) =>
                                            chk
                                              (decide
                                                (List.length (y_3.1.1) + List.length (y_4.1.1) ≤
                                                  10000000000))
                                              (lt (y_3.1.1 ++ y_4.1.1) fun z_4 =>
                                                chk
                                                  (decide
                                                    (List.length (y.1) + List.length z_4 ≤ 10000000000))
                                                  (lt (y.1 ++ z_4) fun z =>
                                                    obind (f_sip_Sum k a0 z) fun (y : (Int × Unit) × Unit) =>
                                                      lt (ibit BinOp.and IntKind.u64 (y.1.1) 7)
                                                        fun z =>
                                                        lt (w64 z) fun z =>
                                                          some ((z, ()), ())))))))
noncomputable def f_tag_Ahead (k : Nat) (a0 : List Int) (a1 : List Int) : Option ((Int × Unit) × Unit) :=
  chk (decide (1 + List.length a1 ≤ 10000000000))
    (lt ([97] ++ a1) fun z =>
      obind (f_sip_Sum k a0 z) fun (y : (Int × Unit) × Unit) =>
        lt (ibit BinOp.and IntKind.u64 (y.1.1) 7) fun z =>
          lt (w64 z) fun z => some ((z, ()), ()))
noncomputable def f_tag_wishes (k : Nat) (a0 : List Int) (a1 : List Int) (a2 : List Int) : Option ((List Int × Unit) × Unit) :=
  obind (f_tag_Own k a0 a1) fun (y : (Int × Unit) × Unit) =>
    obind (f_tag_Ahead k a0 a2) fun (y_1 : (Int × Unit) × Unit) =>
      lt (at0 a1 0) fun x =>
        obind (f_tag_Bands k a0 x) fun (y_2 : (List Int × Unit) × Unit) =>
          obind
            (iter k
              (fun (x_1 : Int × List Int × Unit) =>
                br (decide (x_1.1 < 3))
                  (chk (decide (0 ≤ x_1.1))
                    (chk (decide (x_1.1 < 7))
                      (lt (at0 (y_2.1.1) (Int.toNat (x_1.1))) fun x_2 =>
                        chk (decide (0 ≤ x_1.1))
                          (lt (ishr IntKind.i64 (y.1.1) (x_1.1)) fun z =>
                            lt (ibit BinOp.and IntKind.i64 z 1) fun z =>
                              lt (List.set (List.replicate 2 (0 : Int)) 0 x_2) fun l' =>
                                lt (List.set l' 1 z) fun l' =>
                                  chk (decide (0 ≤ x_1.1))
                                    (chk (decide (x_1.1 < 6))
                                      (lt (paste (x_1.2.1) (Int.toNat (x_1.1 * 2)) l')
                                        fun l'' =>
                                        lt (w64 (3 + x_1.1)) fun z =>
                                          lt (w64 (3 + x_1.1)) fun z_1 =>
                                            chk (decide (0 ≤ z_1))
                                              (chk (decide (z_1 < 7))
                                                (lt (at0 (y_2.1.1) (Int.toNat z_1)) fun x_3 =>
                                                  chk (decide (0 ≤ x_1.1))
                                                    (lt (ishr IntKind.i64 (y_1.1.1) (x_1.1))
                                                      fun z_2 =>
                                                      lt (ibit BinOp.and IntKind.i64 z_2 1) fun z_3 =>
                                                        lt (List.set (List.replicate 2 (0 : Int)) 0 x_3)
                                                          fun l' =>
                                                          lt (List.set l' 1 z_3) fun l' =>
                                                            chk (decide (0 ≤ z))
                                                              (chk (decide (z < 6))
                                                                (lt (paste l'' (Int.toNat (z * 2)) l')
                                                                  fun l'' =>
                                                                  lt
                                                                    (w64
                                                                      (x_1.1 + 1))
                                                                    fun z =>
                                                                    some (Sum.inl (z, l'', ())))))))))))))
                  (some (Sum.inr (x_1.2.1, ()))))
              (0, List.replicate 12 (0 : Int), ()))
            fun (y_3 : List Int × Unit) => some ((y_3.1, ()), ())
noncomputable def f_pvq_size (k : Nat) (a0 : Int) : Option ((Int × Unit) × Unit) :=
  obind (br (decide (a0 < (-12))) (some (true, ())) (some (decide (a0 > 12), ())))
    fun (x : Bool × Unit) =>
    br (x.1) (some ((13, ()), ()))
      (lt (w64 (0 - a0)) fun z =>
        lt (if z > a0 then z else a0) fun z => some ((z, ()), ()))
noncomputable def f_pvq_Pulses (k : Nat) (a0 : List Int) : Option ((Int × Unit) × Unit) :=
  chk (decide ((↑(List.length a0) : Int) ≤ 4611686018427387904))
    (lt (↑(List.length a0) : Int) fun z =>
      br (decide (z > 8)) (some ((13, ()), ()))
        (chk (decide ((↑(List.length a0) : Int) ≤ 4611686018427387904))
          (lt (↑(List.length a0) : Int) fun z_1 =>
            obind
              (iter k
                (fun (x : Int × Int × Unit) =>
                  br (decide (x.2.1 < z_1))
                    (chk (decide (0 ≤ x.2.1))
                      (chk (decide (x.2.1 < (↑(List.length a0) : Int)))
                        (lt (at0 a0 (Int.toNat (x.2.1))) fun x_1 =>
                          obind (f_pvq_size k x_1) fun (y : (Int × Unit) × Unit) =>
                            lt (w64 (x.1 + y.1.1)) fun z_2 =>
                              lt (w64 (x.2.1 + 1)) fun z =>
                                some (Sum.inl (z_2, z, ())))))
                    (some (Sum.inr (x.1, ()))))
                (0, 0, ()))
              fun (y : Int × Unit) =>
              lt (if 13 < y.1 then 13 else y.1) fun z =>
                some ((z, ()), ()))))
noncomputable def f_tag_few (k : Nat) (a0 : List Int) : Option ((Bool × Unit) × Unit) :=
  obind (f_pvq_Pulses k (List.take 4 a0)) fun (y : (Int × Unit) × Unit) =>
    some ((decide (y.1.1 ≤ 12), ()), ())
noncomputable def f_keyed_Subset (k : Nat) (a0 : List Int) (a1 : Int) (a2 : Int) (a3 : Int) : Option ((List Bool × Unit) × Unit) :=
  obind
    (br (decide (a2 < 0)) (some (true, ()))
      (br (decide (a2 ≥ 8)) (some (true, ()))
        (br (decide (a3 < 0)) (some (true, ())) (some (decide (a3 > 7), ())))))
    fun (x : Bool × Unit) =>
    br (x.1) (some ((List.replicate 4 false, ()), ()))
      (obind (f_keyed_Frame k a1) fun (y : (Int × Unit) × Unit) =>
        lt (w64 (y.1.1 * 8)) fun z =>
          lt (w64 (z + a2)) fun z_1 =>
            obind (f_keyed_Num k a0 115 z_1) fun (y_1 : (Int × Unit) × Unit) =>
              obind
                (iter k
                  (fun (x_1 : Bool × Int × List Bool × Unit) =>
                    br (decide (x_1.2.1 < 4))
                      (lt (w64 (4 * a3)) fun z_2 =>
                        lt (w64 (z_2 + x_1.2.1)) fun z_3 =>
                          chk (decide (0 ≤ z_3))
                            (lt (ishr IntKind.u64 (y_1.1.1) z_3) fun z_4 =>
                              lt (ibit BinOp.and IntKind.u64 z_4 1) fun z_5 =>
                                chk (decide (0 ≤ x_1.2.1))
                                  (chk (decide (x_1.2.1 < 4))
                                    (lt (List.set (x_1.2.2.1) (Int.toNat (x_1.2.1)) (z_5 == 1))
                                      fun l' =>
                                      obind
                                        (br (x_1.1) (some (true, ()))
                                          (chk (decide (0 ≤ x_1.2.1))
                                            (chk (decide (x_1.2.1 < 4))
                                              (lt (atb l' (Int.toNat (x_1.2.1))) fun x =>
                                                some (x, ())))))
                                        fun (x_2 : Bool × Unit) =>
                                        lt (w64 (x_1.2.1 + 1)) fun z_6 =>
                                          some (Sum.inl (x_2.1, z_6, l', ()))))))
                      (some (Sum.inr (x_1.1, x_1.2.2.1, ()))))
                  (false, 0, List.replicate 4 false, ()))
                fun (y_2 : Bool × List Bool × Unit) =>
                lt (atb (y_2.2.1) 0) fun x_1 =>
                  br x_1
                    (lt (List.set (y_2.2.1) 0 true) fun l' =>
                      some ((l', ()), ()))
                    (lt (List.set (y_2.2.1) 0 !y_2.1) fun l' =>
                      some ((l', ()), ())))
noncomputable def f_tag_odd (k : Nat) (a0 : List Int) (a1 : List Bool) : Option ((Int × Unit) × Unit) :=
  obind
    (iter k
      (fun (x : Int × Int × Unit) =>
        br (decide (x.2.1 < 4))
          (chk (decide (0 ≤ x.2.1))
            (chk (decide (x.2.1 < 4))
              (lt (atb a1 (Int.toNat (x.2.1))) fun x_1 =>
                obind
                  (br x_1
                    (chk (decide (0 ≤ x.2.1))
                      (chk (decide (x.2.1 < 4))
                        (lt (at0 a0 (Int.toNat (x.2.1))) fun x_2 =>
                          chk (decide (0 ≤ x.2.1))
                            (chk (decide (x.2.1 < 4))
                              (lt (at0 a0 (Int.toNat (x.2.1))) fun x_3 =>
                                lt (w64 (0 - x_3)) fun z =>
                                  lt (if z > x_2 then z else x_2) fun z =>
                                    lt (w64 (x.1 + z)) fun z =>
                                      some (z, ()))))))
                    (some (x.1, ())))
                  fun (y : Int × Unit) =>
                  lt (w64 (x.2.1 + 1)) fun z =>
                    some (Sum.inl (y.1, z, ())))))
          (some (Sum.inr (x.1, ()))))
      (0, 0, ()))
    fun (y : Int × Unit) => lt (Int.tmod (y.1) 2) fun z => some ((z, ()), ())
noncomputable def f_tag_Parity (k : Nat) (a0 : List Int) (a1 : Int) (a2 : Int) (a3 : List Int) : Option ((Int × Bool × Unit) × Unit) :=
  obind
    (br (decide (a2 < 0)) (some (true, ()))
      (br (decide (a2 ≥ 8)) (some (true, ()))
        (obind (f_tag_few k a3) fun (y : (Bool × Unit) × Unit) => some (!y.1.1, ()))))
    fun (x : Bool × Unit) =>
    br (x.1) (some ((0, false, ()), ()))
      (obind (f_keyed_Subset k a0 a1 a2 0) fun (y : (List Bool × Unit) × Unit) =>
        obind
          (obind (f_tag_odd k a3 (y.1.1)) fun (y_1 : (Int × Unit) × Unit) =>
            obind (f_pvq_Pulses k (List.take 4 a3)) fun (y_2 : (Int × Unit) × Unit) =>
              br (decide (y_2.1.1 > 0))
                (lt (List.set (List.replicate 4 false) 0 true) fun l' =>
                  lt (List.set l' 1 true) fun l' =>
                    lt (List.set l' 2 true) fun l' =>
                      lt (List.set l' 3 true) fun l' =>
                        some (y_1.1.1, !y.1.1 == l', ()))
                (some (y_1.1.1, false, ())))
          fun (x_1 : Int × Bool × Unit) => some ((x_1.1, x_1.2.1, ()), ()))
noncomputable def f_tag_Ask (k : Nat) (a0 : List Int) (a1 : List Int) (a2 : List Int) : Option ((List Int × Unit) × Unit) :=
  obind (f_tag_wishes k a0 a1 a2) fun (y : (List Int × Unit) × Unit) =>
    obind
      (iter k
        (fun (x : Int × List Int × Unit) =>
          br (decide (x.1 < 6))
            (chk (decide (0 ≤ x.1))
              (chk (decide (x.1 < 6))
                (lt (cut (y.1.1) (Int.toNat (x.1 * 2)) 2) fun x_1 =>
                  lt (at0 a1 0) fun x_2 =>
                    lt (at0 x_1 0) fun x_3 =>
                      lt (at0 x_1 0) fun x_4 =>
                        chk (decide (0 ≤ x_4))
                          (chk (decide (x_4 < 8))
                            (lt (cut a1 (Int.toNat (9 + x_4 * 4)) 4) fun x_5 =>
                              obind (f_tag_Parity k a0 x_2 x_3 x_5) fun (y_1 : (Int × Bool × Unit) × Unit) =>
                                obind
                                  (br (y_1.1.2.1)
                                    (lt (w64 (Int.tdiv (x.1) 3)) fun z =>
                                      chk (decide (0 ≤ z))
                                        (chk (decide (z < 2))
                                          (lt (at0 (x.2.1) (Int.toNat (addz (z * 2) 0)))
                                            fun x_6 =>
                                            lt (w64 (x_6 + 1)) fun z_1 =>
                                              chk (decide (0 ≤ z))
                                                (chk (decide (z < 2))
                                                  (lt
                                                    (List.set (x.2.1)
                                                      (Int.toNat (addz (z * 2) 0)) z_1)
                                                    fun l' => some (l', ()))))))
                                    (some (x.2.1, ())))
                                  fun (y_2 : List Int × Unit) =>
                                  obind
                                    (br (y_1.1.2.1)
                                      (lt (at0 x_1 1) fun x => some (y_1.1.1 != x, ()))
                                      (some (false, ())))
                                    fun (x_6 : Bool × Unit) =>
                                    obind
                                      (br (x_6.1)
                                        (lt (w64 (Int.tdiv (x.1) 3))
                                          fun z =>
                                          chk (decide (0 ≤ z))
                                            (chk (decide (z < 2))
                                              (lt (at0 (y_2.1) (Int.toNat (addz (z * 2) 1)))
                                                fun x_7 =>
                                                lt (w64 (x_7 + 1)) fun z_1 =>
                                                  chk (decide (0 ≤ z))
                                                    (chk (decide (z < 2))
                                                      (lt
                                                        (List.set (y_2.1)
                                                          (Int.toNat (addz (z * 2) 1)) z_1)
                                                        fun l' => some (l', ()))))))
                                        (some (y_2.1, ())))
                                      fun (y_3 : List Int × Unit) =>
                                      lt (w64 (x.1 + 1)) fun z =>
                                        some (Sum.inl (z, y_3.1, ())))))))
            (some (Sum.inr (x.2.1, ()))))
        (0, List.replicate 4 (0 : Int), ()))
      fun (y_1 : List Int × Unit) =>
      lt (at0 (y_1.1) 0) fun x =>
        lt (at0 (y_1.1) 2) fun x_1 =>
          lt (at0 (y_1.1) 1) fun x_2 =>
            lt (at0 (y_1.1) 3) fun x_3 =>
              lt (List.set (List.replicate 4 (0 : Int)) 0 x) fun l' =>
                lt (List.set l' 1 x_1) fun l' =>
                  lt (List.set l' 2 x_2) fun l' =>
                    lt (List.set l' 3 x_3) fun l' => some ((l', ()), ())
noncomputable def f_band_Right_1 (k : Nat) (a0 : Int) : Option ((Bool × Unit) × Unit) :=
  obind (br (decide (a0 < 0)) (some (true, ())) (some (decide (a0 > 15), ())))
    fun (x : Bool × Unit) => some ((x.1, ()), ())
noncomputable def f_band_Right (k : Nat) (a0 : List Int) : Option ((Bool × Unit) × Unit) :=
  obind
    (obind
      (iter k
        (fun (x : Int × Unit) =>
          br (decide (x.1 < 8))
            (chk (decide (0 ≤ x.1))
              (chk (decide (x.1 < 8))
                (lt (at0 a0 (Int.toNat (x.1))) fun x_1 =>
                  obind (f_band_Right_1 k x_1) fun (y : (Bool × Unit) × Unit) =>
                    br (y.1.1) (some (Sum.inr (Sum.inl (x.1, ()))))
                      (lt (w64 (x.1 + 1)) fun z =>
                        some (Sum.inl (z, ()))))))
            (some (Sum.inr (Sum.inr ()))))
        (0, ()))
      fun (y : Int × Unit ⊕ Unit) =>
      sel y (fun (y : Int × Unit) => some (decide (y.1 ≥ 0), ())) fun y =>
        some (decide ((-1) ≥ 0), ()))
    fun (x : Bool × Unit) => some ((!x.1, ()), ())
noncomputable def f_mask_may (k : Nat) (a0 : List Int) (a1 : Int) : Option ((Bool × Unit) × Unit) :=
  obind
    (obind (f_band_Right k a0) fun (y : (Bool × Unit) × Unit) =>
      br (y.1.1)
        (br (decide (a1 ≥ 0)) (some (decide (a1 < 8), ())) (some (false, ())))
        (some (false, ())))
    fun (x : Bool × Unit) => some ((x.1, ()), ())
noncomputable def f_mask_Budget (k : Nat) (a0 : List Int) (a1 : Int) : Option ((Int × Unit) × Unit) :=
  obind (f_mask_may k a0 a1) fun (y : (Bool × Unit) × Unit) =>
    br (!y.1.1) (some ((0, ()), ()))
      (obind
        (iter k
          (fun (x : Int × Int × Unit) =>
            br (decide (x.2.1 < 8))
              (chk (decide (0 ≤ x.2.1))
                (chk (decide (x.2.1 < 8))
                  (lt (at0 a0 (Int.toNat (x.2.1))) fun x_1 =>
                    chk (decide (0 ≤ x_1))
                      (lt (ishl IntKind.i64 4 x_1) fun z =>
                        obind
                          (br (decide (x.2.1 ≤ a1))
                            (lt (w64 (a1 - x.2.1)) fun z_1 =>
                              lt (w64 (1 * z_1)) fun z_2 =>
                                chk (decide (0 ≤ z_2))
                                  (lt (ishr IntKind.i64 z z_2) fun z => some (z, ())))
                            (lt (w64 (x.2.1 - a1)) fun z_1 =>
                              lt (w64 (2 * z_1)) fun z_2 =>
                                chk (decide (0 ≤ z_2))
                                  (lt (ishr IntKind.i64 z z_2) fun z => some (z, ()))))
                          fun (y_1 : Int × Unit) =>
                          lt (if y_1.1 > x.1 then y_1.1 else x.1) fun z =>
                            lt (w64 (x.2.1 + 1)) fun z_1 =>
                              some (Sum.inl (z, z_1, ()))))))
              (some (Sum.inr (x.1, ()))))
          (0, 0, ()))
        fun (y_1 : Int × Unit) => some ((y_1.1, ()), ()))
noncomputable def f_mask_Moves (k : Nat) (a0 : List Int) (a1 : Int) : Option ((Int × Unit) × Unit) :=
  obind (f_mask_may k a0 a1) fun (y : (Bool × Unit) × Unit) =>
    br (!y.1.1) (some ((0, ()), ()))
      (obind (f_mask_Budget k a0 a1) fun (y : (Int × Unit) × Unit) =>
        chk (decide (0 ≤ a1))
          (chk (decide (a1 < 8))
            (lt (at0 a0 (Int.toNat a1)) fun x =>
              chk (decide (0 ≤ x))
                (lt (ishr IntKind.i64 (y.1.1) x) fun z => some ((z, ()), ())))))
noncomputable def f_mask_Far (k : Nat) (a0 : List Int) (a1 : List Int) : Option ((Int × Unit) × Unit) :=
  obind
    (iter k
      (fun (x : Int × Int × Unit) =>
        br (decide (x.2.1 < 4))
          (obind
            (chk (decide (0 ≤ x.2.1))
              (chk (decide (x.2.1 < 4))
                (lt (at0 a0 (Int.toNat (x.2.1))) fun x_1 =>
                  chk (decide (0 ≤ x.2.1))
                    (chk (decide (x.2.1 < 4))
                      (lt (at0 a0 (Int.toNat (x.2.1))) fun x_2 =>
                        lt (w64 (0 - x_2)) fun z =>
                          chk (decide (0 ≤ x.2.1))
                            (chk (decide (x.2.1 < 4))
                              (lt (at0 a1 (Int.toNat (x.2.1))) fun x_3 =>
                                chk (decide (0 ≤ x.2.1))
                                  (chk (decide (x.2.1 < 4))
                                    (lt (at0 a1 (Int.toNat (x.2.1))) fun x_4 =>
                                      lt (w64 (0 - x_4)) fun z_1 =>
                                        lt
                                          (if
                                              z_1 >
                                                if x_3 > if z > x_1 then z else x_1 then x_3
                                                else if z > x_1 then z else x_1 then
                                            z_1
                                          else
                                            if x_3 > if z > x_1 then z else x_1 then x_3
                                            else if z > x_1 then z else x_1)
                                          fun z =>
                                          br (decide (z > 1048576)) (some (true, ()))
                                            (chk (decide (0 ≤ x.2.1))
                                              (chk (decide (x.2.1 < 4))
                                                (lt (at0 a0 (Int.toNat (x.2.1))) fun x_5 =>
                                                  chk (decide (0 ≤ x.2.1))
                                                    (chk (decide (x.2.1 < 4))
                                                      (lt (at0 a1 (Int.toNat (x.2.1))) fun x =>
                                                        lt (if x < x_5 then x else x_5) fun z =>
                                                          some (decide (z < (-1048576)), ())))))))))))))))
            fun (x_1 : Bool × Unit) =>
            br (x_1.1) (some (Sum.inr (Sum.inl ((-1), ()))))
              (chk (decide (0 ≤ x.2.1))
                (chk (decide (x.2.1 < 4))
                  (lt (at0 a0 (Int.toNat (x.2.1))) fun x_2 =>
                    chk (decide (0 ≤ x.2.1))
                      (chk (decide (x.2.1 < 4))
                        (lt (at0 a1 (Int.toNat (x.2.1))) fun x_3 =>
                          lt (w64 (x_2 - x_3)) fun z =>
                            chk (decide (0 ≤ x.2.1))
                              (chk (decide (x.2.1 < 4))
                                (lt (at0 a1 (Int.toNat (x.2.1))) fun x_4 =>
                                  chk (decide (0 ≤ x.2.1))
                                    (chk (decide (x.2.1 < 4))
                                      (lt (at0 a0 (Int.toNat (x.2.1))) fun x_5 =>
                                        lt (w64 (x_4 - x_5)) fun z_1 =>
                                          lt (if z_1 > z then z_1 else z) fun z =>
                                            lt (w64 (x.1 + z)) fun z =>
                                              lt (w64 (x.2.1 + 1))
                                                fun z_2 => some (Sum.inl (z, z_2, ()))))))))))))
          (some (Sum.inr (Sum.inr (x.1, ())))))
      (0, 0, ()))
    fun (y : Int × Unit ⊕ Int × Unit) =>
    sel y (fun (y : Int × Unit) => some ((y.1, ()), ())) fun (y : Int × Unit) =>
      some ((y.1, ()), ())
noncomputable def f_mask_May (k : Nat) (a0 : List Int) (a1 : Int) (a2 : List Int) (a3 : List Int) : Option ((Bool × Unit) × Unit) :=
  obind (f_mask_Far k a2 a3) fun (y : (Int × Unit) × Unit) =>
    obind
      (obind (f_mask_may k a0 a1) fun (y_1 : (Bool × Unit) × Unit) =>
        br (y_1.1.1)
          (br (decide (y.1.1 ≥ 0))
            (obind (f_mask_Moves k a0 a1) fun (y_2 : (Int × Unit) × Unit) =>
              some (decide (y.1.1 ≤ y_2.1.1), ()))
            (some (false, ())))
          (some (false, ())))
      fun (x : Bool × Unit) => some ((x.1, ()), ())
noncomputable def f_tag_right (k : Nat) (a0 : List Int) : Option ((Bool × Unit) × Unit) :=
  lt (cut a0 8 32) fun x =>
    obind
      (iter k
        (fun (x_1 : Int × Unit) =>
          br (decide (x_1.1 < 8))
            (chk (decide (0 ≤ x_1.1))
              (chk (decide (x_1.1 < 8))
                (lt (cut x (Int.toNat (x_1.1 * 4)) 4) fun x_2 =>
                  obind (f_tag_few k x_2) fun (y : (Bool × Unit) × Unit) =>
                    br (!y.1.1) (some (Sum.inr (Sum.inl (false, ()))))
                      (lt (w64 (x_1.1 + 1)) fun z =>
                        some (Sum.inl (z, ()))))))
            (some (Sum.inr (Sum.inr ()))))
        (0, ()))
      fun (y : Bool × Unit ⊕ Unit) =>
      sel y (fun (y : Bool × Unit) => some ((y.1, ()), ())) fun y =>
        lt (cut a0 0 8) fun x =>
          obind (f_band_Right k x) fun (y : (Bool × Unit) × Unit) => some ((y.1.1, ()), ())
noncomputable def f_tag_gained (k : Nat) (a0 : List Int) (a1 : Int) : Option ((List (List Int) × Unit) × Unit) :=
  chk (decide (0 ≤ a1))
    (chk (decide (a1 < 4))
      (lt (at0 a0 (Int.toNat a1)) fun x =>
        lt (w64 (x + 1)) fun z =>
          chk (decide (0 ≤ a1))
            (chk (decide (a1 < 4))
              (lt (List.set a0 (Int.toNat a1) z) fun l' =>
                chk (decide (0 ≤ a1))
                  (chk (decide (a1 < 4))
                    (lt (at0 a0 (Int.toNat a1)) fun x =>
                      lt (w64 (x - 1)) fun z =>
                        chk (decide (0 ≤ a1))
                          (chk (decide (a1 < 4))
                            (lt (List.set a0 (Int.toNat a1) z) fun l'_1 =>
                              chk (decide (0 ≤ a1))
                                (chk (decide (a1 < 4))
                                  (lt (at0 a0 (Int.toNat a1)) fun x =>
                                    br (decide (x > 0)) (some (([l'], ()), ()))
                                      (chk (decide (0 ≤ a1))
                                        (chk (decide (a1 < 4))
                                          (lt (at0 a0 (Int.toNat a1)) fun x =>
                                            br (decide (x < 0)) (some (([l'_1], ()), ()))
                                              (some (([l', l'_1], ()), ())))))))))))))))
noncomputable def f_tag_moved (k : Nat) (a0 : List Int) : Option ((List (List Int) × Unit) × Unit) :=
  obind
    (iter k
      (fun (x : List (List Int) × Int × Unit) =>
        br (decide (x.2.1 < 4))
          (chk (decide (0 ≤ x.2.1))
            (chk (decide (x.2.1 < 4))
              (lt (at0 a0 (Int.toNat (x.2.1))) fun x_1 =>
                br (x_1 == 0)
                  (lt (w64 (x.2.1 + 1)) fun z =>
                    some (Sum.inl (x.1, z, ())))
                  (chk (decide (0 ≤ x.2.1))
                    (chk (decide (x.2.1 < 4))
                      (lt (at0 a0 (Int.toNat (x.2.1))) fun x_2 =>
                        lt (if 1 < x_1 then 1 else x_1) fun z =>
                          lt (if (-1) > z then (-1) else z) fun z_1 =>
                            lt (w64 (x_2 - z_1)) fun z_2 =>
                              chk (decide (0 ≤ x.2.1))
                                (chk (decide (x.2.1 < 4))
                                  (lt (List.set a0 (Int.toNat (x.2.1)) z_2) fun l' =>
                                    obind
                                      (iter k
                                        (fun (x_3 : List (List Int) × Int × Unit) =>
                                          br (decide (x_3.2.1 < 4))
                                            (obind
                                              (br (x_3.2.1 != x.2.1)
                                                (obind (f_tag_gained k l' (x_3.2.1))
                                                  fun (y : (List (List Int) × Unit) × Unit) =>
                                                  chk
                                                    (decide
                                                      (List.length (x_3.1) + List.length (y.1.1) ≤
                                                        10000000000))
                                                    (lt (x_3.1 ++ y.1.1) fun z =>
                                                      some (z, ())))
                                                (some (x_3.1, ())))
                                              fun (y : List (List Int) × Unit) =>
                                              lt (w64 (x_3.2.1 + 1))
                                                fun z_3 => some (Sum.inl (y.1, z_3, ())))
                                            (some (Sum.inr (x_3.1, ()))))
                                        (x.1, 0, ()))
                                      fun (y : List (List Int) × Unit) =>
                                      lt (w64 (x.2.1 + 1)) fun z_3 =>
                                        some (Sum.inl (y.1, z_3, ()))))))))))
          (some (Sum.inr (x.1, ()))))
      ([], 0, ()))
    fun (y : List (List Int) × Unit) => some ((y.1, ()), ())
noncomputable def f_pvq_numbers (k : Nat) (a0 : Int) : Option ((List Int × Unit) × Unit) :=
  obind
    (iter k
      (fun (x : List Int × Int × Unit) =>
        br (decide (x.2.1 ≤ a0))
          (lt (w64 (0 - x.2.1)) fun z =>
            chk (decide (List.length (x.1) + List.length [x.2.1, z] ≤ 10000000000))
              (lt (x.1 ++ [x.2.1, z]) fun z =>
                lt (w64 (x.2.1 + 1)) fun z_1 =>
                  some (Sum.inl (z, z_1, ()))))
          (some (Sum.inr (x.1, ()))))
      ([0], 1, ()))
    fun (y : List Int × Unit) => some ((y.1, ()), ())
noncomputable def f_slices_Index_int_int (k : Nat) (a0 : List Int) (a1 : Int) : Option ((Int × Unit) × Unit) :=
  chk (decide ((↑(List.length a0) : Int) ≤ 4611686018427387904))
    (lt (↑(List.length a0) : Int) fun z =>
      obind
        (iter k
          (fun (x : Int × Unit) =>
            br (decide (x.1 < z))
              (chk (decide (0 ≤ x.1))
                (chk (decide (x.1 < (↑(List.length a0) : Int)))
                  (lt (at0 a0 (Int.toNat (x.1))) fun x_1 =>
                    br (a1 == x_1) (some (Sum.inr (Sum.inl (x.1, ()))))
                      (lt (w64 (x.1 + 1)) fun z =>
                        some (Sum.inl (z, ()))))))
              (some (Sum.inr (Sum.inr ()))))
          (0, ()))
        fun (y : Int × Unit ⊕ Unit) =>
        sel y (fun (y : Int × Unit) => some ((y.1, ()), ())) fun y =>
          some (((-1), ()), ()))
noncomputable def f_pvq_Index (k : Nat) (a0 : List Int) : Option ((Int × Int × Unit) × Unit) :=
  obind (f_pvq_Pulses k a0) fun (y : (Int × Unit) × Unit) =>
    br (decide (y.1.1 > 12)) (some ((0, 7, ()), ()))
      (lt (List.set (List.replicate 117 (0 : Int)) 0 1) fun l' =>
        obind
          (iter k
            (fun (x : Int × List Int × Unit) =>
              br (decide (x.1 ≤ 8))
                (obind
                  (iter k
                    (fun (x_1 : Int × List Int × Unit) =>
                      br (decide (x_1.1 < 13))
                        (lt (w64 (x.1 - 1)) fun z =>
                          chk (decide (0 ≤ z))
                            (chk (decide (z < 9))
                              (chk (decide (0 ≤ x_1.1))
                                (chk (decide (x_1.1 < 13))
                                  (lt (at0 (x_1.2.1) (Int.toNat (addz (z * 13) (x_1.1))))
                                    fun x_2 =>
                                    chk (decide (0 ≤ x.1))
                                      (chk (decide (x.1 < 9))
                                        (chk (decide (0 ≤ x_1.1))
                                          (chk (decide (x_1.1 < 13))
                                            (lt
                                              (List.set (x_1.2.1)
                                                (Int.toNat (addz (x.1 * 13) (x_1.1))) x_2)
                                              fun l'_1 =>
                                              obind
                                                (iter k
                                                  (fun (x_3 : Int × List Int × Unit) =>
                                                    br (decide (x_3.1 < x_1.1))
                                                      (chk (decide (0 ≤ x.1))
                                                        (chk (decide (x.1 < 9))
                                                          (chk (decide (0 ≤ x_1.1))
                                                            (chk (decide (x_1.1 < 13))
                                                              (lt
                                                                (at0 (x_3.2.1)
                                                                  (Int.toNat
                                                                    (addz (x.1 * 13) (x_1.1))))
                                                                fun x_4 =>
                                                                lt (w64 (x.1 - 1))
                                                                  fun z_1 =>
                                                                  chk (decide (0 ≤ z_1))
                                                                    (chk (decide (z_1 < 9))
                                                                      (chk (decide (0 ≤ x_3.1))
                                                                        (chk (decide (x_3.1 < 13))
                                                                          (lt
                                                                            (at0 (x_3.2.1)
                                                                              (Int.toNat
                                                                                (addz (z_1 * 13)
                                                                                  (x_3.1))))
                                                                            fun x_5 =>
                                                                            lt
                                                                              (w64
                                                                                (2 * x_5))
                                                                              fun z_2 =>
                                                                              lt (w64 (x_4 + z_2))
                                                                                fun z_3 =>
                                                                                chk (decide (0 ≤ x.1))
                                                                                  (chk (decide (x.1 < 9))
                                                                                    (chk
                                                                                      (decide
                                                                                        (0 ≤ x_1.1))
                                                                                      (chk
                                                                                        (decide
                                                                                          (x_1.1 < 13))
                                                                                        (lt
                                                                                          (List.set (x_3.2.1)
                                                                                            (Int.toNat
                                                                                              (addz
                                                                                                (x.1 *
                                                                                                  13)
                                                                                                (x_1.1)))
                                                                                            z_3)
                                                                                          fun l'_2 =>
                                                                                          lt
                                                                                            (w64
                                                                                              (x_3.1 +
                                                                                                1))
                                                                                            fun z =>
                                                                                            some
                                                                                              (Sum.inl
                                                                                                (z, l'_2,
                                                                                                  ())))))))))))))))
                                                      (some (Sum.inr (x_3.2.1, ()))))
                                                  (0, l'_1, ()))
                                                fun (y : List Int × Unit) =>
                                                lt (w64 (x_1.1 + 1))
                                                  fun z_1 =>
                                                  some (Sum.inl (z_1, y.1, ())))))))))))
                        (some (Sum.inr (x_1.2.1, ()))))
                    (0, x.2.1, ()))
                  fun (y : List Int × Unit) =>
                  lt (w64 (x.1 + 1)) fun z =>
                    some (Sum.inl (z, y.1, ())))
                (some (Sum.inr (x.2.1, ()))))
            (1, l', ()))
          fun (y_1 : List Int × Unit) =>
          chk (decide ((↑(List.length a0) : Int) ≤ 4611686018427387904))
            (lt (↑(List.length a0) : Int) fun z =>
              obind
                (iter k
                  (fun (x : Int × Int × Int × Unit) =>
                    br (decide (x.2.2.1 < z))
                      (chk (decide (0 ≤ x.2.2.1))
                        (chk (decide (x.2.2.1 < (↑(List.length a0) : Int)))
                          (lt (at0 a0 (Int.toNat (x.2.2.1))) fun x_1 =>
                            obind (f_pvq_numbers k (x.1)) fun (y_2 : (List Int × Unit) × Unit) =>
                              obind (f_slices_Index_int_int k (y_2.1.1) x_1) fun (y_3 : (Int × Unit) × Unit) =>
                                chk (decide (0 ≤ y_3.1.1))
                                  (chk (decide (y_3.1.1 ≤ (↑(List.length (y_2.1.1)) : Int)))
                                    (chk (decide (y_3.1.1 ≤ 4611686018427387904))
                                      (obind
                                        (iter k
                                          (fun (x_2 : Int × Int × Unit) =>
                                            br (decide (x_2.2.1 < y_3.1.1))
                                              (chk (decide (0 ≤ x_2.2.1))
                                                (chk (decide (x_2.2.1 < y_3.1.1))
                                                  (lt (at0 (y_2.1.1) (Int.toNat (x_2.2.1)))
                                                    fun x_3 =>
                                                    chk
                                                      (decide ((↑(List.length a0) : Int) ≤ 4611686018427387904))
                                                      (lt (↑(List.length a0) : Int) fun z_1 =>
                                                        lt (w64 (z_1 - x.2.2.1))
                                                          fun z_2 =>
                                                          lt (w64 (z_2 - 1))
                                                            fun z_3 =>
                                                            obind (f_pvq_size k x_3)
                                                              fun (y_4 : (Int × Unit) × Unit) =>
                                                              lt
                                                                (w64 (x.1 - y_4.1.1))
                                                                fun z_4 =>
                                                                chk (decide (0 ≤ z_3))
                                                                  (chk (decide (z_3 < 9))
                                                                    (chk (decide (0 ≤ z_4))
                                                                      (chk (decide (z_4 < 13))
                                                                        (lt
                                                                          (at0 (y_1.1)
                                                                            (Int.toNat (addz (z_3 * 13) z_4)))
                                                                          fun x_4 =>
                                                                          lt
                                                                            (w64
                                                                              (x_2.1 + x_4))
                                                                            fun z_5 =>
                                                                            lt
                                                                              (w64
                                                                                (x_2.2.1 + 1))
                                                                              fun z =>
                                                                              some
                                                                                (Sum.inl (z_5, z, ()))))))))))
                                              (some (Sum.inr (x_2.1, ()))))
                                          (x.2.1, 0, ()))
                                        fun (y_4 : Int × Unit) =>
                                        obind (f_pvq_size k x_1) fun (y_5 : (Int × Unit) × Unit) =>
                                          lt (w64 (x.1 - y_5.1.1)) fun z_1 =>
                                            lt (w64 (x.2.2.1 + 1))
                                              fun z_2 =>
                                              some (Sum.inl (z_1, y_4.1, z_2, ()))))))))
                      (some (Sum.inr (x.2.1, ()))))
                  (y.1.1, 0, 0, ()))
                fun (y_2 : Int × Unit) => some ((y_2.1, 0, ()), ())))
noncomputable def f_tag_Put (k : Nat) (a0 : List Int) (a1 : List Int) (a2 : List Int) : Option ((List Int × Unit) × Unit) :=
  lt (cut a1 1 40) fun x =>
    obind (f_tag_right k x) fun (y : (Bool × Unit) × Unit) =>
      br (!y.1.1) (some ((x, ()), ()))
        (obind (f_tag_wishes k a0 a1 a2) fun (y_1 : (List Int × Unit) × Unit) =>
          obind
            (iter k
              (fun (x_1 : Int × List Int × Unit) =>
                br (decide (x_1.1 < 6))
                  (chk (decide (0 ≤ x_1.1))
                    (chk (decide (x_1.1 < 6))
                      (lt (cut (y_1.1.1) (Int.toNat (x_1.1 * 2)) 2)
                        fun x_2 =>
                        lt (at0 a1 0) fun x_3 =>
                          lt (at0 x_2 0) fun x_4 =>
                            lt (at0 x_2 0) fun x_5 =>
                              chk (decide (0 ≤ x_5))
                                (chk (decide (x_5 < 8))
                                  (lt (cut (x_1.2.1) (Int.toNat (8 + x_5 * 4)) 4)
                                    fun x_6 =>
                                    obind (f_tag_Parity k a0 x_3 x_4 x_6) fun (y_2 : (Int × Bool × Unit) × Unit) =>
                                      obind
                                        (br (!y_2.1.2.1) (some (true, ()))
                                          (lt (at0 x_2 0) fun x =>
                                            lt (List.set (List.replicate 2 (0 : Int)) 0 x)
                                              fun l' =>
                                              lt (List.set l' 1 (y_2.1.1)) fun l' =>
                                                some (x_2 == l', ())))
                                        fun (x_7 : Bool × Unit) =>
                                        br (x_7.1)
                                          (lt (w64 (x_1.1 + 1)) fun z =>
                                            some (Sum.inl (z, x_1.2.1, ())))
                                          (lt (at0 x_2 0) fun x_8 =>
                                            chk (decide (0 ≤ x_8))
                                              (chk (decide (x_8 < 8))
                                                (lt
                                                  (cut (x_1.2.1) (Int.toNat (8 + x_8 * 4))
                                                    4)
                                                  fun x_9 =>
                                                  lt (at0 x_2 0) fun x_10 =>
                                                    obind (f_tag_moved k x_9)
                                                      fun (y_3 : (List (List Int) × Unit) × Unit) =>
                                                      chk
                                                        (decide
                                                          ((↑(List.length (y_3.1.1)) : Int) ≤
                                                            4611686018427387904))
                                                        (lt (↑(List.length (y_3.1.1)) : Int) fun z =>
                                                          obind
                                                            (iter k
                                                              (fun (x_11 : Int × Int × List Int × Unit) =>
                                                                br (decide (x_11.2.1 < z))
                                                                  (chk (decide (0 ≤ x_11.2.1))
                                                                    (chk
                                                                      (decide
                                                                        (x_11.2.1 <
                                                                          (↑(List.length (y_3.1.1)) : Int)))
                                                                      (lt
                                                                        (atl (y_3.1.1)
                                                                          (Int.toNat (x_11.2.1)))
                                                                        fun x_12 =>
                                                                        obind (f_pvq_Index k (List.take 4 x_12))
                                                                          fun (y_4 : (Int × Int × Unit) × Unit) =>
                                                                          obind
                                                                            (br (y_4.1.2.1 == 0)
                                                                              (lt (at0 a1 0) fun x_13 =>
                                                                                lt (at0 x_2 0)
                                                                                  fun x_14 =>
                                                                                  obind
                                                                                    (f_tag_Parity k a0 x_13 x_14 x_12)
                                                                                    fun
                                                                                      (y_5 : (Int × Bool × Unit) × Unit) =>
                                                                                    obind
                                                                                      (lt (at0 x_2 1)
                                                                                        fun x_15 =>
                                                                                        br (y_5.1.1 == x_15)
                                                                                          (lt
                                                                                            (cut (x_1.2.1)
                                                                                              0 8)
                                                                                            fun x =>
                                                                                            lt (at0 x_2 0)
                                                                                              fun x_16 =>
                                                                                              obind
                                                                                                (f_mask_May k x x_16 x_9
                                                                                                  x_12)
                                                                                                fun
                                                                                                  (y : (Bool × Unit) × Unit) =>
                                                                                                some
                                                                                                  (y.1.1,
                                                                                                    ()))
                                                                                          (some (false, ())))
                                                                                      fun (x_15 : Bool × Unit) =>
                                                                                      br (x_15.1)
                                                                                        (br
                                                                                          (decide
                                                                                            (x_11.1 < 0))
                                                                                          (some (true, ()))
                                                                                          (some
                                                                                            (decide
                                                                                                (y_4.1.1 <
                                                                                                  x_11.1),
                                                                                              ())))
                                                                                        (some (false, ())))
                                                                              (some (false, ())))
                                                                            fun (x_13 : Bool × Unit) =>
                                                                            obind
                                                                              (br (x_13.1)
                                                                                (some
                                                                                  (y_4.1.1, x_12, ()))
                                                                                (some
                                                                                  (x_11.1, x_11.2.2.1,
                                                                                    ())))
                                                                              fun (y_5 : Int × List Int × Unit) =>
                                                                              lt
                                                                                (w64
                                                                                  (x_11.2.1 + 1))
                                                                                fun z_1 =>
                                                                                some
                                                                                  (Sum.inl
                                                                                    (y_5.1, z_1, y_5.2.1,
                                                                                      ())))))
                                                                  (some (Sum.inr (x_11.2.2.1, ()))))
                                                              ((-1), 0, x_9, ()))
                                                            fun (y_4 : List Int × Unit) =>
                                                            chk (decide (0 ≤ x_10))
                                                              (chk (decide (x_10 < 8))
                                                                (lt
                                                                  (paste (x_1.2.1)
                                                                    (Int.toNat (8 + x_10 * 4))
                                                                    (y_4.1))
                                                                  fun l'' =>
                                                                  lt
                                                                    (w64
                                                                      (x_1.1 + 1))
                                                                    fun z =>
                                                                    some (Sum.inl (z, l'', ())))))))))))))
                  (some (Sum.inr (x_1.2.1, ()))))
              (0, x, ()))
            fun (y_2 : List Int × Unit) => some ((y_2.1, ()), ()))
noncomputable def f_belfrylaw23_awake (k : Nat)  : Option ((Bool × Unit) × Unit) :=
  obind
    (iter k
      (fun (x : Int × List Int × Unit) =>
        br (decide (x.1 < 8))
          (lt (List.set (List.replicate 4 (0 : Int)) 0 1) fun l' =>
            lt (List.set l' 1 0) fun l' =>
              lt (List.set l' 2 1) fun l' =>
                lt (List.set l' 3 0) fun l' =>
                  chk (decide (0 ≤ x.1))
                    (chk (decide (x.1 < 8))
                      (lt (paste (x.2.1) (Int.toNat (9 + x.1 * 4)) l')
                        fun l'' =>
                        lt (w64 (x.1 + 1)) fun z =>
                          some (Sum.inl (z, l'', ())))))
          (some (Sum.inr (x.2.1, ()))))
      (0, List.replicate 41 (0 : Int), ()))
    fun (y : List Int × Unit) =>
    obind (f_tag_Put k (List.replicate 16 (0 : Int)) (y.1) [120])
      fun (y_1 : (List Int × Unit) × Unit) =>
      lt (paste (y.1) 1 (y_1.1.1)) fun l'' =>
        obind (f_tag_Ask k (List.replicate 16 (0 : Int)) l'' [120])
          fun (y_2 : (List Int × Unit) × Unit) =>
          obind (f_tag_Bands k (List.replicate 16 (0 : Int)) 0)
            fun (y_3 : (List Int × Unit) × Unit) =>
            obind
              (lt (at0 (y_2.1.1) 2) fun x =>
                br (x == 0)
                  (lt (at0 (y_2.1.1) 3) fun x =>
                    br (x == 0)
                      (lt (at0 (y_3.1.1) 0) fun x =>
                        lt (at0 (y_3.1.1) 1) fun x_1 =>
                          br (x != x_1)
                            (lt (at0 (y_3.1.1) 6) fun x =>
                              lt (at0 (y_3.1.1) 5) fun x_2 =>
                                some (decide (x > x_2), ()))
                            (some (false, ())))
                      (some (false, ())))
                  (some (false, ())))
              fun (x : Bool × Unit) => some ((x.1, ()), ())
noncomputable def f_belfryref13_Count (k : Nat) (a0 : Int) (a1 : Int) : Option ((Int × Unit) × Unit) :=
  lt (w64 (a1 + 1)) fun z =>
    chk (decide (0 ≤ z))
      (chk (decide (z ≤ 10000000000))
        (chk (decide (0 < (↑(List.length (List.replicate (Int.toNat z) (0 : Int))) : Int)))
          (lt (List.set (List.replicate (Int.toNat z) (0 : Int)) 0 1) fun l' =>
            obind
              (iter k
                (fun (x : List Int × Int × Unit) =>
                  br (decide (x.2.1 < a0))
                    (lt (w64 (a1 + 1)) fun z_1 =>
                      chk (decide (0 ≤ z_1))
                        (chk (decide (z_1 ≤ 10000000000))
                          (obind
                            (iter k
                              (fun (x_1 : Int × List Int × Unit) =>
                                br (decide (x_1.1 ≤ a1))
                                  (obind
                                    (iter k
                                      (fun (x_2 : Int × List Int × Unit) =>
                                        br (decide (x_2.1 ≤ x_1.1))
                                          (chk (decide (0 ≤ x_1.1))
                                            (chk (decide (x_1.1 < (↑(List.length (x_2.2.1)) : Int)))
                                              (lt (at0 (x_2.2.1) (Int.toNat (x_1.1))) fun x_3 =>
                                                lt (w64 (x_1.1 - x_2.1))
                                                  fun z_2 =>
                                                  chk (decide (0 ≤ z_2))
                                                    (chk (decide (z_2 < (↑(List.length (x.1)) : Int)))
                                                      (lt (at0 (x.1) (Int.toNat z_2)) fun x_4 =>
                                                        lt (w64 (x_3 + x_4)) fun z_3 =>
                                                          chk (decide (0 ≤ x_1.1))
                                                            (chk
                                                              (decide
                                                                (x_1.1 <
                                                                  (↑(List.length (x_2.2.1)) : Int)))
                                                              (lt
                                                                (List.set (x_2.2.1) (Int.toNat (x_1.1))
                                                                  z_3)
                                                                fun l'_1 =>
                                                                obind
                                                                  (br (decide (x_2.1 > 0))
                                                                    (chk (decide (0 ≤ x_1.1))
                                                                      (chk
                                                                        (decide
                                                                          (x_1.1 < (↑(List.length l'_1) : Int)))
                                                                        (lt (at0 l'_1 (Int.toNat (x_1.1)))
                                                                          fun x_5 =>
                                                                          lt
                                                                            (w64
                                                                              (x_1.1 - x_2.1))
                                                                            fun z_4 =>
                                                                            chk (decide (0 ≤ z_4))
                                                                              (chk
                                                                                (decide
                                                                                  (z_4 <
                                                                                    (↑(List.length (x.1)) :
                                                                                      Int)))
                                                                                (lt (at0 (x.1) (Int.toNat z_4))
                                                                                  fun x_6 =>
                                                                                  lt
                                                                                    (w64
                                                                                      (x_5 + x_6))
                                                                                    fun z_5 =>
                                                                                    chk
                                                                                      (decide
                                                                                        (0 ≤ x_1.1))
                                                                                      (chk
                                                                                        (decide
                                                                                          (x_1.1 <
                                                                                            (↑(List.length l'_1) :
                                                                                              Int)))
                                                                                        (lt
                                                                                          (List.set l'_1
                                                                                            (Int.toNat (x_1.1))
                                                                                            z_5)
                                                                                          fun l' =>
                                                                                          some (l', ()))))))))
                                                                    (some (l'_1, ())))
                                                                  fun (y : List Int × Unit) =>
                                                                  lt
                                                                    (w64
                                                                      (x_2.1 + 1))
                                                                    fun z_4 =>
                                                                    some (Sum.inl (z_4, y.1, ())))))))))
                                          (some (Sum.inr (x_2.2.1, ()))))
                                      (0, x_1.2.1, ()))
                                    fun (y : List Int × Unit) =>
                                    lt (w64 (x_1.1 + 1)) fun z_2 =>
                                      some (Sum.inl (z_2, y.1, ())))
                                  (some (Sum.inr (x_1.2.1, ()))))
                              (0, List.replicate (Int.toNat z_1) (0 : Int), ()))
                            fun (y : List Int × Unit) =>
                            lt (w64 (x.2.1 + 1)) fun z_2 =>
                              some (Sum.inl (y.1, z_2, ())))))
                    (some (Sum.inr (x.1, ()))))
                (l', 0, ()))
              fun (y : List Int × Unit) =>
              chk (decide (0 ≤ a1))
                (chk (decide (a1 < (↑(List.length (y.1)) : Int)))
                  (lt (at0 (y.1) (Int.toNat a1)) fun x => some ((x, ()), ()))))))
noncomputable def f_belfryref18_Bits (k : Nat) (a0 : Int) : Option ((Int × Unit) × Unit) :=
  obind (f_belfryref13_Count k 4 a0) fun (y : (Int × Unit) × Unit) =>
    lt (w64 (y.1.1 - 1)) fun z =>
      obind
        (iter k
          (fun (x : Int × Int × Unit) =>
            br (decide (x.2.1 > 0))
              (lt (w64 (x.1 + 1)) fun z_1 =>
                lt (w64 (Int.tdiv (x.2.1) 2)) fun z =>
                  some (Sum.inl (z_1, z, ())))
              (some (Sum.inr (x.1, ()))))
          (0, z, ()))
        fun (y_1 : Int × Unit) => some ((y_1.1, ()), ())
noncomputable def f_belfryref18_Pulses (k : Nat) (a0 : List Int) (a1 : Int) : Option ((List Int × Unit) × Unit) :=
  obind
    (iter k
      (fun (x : Int × List Int × Unit) =>
        br (decide (x.1 < 13))
          (obind (f_belfryref18_Bits k (x.1)) fun (y : (Int × Unit) × Unit) =>
            chk (decide (0 ≤ x.1))
              (chk (decide (x.1 < 13))
                (lt (List.set (x.2.1) (Int.toNat (x.1)) (y.1.1)) fun l' =>
                  lt (w64 (x.1 + 1)) fun z =>
                    some (Sum.inl (z, l', ())))))
          (some (Sum.inr (x.2.1, ()))))
      (0, List.replicate 13 (0 : Int), ()))
    fun (y : List Int × Unit) =>
    obind
      (iter k
        (fun (x : Int × List Int × List Int × Unit) =>
          obind
            (iter k
              (fun (x_1 : Int × Int × Unit) =>
                br (decide (x_1.2.1 < 8))
                  (obind
                    (chk (decide (0 ≤ x_1.2.1))
                      (chk (decide (x_1.2.1 < 8))
                        (lt (at0 (x.2.2.1) (Int.toNat (x_1.2.1))) fun x_2 =>
                          br (decide (x_2 < 12))
                            (chk (decide (0 ≤ x_1.2.1))
                              (chk (decide (x_1.2.1 < 8))
                                (lt (at0 (x.2.2.1) (Int.toNat (x_1.2.1))) fun x_3 =>
                                  lt (w64 (x_3 + 1)) fun z =>
                                    chk (decide (0 ≤ z))
                                      (chk (decide (z < 13))
                                        (lt (at0 (y.1) (Int.toNat z)) fun x_4 =>
                                          chk (decide (0 ≤ x_1.2.1))
                                            (chk (decide (x_1.2.1 < 8))
                                              (lt (at0 (x.2.2.1) (Int.toNat (x_1.2.1))) fun x_5 =>
                                                chk (decide (0 ≤ x_5))
                                                  (chk (decide (x_5 < 13))
                                                    (lt (at0 (y.1) (Int.toNat x_5)) fun x_6 =>
                                                      lt (w64 (x_4 - x_6)) fun z =>
                                                        br (decide (z ≤ x.1))
                                                          (br (decide (x_1.1 < 0))
                                                            (some (true, ()))
                                                            (chk (decide (0 ≤ x_1.2.1))
                                                              (chk (decide (x_1.2.1 < 8))
                                                                (lt (at0 a0 (Int.toNat (x_1.2.1)))
                                                                  fun x_7 =>
                                                                  chk (decide (0 ≤ x_1.2.1))
                                                                    (chk (decide (x_1.2.1 < 8))
                                                                      (lt
                                                                        (at0 (x.2.2.1)
                                                                          (Int.toNat (x_1.2.1)))
                                                                        fun x_8 =>
                                                                        lt (w64 (x_7 - x_8))
                                                                          fun z =>
                                                                          chk (decide (0 ≤ x_1.1))
                                                                            (chk (decide (x_1.1 < 8))
                                                                              (lt (at0 a0 (Int.toNat (x_1.1)))
                                                                                fun x_9 =>
                                                                                chk (decide (0 ≤ x_1.1))
                                                                                  (chk
                                                                                    (decide (x_1.1 < 8))
                                                                                    (lt
                                                                                      (at0 (x.2.2.1)
                                                                                        (Int.toNat (x_1.1)))
                                                                                      fun x =>
                                                                                      lt
                                                                                        (w64
                                                                                          (x_9 - x))
                                                                                        fun z_1 =>
                                                                                        some
                                                                                          (decide (z > z_1),
                                                                                            ())))))))))))
                                                          (some (false, ())))))))))))
                            (some (false, ())))))
                    fun (x_2 : Bool × Unit) =>
                    obind (br (x_2.1) (some (x_1.2.1, ())) (some (x_1.1, ())))
                      fun (y_1 : Int × Unit) =>
                      lt (w64 (x_1.2.1 + 1)) fun z =>
                        some (Sum.inl (y_1.1, z, ())))
                  (some (Sum.inr (x_1.1, ()))))
              ((-1), 0, ()))
            fun (y_1 : Int × Unit) =>
            br (decide (y_1.1 < 0)) (some (Sum.inr (x.2.2.1, x.2.2.1, ())))
              (chk (decide (0 ≤ y_1.1))
                (chk (decide (y_1.1 < 8))
                  (lt (at0 (x.2.2.1) (Int.toNat (y_1.1))) fun x_1 =>
                    lt (w64 (x_1 + 1)) fun z =>
                      chk (decide (0 ≤ z))
                        (chk (decide (z < 13))
                          (lt (at0 (y.1) (Int.toNat z)) fun x_2 =>
                            lt (w64 (x.1 - x_2)) fun z =>
                              chk (decide (0 ≤ y_1.1))
                                (chk (decide (y_1.1 < 8))
                                  (lt (at0 (x.2.2.1) (Int.toNat (y_1.1))) fun x_3 =>
                                    chk (decide (0 ≤ x_3))
                                      (chk (decide (x_3 < 13))
                                        (lt (at0 (y.1) (Int.toNat x_3)) fun x_4 =>
                                          lt (w64 (z + x_4)) fun z =>
                                            chk (decide (0 ≤ y_1.1))
                                              (chk (decide (y_1.1 < 8))
                                                (lt (at0 (x.2.2.1) (Int.toNat (y_1.1))) fun x_5 =>
                                                  lt (w64 (x_5 + 1)) fun z_1 =>
                                                    chk (decide (0 ≤ y_1.1))
                                                      (chk (decide (y_1.1 < 8))
                                                        (lt (List.set (x.2.2.1) (Int.toNat (y_1.1)) z_1)
                                                          fun l' =>
                                                          some (Sum.inl (z, x.2.1, l', ()))))))))))))))))
        (a1, List.replicate 8 (0 : Int), List.replicate 8 (0 : Int), ()))
      fun (y_1 : List Int × List Int × Unit) => some ((y_1.1, ()), ())
noncomputable def f_pvq_may (k : Nat) (a0 : Int) (a1 : Int) : Option ((Bool × Unit) × Unit) :=
  obind
    (br (decide (a0 ≥ 0))
      (br (decide (a0 ≤ 8))
        (br (decide (a1 ≥ 0)) (some (decide (a1 ≤ 12), ())) (some (false, ())))
        (some (false, ())))
      (some (false, ())))
    fun (x : Bool × Unit) => some ((x.1, ()), ())
noncomputable def f_pvq_Count (k : Nat) (a0 : Int) (a1 : Int) : Option ((Int × Unit) × Unit) :=
  obind (f_pvq_may k a0 a1) fun (y : (Bool × Unit) × Unit) =>
    br (!y.1.1) (some ((0, ()), ()))
      (lt (List.set (List.replicate 117 (0 : Int)) 0 1) fun l' =>
        obind
          (iter k
            (fun (x : Int × List Int × Unit) =>
              br (decide (x.1 ≤ 8))
                (obind
                  (iter k
                    (fun (x_1 : Int × List Int × Unit) =>
                      br (decide (x_1.1 < 13))
                        (lt (w64 (x.1 - 1)) fun z =>
                          chk (decide (0 ≤ z))
                            (chk (decide (z < 9))
                              (chk (decide (0 ≤ x_1.1))
                                (chk (decide (x_1.1 < 13))
                                  (lt (at0 (x_1.2.1) (Int.toNat (addz (z * 13) (x_1.1))))
                                    fun x_2 =>
                                    chk (decide (0 ≤ x.1))
                                      (chk (decide (x.1 < 9))
                                        (chk (decide (0 ≤ x_1.1))
                                          (chk (decide (x_1.1 < 13))
                                            (lt
                                              (List.set (x_1.2.1)
                                                (Int.toNat (addz (x.1 * 13) (x_1.1))) x_2)
                                              fun l'_1 =>
                                              obind
                                                (iter k
                                                  (fun (x_3 : Int × List Int × Unit) =>
                                                    br (decide (x_3.1 < x_1.1))
                                                      (chk (decide (0 ≤ x.1))
                                                        (chk (decide (x.1 < 9))
                                                          (chk (decide (0 ≤ x_1.1))
                                                            (chk (decide (x_1.1 < 13))
                                                              (lt
                                                                (at0 (x_3.2.1)
                                                                  (Int.toNat
                                                                    (addz (x.1 * 13) (x_1.1))))
                                                                fun x_4 =>
                                                                lt (w64 (x.1 - 1))
                                                                  fun z_1 =>
                                                                  chk (decide (0 ≤ z_1))
                                                                    (chk (decide (z_1 < 9))
                                                                      (chk (decide (0 ≤ x_3.1))
                                                                        (chk (decide (x_3.1 < 13))
                                                                          (lt
                                                                            (at0 (x_3.2.1)
                                                                              (Int.toNat
                                                                                (addz (z_1 * 13)
                                                                                  (x_3.1))))
                                                                            fun x_5 =>
                                                                            lt
                                                                              (w64
                                                                                (2 * x_5))
                                                                              fun z_2 =>
                                                                              lt (w64 (x_4 + z_2))
                                                                                fun z_3 =>
                                                                                chk (decide (0 ≤ x.1))
                                                                                  (chk (decide (x.1 < 9))
                                                                                    (chk
                                                                                      (decide
                                                                                        (0 ≤ x_1.1))
                                                                                      (chk
                                                                                        (decide
                                                                                          (x_1.1 < 13))
                                                                                        (lt
                                                                                          (List.set (x_3.2.1)
                                                                                            (Int.toNat
                                                                                              (addz
                                                                                                (x.1 *
                                                                                                  13)
                                                                                                (x_1.1)))
                                                                                            z_3)
                                                                                          fun l'_2 =>
                                                                                          lt
                                                                                            (w64
                                                                                              (x_3.1 +
                                                                                                1))
                                                                                            fun z =>
                                                                                            some
                                                                                              (Sum.inl
                                                                                                (z, l'_2,
                                                                                                  ())))))))))))))))
                                                      (some (Sum.inr (x_3.2.1, ()))))
                                                  (0, l'_1, ()))
                                                fun (y : List Int × Unit) =>
                                                lt (w64 (x_1.1 + 1))
                                                  fun z_1 =>
                                                  some (Sum.inl (z_1, y.1, ())))))))))))
                        (some (Sum.inr (x_1.2.1, ()))))
                    (0, x.2.1, ()))
                  fun (y : List Int × Unit) =>
                  lt (w64 (x.1 + 1)) fun z =>
                    some (Sum.inl (z, y.1, ())))
                (some (Sum.inr (x.2.1, ()))))
            (1, l', ()))
          fun (y : List Int × Unit) =>
          chk (decide (0 ≤ a0))
            (chk (decide (a0 < 9))
              (chk (decide (0 ≤ a1))
                (chk (decide (a1 < 13))
                  (lt (at0 (y.1) (Int.toNat (addz (a0 * 13) a1))) fun x =>
                    some ((x, ()), ()))))))
noncomputable def f_pvq_Vector (k : Nat) (a0 : Int) (a1 : Int) (a2 : Int) : Option ((List Int × Int × Unit) × Unit) :=
  obind (f_pvq_may k a0 a1) fun (y : (Bool × Unit) × Unit) =>
    br (!y.1.1) (some (([], 1, ()), ()))
      (obind
        (br (decide (a2 < 0)) (some (true, ()))
          (obind (f_pvq_Count k a0 a1) fun (y : (Int × Unit) × Unit) =>
            some (decide (a2 ≥ y.1.1), ())))
        fun (x : Bool × Unit) =>
        br (x.1) (some (([], 7, ()), ()))
          (lt (List.set (List.replicate 117 (0 : Int)) 0 1) fun l' =>
            obind
              (iter k
                (fun (x : Int × List Int × Unit) =>
                  br (decide (x.1 ≤ 8))
                    (obind
                      (iter k
                        (fun (x_1 : Int × List Int × Unit) =>
                          br (decide (x_1.1 < 13))
                            (lt (w64 (x.1 - 1)) fun z =>
                              chk (decide (0 ≤ z))
                                (chk (decide (z < 9))
                                  (chk (decide (0 ≤ x_1.1))
                                    (chk (decide (x_1.1 < 13))
                                      (lt (at0 (x_1.2.1) (Int.toNat (addz (z * 13) (x_1.1))))
                                        fun x_2 =>
                                        chk (decide (0 ≤ x.1))
                                          (chk (decide (x.1 < 9))
                                            (chk (decide (0 ≤ x_1.1))
                                              (chk (decide (x_1.1 < 13))
                                                (lt
                                                  (List.set (x_1.2.1)
                                                    (Int.toNat (addz (x.1 * 13) (x_1.1))) x_2)
                                                  fun l'_1 =>
                                                  obind
                                                    (iter k
                                                      (fun (x_3 : Int × List Int × Unit) =>
                                                        br (decide (x_3.1 < x_1.1))
                                                          (chk (decide (0 ≤ x.1))
                                                            (chk (decide (x.1 < 9))
                                                              (chk (decide (0 ≤ x_1.1))
                                                                (chk (decide (x_1.1 < 13))
                                                                  (lt
                                                                    (at0 (x_3.2.1)
                                                                      (Int.toNat
                                                                        (addz (x.1 * 13)
                                                                          (x_1.1))))
                                                                    fun x_4 =>
                                                                    lt
                                                                      (w64
                                                                        (x.1 - 1))
                                                                      fun z_1 =>
                                                                      chk (decide (0 ≤ z_1))
                                                                        (chk (decide (z_1 < 9))
                                                                          (chk (decide (0 ≤ x_3.1))
                                                                            (chk (decide (x_3.1 < 13))
                                                                              (lt
                                                                                (at0 (x_3.2.1)
                                                                                  (Int.toNat
                                                                                    (addz (z_1 * 13)
                                                                                      (x_3.1))))
                                                                                fun x_5 =>
                                                                                lt
                                                                                  (w64
                                                                                    (2 * x_5))
                                                                                  fun z_2 =>
                                                                                  lt
                                                                                    (w64
                                                                                      (x_4 + z_2))
                                                                                    fun z_3 =>
                                                                                    chk
                                                                                      (decide (0 ≤ x.1))
                                                                                      (chk
                                                                                        (decide
                                                                                          (x.1 < 9))
                                                                                        (chk
                                                                                          (decide
                                                                                            (0 ≤ x_1.1))
                                                                                          (chk
                                                                                            (decide
                                                                                              (x_1.1 <
                                                                                                13))
                                                                                            (lt
                                                                                              (List.set (x_3.2.1)
                                                                                                (Int.toNat
                                                                                                  (addz
                                                                                                    (x.1 *
                                                                                                      13)
                                                                                                    (x_1.1)))
                                                                                                z_3)
                                                                                              fun l'_2 =>
                                                                                              lt
                                                                                                (IntKind.wrap
                                                                                                  IntKind.i64
                                                                                                  (x_3.1 +
                                                                                                    1))
                                                                                                fun z =>
                                                                                                some
                                                                                                  (Sum.inl
                                                                                                    (z, l'_2,
                                                                                                      ())))))))))))))))
                                                          (some (Sum.inr (x_3.2.1, ()))))
                                                      (0, l'_1, ()))
                                                    fun (y : List Int × Unit) =>
                                                    lt (w64 (x_1.1 + 1))
                                                      fun z_1 =>
                                                      some (Sum.inl (z_1, y.1, ())))))))))))
                            (some (Sum.inr (x_1.2.1, ()))))
                        (0, x.2.1, ()))
                      fun (y : List Int × Unit) =>
                      lt (w64 (x.1 + 1)) fun z =>
                        some (Sum.inl (z, y.1, ())))
                    (some (Sum.inr (x.2.1, ()))))
                (1, l', ()))
              fun (y_1 : List Int × Unit) =>
              obind
                (iter k
                  (fun (x_1 : List Int × Int × Int × Int × Unit) =>
                    br (decide (x_1.2.1 < a0))
                      (obind (f_pvq_numbers k (x_1.2.2.1)) fun (y_2 : (List Int × Unit) × Unit) =>
                        chk (decide ((↑(List.length (y_2.1.1)) : Int) ≤ 4611686018427387904))
                          (lt (↑(List.length (y_2.1.1)) : Int) fun z =>
                            obind
                              (iter k
                                (fun (x_2 : Int × Int × Unit) =>
                                  br (decide (x_2.1 < z))
                                    (chk (decide (0 ≤ x_2.1))
                                      (chk (decide (x_2.1 < (↑(List.length (y_2.1.1)) : Int)))
                                        (lt (at0 (y_2.1.1) (Int.toNat (x_2.1))) fun x_3 =>
                                          lt (w64 (a0 - x_1.2.1)) fun z_1 =>
                                            lt (w64 (z_1 - 1)) fun z_2 =>
                                              obind (f_pvq_size k x_3) fun (y_3 : (Int × Unit) × Unit) =>
                                                lt (w64 (x_1.2.2.1 - y_3.1.1))
                                                  fun z_3 =>
                                                  chk (decide (0 ≤ z_2))
                                                    (chk (decide (z_2 < 9))
                                                      (chk (decide (0 ≤ z_3))
                                                        (chk (decide (z_3 < 13))
                                                          (lt
                                                            (at0 (y_1.1)
                                                              (Int.toNat (addz (z_2 * 13) z_3)))
                                                            fun x_4 =>
                                                            br (decide (x_2.2.1 < x_4))
                                                              (some
                                                                (Sum.inr
                                                                  (Sum.inl (x_2.1, x_2.2.1, ()))))
                                                              (lt (w64 (x_2.2.1 - x_4))
                                                                fun z_4 =>
                                                                lt (w64 (x_2.1 + 1))
                                                                  fun z =>
                                                                  some (Sum.inl (z, z_4, ()))))))))))
                                    (some (Sum.inr (Sum.inr (x_2.2.1, ())))))
                                (0, x_1.2.2.2.1, ()))
                              fun (y_3 : Int × Int × Unit ⊕ Int × Unit) =>
                              sel y_3
                                (fun (y_4 : Int × Int × Unit) =>
                                  chk (decide (0 ≤ y_4.1))
                                    (chk (decide (y_4.1 < (↑(List.length (y_2.1.1)) : Int)))
                                      (lt (at0 (y_2.1.1) (Int.toNat (y_4.1))) fun x_2 =>
                                        chk
                                          (decide
                                            (List.length (x_1.1) + List.length [x_2] ≤ 10000000000))
                                          (lt (x_1.1 ++ [x_2]) fun z_1 =>
                                            chk (decide (0 ≤ y_4.1))
                                              (chk (decide (y_4.1 < (↑(List.length (y_2.1.1)) : Int)))
                                                (lt (at0 (y_2.1.1) (Int.toNat (y_4.1))) fun x_3 =>
                                                  obind (f_pvq_size k x_3) fun (y_5 : (Int × Unit) × Unit) =>
                                                    lt (w64 (x_1.2.2.1 - y_5.1.1))
                                                      fun z_2 =>
                                                      lt (w64 (x_1.2.1 + 1))
                                                        fun z_3 =>
                                                        some (Sum.inl (z_1, z_3, z_2, y_4.2.1, ()))))))))
                                fun (y_4 : Int × Unit) =>
                                chk (decide (0 ≤ (-1)))
                                  (lt (at0 (y_2.1.1) 0) fun x_2 =>
                                    chk (decide (List.length (x_1.1) + List.length [x_2] ≤ 10000000000))
                                      (lt (x_1.1 ++ [x_2]) fun z_1 =>
                                        chk (decide (0 ≤ (-1)))
                                          (lt (at0 (y_2.1.1) 0) fun x_3 =>
                                            obind (f_pvq_size k x_3) fun (y_5 : (Int × Unit) × Unit) =>
                                              lt (w64 (x_1.2.2.1 - y_5.1.1))
                                                fun z_2 =>
                                                lt (w64 (x_1.2.1 + 1))
                                                  fun z_3 =>
                                                  some (Sum.inl (z_1, z_3, z_2, y_4.1, ())))))))
                      (some (Sum.inr (x_1.1, x_1.2.2.1, x_1.2.2.2.1, ()))))
                  ([], 0, a1, a2, ()))
                fun (y_2 : List Int × Int × Int × Unit) => some ((y_2.1, 0, ()), ())))
noncomputable def f_belfrylaw19_Shape (k : Nat) (a0 : List Int) (a1 : List Int) (a2 : Int) : Option ((List Int × Unit) × Unit) :=
  obind
    (iter k
      (fun (x : Int × List Int × Unit) =>
        br (decide (x.1 < 8))
          (chk (decide (0 ≤ x.1))
            (chk (decide (x.1 < 8))
              (lt (at0 a0 (Int.toNat (x.1))) fun x_1 =>
                lt (ibit BinOp.and IntKind.i64 x_1 15) fun z =>
                  chk (decide (0 ≤ x.1))
                    (chk (decide (x.1 < 8))
                      (lt (List.set (x.2.1) (Int.toNat (x.1)) z) fun l' =>
                        lt (w64 (x.1 + 1)) fun z =>
                          some (Sum.inl (z, l', ())))))))
          (some (Sum.inr (x.2.1, ()))))
      (0, List.replicate 40 (0 : Int), ()))
    fun (y : List Int × Unit) =>
    lt (cut (y.1) 0 8) fun x =>
      lt (w64 (8 * a2)) fun z =>
        lt (w64 (z - 64)) fun z_1 =>
          obind (f_belfryref18_Pulses k x z_1) fun (y_1 : (List Int × Unit) × Unit) =>
            obind
              (iter k
                (fun (x_1 : Int × List Int × List Int × Unit) =>
                  br (decide (x_1.1 < 8))
                    (chk (decide (0 ≤ x_1.1))
                      (chk (decide (x_1.1 < 8))
                        (lt (at0 (y_1.1.1) (Int.toNat (x_1.1))) fun x_2 =>
                          obind (f_pvq_Count k 4 x_2) fun (y_2 : (Int × Unit) × Unit) =>
                            br (y_2.1.1 == 0)
                              (some (Sum.inr (Sum.inl (x_1.2.2.1, x_1.2.2.1, ()))))
                              (chk (decide (0 ≤ x_1.1))
                                (chk (decide (x_1.1 < 8))
                                  (lt (at0 (y_1.1.1) (Int.toNat (x_1.1))) fun x_3 =>
                                    chk (decide (0 ≤ x_1.1))
                                      (chk (decide (x_1.1 < 8))
                                        (lt (at0 a1 (Int.toNat (x_1.1))) fun x_4 =>
                                          lt (w64 x_4) fun z_2 =>
                                            chk (decide (y_2.1.1 ≠ 0))
                                              (lt (Int.tmod z_2 (y_2.1.1)) fun z_3 =>
                                                obind (f_pvq_Vector k 4 x_3 z_3)
                                                  fun (y_3 : (List Int × Int × Unit) × Unit) =>
                                                  obind
                                                    (iter k
                                                      (fun (x_5 : Int × List Int × Unit) =>
                                                        obind
                                                          (br (decide (x_5.1 < 4))
                                                            (chk
                                                              (decide
                                                                ((↑(List.length (y_3.1.1)) : Int) ≤
                                                                  4611686018427387904))
                                                              (lt (↑(List.length (y_3.1.1)) : Int)
                                                                fun z => some (z == 4, ())))
                                                            (some (false, ())))
                                                          fun (x_6 : Bool × Unit) =>
                                                          br (x_6.1)
                                                            (chk (decide (0 ≤ x_5.1))
                                                              (chk
                                                                (decide
                                                                  (x_5.1 <
                                                                    (↑(List.length (y_3.1.1)) : Int)))
                                                                (lt (at0 (y_3.1.1) (Int.toNat (x_5.1)))
                                                                  fun x_7 =>
                                                                  chk (decide (0 ≤ x_1.1))
                                                                    (chk (decide (x_1.1 < 8))
                                                                      (chk (decide (0 ≤ x_5.1))
                                                                        (chk (decide (x_5.1 < 4))
                                                                          (lt
                                                                            (List.set (x_5.2.1)
                                                                              (Int.toNat
                                                                                (8 +
                                                                                  addz (x_1.1 * 4)
                                                                                    (x_5.1)))
                                                                              x_7)
                                                                            fun l' =>
                                                                            lt
                                                                              (w64
                                                                                (x_5.1 + 1))
                                                                              fun z =>
                                                                              some (Sum.inl (z, l', ())))))))))
                                                            (some (Sum.inr (x_5.2.1, ()))))
                                                      (0, x_1.2.2.1, ()))
                                                    fun (y_4 : List Int × Unit) =>
                                                    lt (w64 (x_1.1 + 1))
                                                      fun z_4 =>
                                                      some
                                                        (Sum.inl
                                                          (z_4, x_1.2.1, y_4.1, ())))))))))))
                    (some (Sum.inr (Sum.inr (x_1.2.1, x_1.2.2.1, ())))))
                (0, List.replicate 40 (0 : Int), y.1, ()))
              fun (y_2 : List Int × List Int × Unit ⊕ List Int × List Int × Unit) =>
              sel y_2 (fun (y_3 : List Int × List Int × Unit) => some ((y_3.1, ()), ()))
                fun (y_3 : List Int × List Int × Unit) => some ((y_3.2.1, ()), ())
noncomputable def f_belfrylaw23_TagTells (k : Nat) (a0 : List Int) (a1 : Int) (a2 : List Int) (a3 : List Int) (a4 : Int) (a5 : List Int) : Option ((Bool × Unit) × Unit) :=
  obind
    (obind (f_belfrylaw23_awake k) fun (y : (Bool × Unit) × Unit) =>
      br (!y.1.1) (some (true, ()))
        (chk (decide (List.length a5 ≤ 4611686018427387904))
          (lt (↑(List.length a5) : Int) fun z => some (decide (z > 200), ()))))
    fun (x : Bool × Unit) =>
    br (x.1)
      (obind (f_belfrylaw23_awake k) fun (y : (Bool × Unit) × Unit) => some ((y.1.1, ()), ()))
      (lt (w64 a1) fun z =>
        lt (w64 a4) fun z_1 =>
          lt (Int.tmod z_1 13) fun z_2 =>
            lt (w64 (12 + z_2)) fun z_3 =>
              obind (f_belfrylaw19_Shape k a2 a3 z_3) fun (y : (List Int × Unit) × Unit) =>
                lt (List.set (List.replicate 41 (0 : Int)) 0 z) fun l' =>
                  lt (paste l' 1 (y.1.1)) fun l'' =>
                    obind (f_tag_Ask k a0 l'' a5) fun (y_1 : (List Int × Unit) × Unit) =>
                      obind (f_tag_Put k a0 l'' a5) fun (y_2 : (List Int × Unit) × Unit) =>
                        lt (paste l'' 1 (y_2.1.1)) fun l''_1 =>
                          obind (f_tag_Ask k a0 l''_1 a5) fun (y_3 : (List Int × Unit) × Unit) =>
                            obind
                              (lt (at0 (y_3.1.1) 2) fun x =>
                                br (x == 0)
                                  (lt (at0 (y_3.1.1) 3) fun x =>
                                    br (x == 0)
                                      (lt (at0 (y_3.1.1) 0) fun x =>
                                        lt (at0 (y_1.1.1) 0) fun x_1 =>
                                          br (x == x_1)
                                            (lt (at0 (y_3.1.1) 1) fun x =>
                                              lt (at0 (y_1.1.1) 1) fun x_2 =>
                                                br (x == x_2)
                                                  (lt (at0 (y_3.1.1) 0) fun x =>
                                                    br (decide (x ≤ 3))
                                                      (lt (at0 (y_3.1.1) 1) fun x =>
                                                        some (decide (x ≤ 3), ()))
                                                      (some (false, ())))
                                                  (some (false, ())))
                                            (some (false, ())))
                                      (some (false, ())))
                                  (some (false, ())))
                              fun (x_1 : Bool × Unit) => some ((x_1.1, ()), ()))
noncomputable def f_belfrylaw23_TagFree (k : Nat) (a0 : List Int) (a1 : Int) (a2 : List Int) (a3 : List Int) (a4 : List Int) (a5 : Int) : Option ((Bool × Unit) × Unit) :=
  obind (f_belfrylaw23_awake k) fun (y : (Bool × Unit) × Unit) =>
    br (!y.1.1) (some ((false, ()), ()))
      (lt (w64 a5) fun z =>
        lt (Int.tmod z 13) fun z_1 =>
          lt (w64 (12 + z_1)) fun z_2 =>
            lt (w64 a1) fun z_3 =>
              obind (f_belfrylaw19_Shape k a2 a3 z_2) fun (y_1 : (List Int × Unit) × Unit) =>
                lt (List.set (List.replicate 41 (0 : Int)) 0 z_3) fun l' =>
                  lt (paste l' 1 (y_1.1.1)) fun l'' =>
                    lt (w64 a1) fun z_4 =>
                      obind (f_belfrylaw19_Shape k a2 a4 z_2) fun (y_2 : (List Int × Unit) × Unit) =>
                        lt (List.set (List.replicate 41 (0 : Int)) 0 z_4) fun l' =>
                          lt (paste l' 1 (y_2.1.1)) fun l''_1 =>
                            lt (w64 a1) fun z_5 =>
                              obind (f_tag_Bands k a0 z_5) fun (y_3 : (List Int × Unit) × Unit) =>
                                obind (f_tag_Own k a0 l'') fun (y_4 : (Int × Unit) × Unit) =>
                                  obind
                                    (iter k
                                      (fun (x : Int × List Int × Unit) =>
                                        br (decide (x.1 < 6))
                                          (chk (decide (0 ≤ x.1))
                                            (chk (decide (x.1 < 7))
                                              (lt (at0 (y_3.1.1) (Int.toNat (x.1))) fun x_1 =>
                                                lt (ibit BinOp.and IntKind.i64 x_1 7) fun z_6 =>
                                                  chk (decide (0 ≤ x.1))
                                                    (chk (decide (x.1 < 7))
                                                      (lt (at0 (y_3.1.1) (Int.toNat (x.1)))
                                                        fun x_2 =>
                                                        lt (ibit BinOp.and IntKind.i64 x_2 7) fun z_7 =>
                                                          chk (decide (0 ≤ z_7))
                                                            (chk (decide (z_7 < 8))
                                                              (lt
                                                                (cut l''_1 (Int.toNat (9 + z_7 * 4))
                                                                  4)
                                                                fun x_3 =>
                                                                chk (decide (0 ≤ z_6))
                                                                  (chk (decide (z_6 < 8))
                                                                    (lt
                                                                      (paste (x.2.1)
                                                                        (Int.toNat (9 + z_6 * 4)) x_3)
                                                                      fun l''_2 =>
                                                                      lt
                                                                        (w64
                                                                          (x.1 + 1))
                                                                        fun z =>
                                                                        some (Sum.inl (z, l''_2, ())))))))))))
                                          (some (Sum.inr (x.2.1, ()))))
                                      (0, l'', ()))
                                    fun (y_5 : List Int × Unit) =>
                                    obind (f_tag_Own k a0 (y_5.1)) fun (y_6 : (Int × Unit) × Unit) =>
                                      lt (w64 a1) fun z_6 =>
                                        obind (f_keyed_Band k a0 z_6) fun (y_7 : (Int × Unit) × Unit) =>
                                          chk (decide (0 ≤ y_7.1.1))
                                            (chk (decide (y_7.1.1 < 8))
                                              (lt
                                                (cut l''_1 (Int.toNat (9 + y_7.1.1 * 4))
                                                  4)
                                                fun x =>
                                                chk (decide (0 ≤ y_7.1.1))
                                                  (chk (decide (y_7.1.1 < 8))
                                                    (lt
                                                      (paste (y_5.1)
                                                        (Int.toNat (9 + y_7.1.1 * 4)) x)
                                                      fun l''_2 =>
                                                      lt (at0 (y_3.1.1) 6) fun x_1 =>
                                                        lt (ibit BinOp.and IntKind.i64 x_1 7) fun z_7 =>
                                                          lt (at0 (y_3.1.1) 6) fun x_2 =>
                                                            lt (ibit BinOp.and IntKind.i64 x_2 7)
                                                              fun z_8 =>
                                                              chk (decide (0 ≤ z_8))
                                                                (chk (decide (z_8 < 8))
                                                                  (lt
                                                                    (cut l''_1 (Int.toNat (9 + z_8 * 4))
                                                                      4)
                                                                    fun x_3 =>
                                                                    chk (decide (0 ≤ z_7))
                                                                      (chk (decide (z_7 < 8))
                                                                        (lt
                                                                          (paste l''_2
                                                                            (Int.toNat (9 + z_7 * 4))
                                                                            x_3)
                                                                          fun l''_3 =>
                                                                          obind
                                                                            (br (y_6.1.1 == y_4.1.1)
                                                                              (br (l''_3 == l''_1)
                                                                                (br
                                                                                  (decide (y_4.1.1 ≥ 0))
                                                                                  (some
                                                                                    (decide
                                                                                        (y_4.1.1 ≤ 7),
                                                                                      ()))
                                                                                  (some (false, ())))
                                                                                (some (false, ())))
                                                                              (some (false, ())))
                                                                            fun (x_4 : Bool × Unit) =>
                                                                            some
                                                                              ((x_4.1, ()),
                                                                                ()))))))))))
end Go.Proofs.YthdojgehgcknmaaDoor
