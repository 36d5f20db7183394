/- The formulas of some functions, printed by a program (wip/cw/CwGen). -/
import Derived.Test.YthocdclklnpkiaaFacts
set_option linter.unusedVariables false
set_option maxRecDepth 100000
namespace Go.Proofs.Ythocdclklnpkiaa
open Go Go.CW

/-- gemel/gemellaw2.CrcBytes -/
def gemellaw2_CrcBytes_F (p0 : Value) (p1 : Int) (p2 : Int) (w : World) (R : KV) : Prop :=
 Go.CW.Spec Try.prog 8 #[] w fun v0 w1 =>
  ∃ b2 : Bool, ((v0 : Value) = (.bool b2)) ∧
   cond (!b2)
     (R (.bool false) w1)
     (JoinP [.bool]
        (fun (b3 : Bool) => fun (w4 : World) =>
         cond b3
           (R (.bool true) w4)
           (Go.CW.Spec Try.prog 9 #[p0] w4 fun v5 w6 =>
             ∃ v7 : Value, ∃ n8 : Int, ((v5 : Value) = (.tuple #[v7, (.int .i64 n8)])) ∧
               Go.CW.Spec Try.prog 10 #[p0] w6 fun v9 w10 =>
                ∃ v11 : Value, ∃ n12 : Int, ((v9 : Value) = (.tuple #[v11, (.int .i64 n12)])) ∧
                  Go.CW.Spec Try.prog 11 #[p0] w10 fun v13 w14 =>
                   Go.CW.Spec Try.prog 9 #[v13] w14 fun v15 w16 =>
                    ∃ v17 : Value, ∃ n18 : Int, ((v15 : Value) = (.tuple #[v17, (.int .i64 n18)])) ∧
                      JoinP [.bool]
                        (fun (b19 : Bool) => fun (w20 : World) =>
                         R (.bool b19) w20)
                        (fun j21 =>
                         Go.CW.Spec Try.prog 12 #[p0] (World.drew w16) fun v22 w23 =>
                          ∃ n24 : Int, ((v22 : Value) = (.int .u32 n24)) ∧
                           Go.CW.Spec Try.prog 13 #[p0] w23 fun v25 w26 =>
                            ∃ n27 : Int, ((v25 : Value) = (.int .u32 n27)) ∧
                             cond (n24 == n27)
                               (Go.CW.Spec Try.prog 14 #[(.int .u32 p2), p0] w26 fun v28 w29 =>
                                 ∃ n30 : Int, ((v28 : Value) = (.int .u32 n30)) ∧
                                  Go.CW.Spec Try.prog 15 #[(.int .u32 p2), p0] w29 fun v31 w32 =>
                                   ∃ n33 : Int, ((v31 : Value) = (.int .u32 n33)) ∧
                                    cond (n30 == n33)
                                      (∃ v34 : Value, ((Go.CW.subSlice p0 1 none (some (.int .i64 p1)) none) = (some v34)) ∧
                                        ∃ v35 : Value, ((Go.CW.subSlice p0 1 (some (.int .i64 p1)) none none) = (some v35)) ∧
                                         Go.CW.Spec Try.prog 12 #[v34] w32 fun v36 w37 =>
                                          ∃ n38 : Int, ((v36 : Value) = (.int .u32 n38)) ∧
                                           Go.CW.Spec Try.prog 14 #[(.int .u32 n38), v35] w37 fun v39 w40 =>
                                            ∃ n41 : Int, ((v39 : Value) = (.int .u32 n41)) ∧
                                             Go.CW.Spec Try.prog 13 #[p0] w40 fun v42 w43 =>
                                              ∃ n44 : Int, ((v42 : Value) = (.int .u32 n44)) ∧
                                               cond (n41 == n44)
                                                 (∃ s45 : ByteArray, ((Sem.run @Go.Proofs.Try.prog (Go.convert 22 9 v7) w43) = (.ok (.string s45) w43)) ∧
                                                   ∃ s46 : ByteArray, ((Sem.run @Go.Proofs.Try.prog (Go.convert 22 9 v11) w43) = (.ok (.string s46) w43)) ∧
                                                    cond (ByteArray.toList s45 == ByteArray.toList s46)
                                                      (cond (n8 == n12)
                                                         (cond (n18 == (0 : Int))
                                                            (∃ s47 : ByteArray, ((Sem.run @Go.Proofs.Try.prog (Go.convert 22 9 v17) w43) = (.ok (.string s47) w43)) ∧
                                                              ∃ s48 : ByteArray, ((Sem.run @Go.Proofs.Try.prog (Go.convert 22 9 p0) w43) = (.ok (.string s48) w43)) ∧
                                                               cond (ByteArray.toList s47 == ByteArray.toList s48)
                                                                 (Go.CW.Spec Try.prog 11 #[p0] w43 fun v49 w50 =>
                                                                   ∃ s51 : ByteArray, ((Sem.run @Go.Proofs.Try.prog (Go.convert 22 9 v49) w50) = (.ok (.string s51) w50)) ∧
                                                                    Go.CW.Spec Try.prog 16 #[p0] w50 fun v52 w53 =>
                                                                     (∃ s54 : ByteArray, ((Sem.run @Go.Proofs.Try.prog (Go.convert 22 9 v49) w53) = (.ok (.string s54) w53)) ∧
                                                                      ((.string s54) : Value) = (.string s51)) ∧
                                                                     ∃ s55 : ByteArray, ((Sem.run @Go.Proofs.Try.prog (Go.convert 22 9 v52) w53) = (.ok (.string s55) w53)) ∧
                                                                      j21 (ByteArray.toList s51 == ByteArray.toList s55) w53)
                                                                 (j21 false w43))
                                                            (j21 false w43))
                                                         (j21 false w43))
                                                      (j21 false w43))
                                                 (j21 false w43))
                                      (j21 false w32))
                               (j21 false w26))))
        (fun j56 =>
         ∃ m57 : Nat, ((Go.CW.sliceLen p0) = (some m57)) ∧
          cond (decide (((m57 : Nat) : Int) > (3000 : Int)))
            (j56 true w1)
            (cond (decide (p1 < (0 : Int)))
               (j56 true w1)
               (∃ m58 : Nat, ((Go.CW.sliceLen p0) = (some m58)) ∧
                 j56 (decide (p1 > ((m58 : Nat) : Int))) w1))))

theorem gemellaw2_CrcBytes_wp (p0 : Value) (p1 : Int) (p2 : Int) (w : World) (R : KV) (h : gemellaw2_CrcBytes_F p0 p1 p2 w R) : Go.CW.Spec Try.prog 3 #[p0, (.int .i64 p1), (.int .u32 p2)] w R :=
  spec_of Try.func3 (by kernel_rfl) (show gemellaw2_CrcBytes_F p0 p1 p2 w R = _ by kernel_rfl) h

/-- gemel/gemellaw2.CrcFlips -/
def gemellaw2_CrcFlips_F (p0 : Value) (p1 : Int) (p2 : Int) (w : World) (R : KV) : Prop :=
 Go.CW.Spec Try.prog 8 #[] w fun v0 w1 =>
  ∃ b2 : Bool, ((v0 : Value) = (.bool b2)) ∧
   cond (!b2)
     (R (.bool false) w1)
     (JoinP [.bool]
        (fun (b3 : Bool) => fun (w4 : World) =>
         cond b3
           (R (.bool true) w4)
           (Go.CW.Spec Try.prog 11 #[p0] w4 fun v5 w6 =>
             ∃ m7 : Nat, ((Go.CW.sliceLen v5) = (some m7)) ∧
              nzK (IntKind.wrap .i64 ((8 : Int) * ((m7 : Nat) : Int))) (LoopP [.bool, .int .i64]
                 (fun j8 => fun (b9 : Bool) => fun (n10 : Int) => fun (w11 : World) =>
                  JoinP [.bool]
                    (fun (b12 : Bool) => fun (w13 : World) =>
                     cond b12
                       (JoinP [.bool]
                          (fun (b14 : Bool) => fun (w15 : World) =>
                           j8 b14 (IntKind.wrap .i64 (n10 + (1 : Int))) w15)
                          (fun j16 =>
                           leK (IntKind.wrap .u64 n10) (cond ((bitsI .and .u32 (Int.fdiv p2 ((2 : Int) ^ (min (Int.toNat (IntKind.wrap .u64 n10)) 32))) (1 : Int)) == (1 : Int))
                              (∃ a17 : Addr, ((Go.CW.sliceAt v5 (IntKind.wrap .i64 (Int.tdiv (IntKind.wrap .i64 ((Int.tmod p1 (IntKind.wrap .i64 ((8 : Int) * ((m7 : Nat) : Int)))) + n10)) (8 : Int))) 1) = (some a17)) ∧
                                ∃ n18 : Int, ((Go.World.cell? w13 a17) = (some (.int .u8 n18))) ∧
                                 leK (IntKind.wrap .u64 (Int.tmod (IntKind.wrap .i64 ((Int.tmod p1 (IntKind.wrap .i64 ((8 : Int) * ((m7 : Nat) : Int)))) + n10)) (8 : Int))) (∃ a19 : Addr, ((Go.CW.sliceAt v5 (IntKind.wrap .i64 (Int.tdiv (IntKind.wrap .i64 ((Int.tmod p1 (IntKind.wrap .i64 ((8 : Int) * ((m7 : Nat) : Int)))) + n10)) (8 : Int))) 1) = (some a19)) ∧
                                   (St1 w13 a19) ∧
                                   j16 true (World.setCell w13 a19 (.int .u8 (bitsI .xor .u8 n18 (IntKind.wrap .u8 ((1 : Int) * ((2 : Int) ^ (min (Int.toNat (IntKind.wrap .u64 (Int.tmod (IntKind.wrap .i64 ((Int.tmod p1 (IntKind.wrap .i64 ((8 : Int) * ((m7 : Nat) : Int)))) + n10)) (8 : Int)))) 8)))))))))
                              (j16 b9 w13))))
                       (Go.CW.Spec Try.prog 9 #[v5] w13 fun v20 w21 =>
                         ∃ v22 : Value, ∃ n23 : Int, ((v20 : Value) = (.tuple #[v22, (.int .i64 n23)])) ∧
                           cond b9
                             (JoinP [.bool]
                                (fun (b24 : Bool) => fun (w25 : World) =>
                                 R (.bool b24) w25)
                                (fun j26 =>
                                 cond (n23 == (4 : Int))
                                   (∃ m27 : Nat, ((Go.CW.sliceLen v22) = (some m27)) ∧
                                     j26 (((m27 : Nat) : Int) == (0 : Int)) w21)
                                   (j26 false w21)))
                             (JoinP [.bool]
                                (fun (b28 : Bool) => fun (w29 : World) =>
                                 R (.bool b28) w29)
                                (fun j30 =>
                                 cond (n23 == (0 : Int))
                                   (∃ s31 : ByteArray, ((Sem.run @Go.Proofs.Try.prog (Go.convert 22 9 v22) w21) = (.ok (.string s31) w21)) ∧
                                     ∃ s32 : ByteArray, ((Sem.run @Go.Proofs.Try.prog (Go.convert 22 9 p0) w21) = (.ok (.string s32) w21)) ∧
                                      j30 (ByteArray.toList s31 == ByteArray.toList s32) w21)
                                   (j30 false w21)))))
                    (fun j33 =>
                     cond (decide (n10 < (32 : Int)))
                       (∃ m34 : Nat, ((Go.CW.sliceLen v5) = (some m34)) ∧
                         j33 (decide ((IntKind.wrap .i64 ((Int.tmod p1 (IntKind.wrap .i64 ((8 : Int) * ((m7 : Nat) : Int)))) + n10)) < (IntKind.wrap .i64 ((8 : Int) * ((m34 : Nat) : Int))))) w11)
                       (j33 false w11)))
                 (fun s35 => s35 false (0 : Int) w6))))
        (fun j36 =>
         ∃ m37 : Nat, ((Go.CW.sliceLen p0) = (some m37)) ∧
          cond (decide (((m37 : Nat) : Int) > (3000 : Int)))
            (j36 true w1)
            (j36 (decide (p1 < (0 : Int))) w1)))

theorem gemellaw2_CrcFlips_wp (p0 : Value) (p1 : Int) (p2 : Int) (w : World) (R : KV) (h : gemellaw2_CrcFlips_F p0 p1 p2 w R) : Go.CW.Spec Try.prog 4 #[p0, (.int .i64 p1), (.int .u32 p2)] w R :=
  spec_of Try.func4 (by kernel_rfl) (show gemellaw2_CrcFlips_F p0 p1 p2 w R = _ by kernel_rfl) h

/-- gemel/gemellaw2.CrcMixes -/
def gemellaw2_CrcMixes_F (p0 : Value) (p1 : Value) (w : World) (R : KV) : Prop :=
 Go.CW.Spec Try.prog 8 #[] w fun v0 w1 =>
  ∃ b2 : Bool, ((v0 : Value) = (.bool b2)) ∧
   cond (!b2)
     (R (.bool false) w1)
     (JoinP [.bool]
        (fun (b3 : Bool) => fun (w4 : World) =>
         cond b3
           (R (.bool true) w4)
           (∃ m5 : Nat, ((Go.CW.sliceLen p0) = (some m5)) ∧
             ∃ v6 : Value, ∃ w7 : World, ((Sem.run @Go.Proofs.Try.prog (Go.Instr.makeSlice 22 (.int .i64 ((m5 : Nat) : Int)) (.int .i64 ((m5 : Nat) : Int))) w4) = (.ok v6 w7)) ∧
               LoopP [.int .i64]
                 (fun j8 => fun (n9 : Int) => fun (w10 : World) =>
                  ∃ m11 : Nat, ((Go.CW.sliceLen p0) = (some m11)) ∧
                   cond (decide (n9 < ((m11 : Nat) : Int)))
                     (∃ a12 : Addr, ((Go.CW.sliceAt p0 n9 1) = (some a12)) ∧
                       ∃ n13 : Int, ((Go.World.cell? (World.drew w10) a12) = (some (.int .u8 n13))) ∧
                        ∃ a14 : Addr, ((Go.CW.sliceAt p1 n9 1) = (some a14)) ∧
                         ∃ n15 : Int, ((Go.World.cell? (World.drew w10) a14) = (some (.int .u8 n15))) ∧
                          ∃ a16 : Addr, ((Go.CW.sliceAt v6 n9 1) = (some a16)) ∧
                           (St1 (World.drew w10) a16) ∧
                           j8 (IntKind.wrap .i64 (n9 + (1 : Int))) (World.setCell (World.drew w10) a16 (.int .u8 (bitsI .xor .u8 n13 n15))))
                     (JoinP [.bool]
                        (fun (b17 : Bool) => fun (w18 : World) =>
                         R (.bool b17) w18)
                        (fun j19 =>
                         ∃ m20 : Nat, ((Go.CW.sliceLen p0) = (some m20)) ∧
                          ∃ v21 : Value, ((Go.CW.subSlice p1 1 none (some (.int .i64 ((m20 : Nat) : Int))) none) = (some v21)) ∧
                           ∃ m22 : Nat, ((Go.CW.sliceLen p0) = (some m22)) ∧
                            (Go.CW.Spec Try.prog 12 #[v6] (World.drew w10) fun v23 w24 =>
                             ∃ n25 : Int, ((v23 : Value) = (.int .u32 n25)) ∧
                              (Go.CW.Spec Try.prog 12 #[p0] w24 fun v26 w27 =>
                               ∃ n28 : Int, ((v26 : Value) = (.int .u32 n28)) ∧
                                (Go.CW.Spec Try.prog 12 #[v21] w27 fun v29 w30 =>
                                 ∃ n31 : Int, ((v29 : Value) = (.int .u32 n31)) ∧
                                  ∃ v32 : Value, ∃ w33 : World, ((Sem.run @Go.Proofs.Try.prog (Go.Instr.makeSlice 22 (.int .i64 ((m22 : Nat) : Int)) (.int .i64 ((m22 : Nat) : Int))) w30) = (.ok v32 w33)) ∧
                                    Go.CW.Spec Try.prog 12 #[v32] w33 fun v34 w35 =>
                                     ∃ n36 : Int, ((v34 : Value) = (.int .u32 n36)) ∧
                                      j19 (n25 == (bitsI .xor .u32 (bitsI .xor .u32 n28 n31) n36)) w35) ∧
                                ∃ v37 : Value, ∃ w38 : World, ((Sem.run @Go.Proofs.Try.prog (Go.Instr.makeSlice 22 (.int .i64 ((m22 : Nat) : Int)) (.int .i64 ((m22 : Nat) : Int))) w27) = (.ok v37 w38)) ∧
                                  Go.CW.Spec Try.prog 12 #[v21] w38 fun v39 w40 =>
                                   ∃ n41 : Int, ((v39 : Value) = (.int .u32 n41)) ∧
                                    Go.CW.Spec Try.prog 12 #[v37] w40 fun v42 w43 =>
                                     ∃ n44 : Int, ((v42 : Value) = (.int .u32 n44)) ∧
                                      j19 (n25 == (bitsI .xor .u32 (bitsI .xor .u32 n28 n41) n44)) w43) ∧
                              ∃ v45 : Value, ∃ w46 : World, ((Sem.run @Go.Proofs.Try.prog (Go.Instr.makeSlice 22 (.int .i64 ((m22 : Nat) : Int)) (.int .i64 ((m22 : Nat) : Int))) w24) = (.ok v45 w46)) ∧
                                Go.CW.Spec Try.prog 12 #[p0] w46 fun v47 w48 =>
                                 ∃ n49 : Int, ((v47 : Value) = (.int .u32 n49)) ∧
                                  Go.CW.Spec Try.prog 12 #[v21] w48 fun v50 w51 =>
                                   ∃ n52 : Int, ((v50 : Value) = (.int .u32 n52)) ∧
                                    Go.CW.Spec Try.prog 12 #[v45] w51 fun v53 w54 =>
                                     ∃ n55 : Int, ((v53 : Value) = (.int .u32 n55)) ∧
                                      j19 (n25 == (bitsI .xor .u32 (bitsI .xor .u32 n49 n52) n55)) w54) ∧
                            ∃ v56 : Value, ∃ w57 : World, ((Sem.run @Go.Proofs.Try.prog (Go.Instr.makeSlice 22 (.int .i64 ((m22 : Nat) : Int)) (.int .i64 ((m22 : Nat) : Int))) (World.drew w10)) = (.ok v56 w57)) ∧
                              Go.CW.Spec Try.prog 12 #[v6] w57 fun v58 w59 =>
                               ∃ n60 : Int, ((v58 : Value) = (.int .u32 n60)) ∧
                                Go.CW.Spec Try.prog 12 #[p0] w59 fun v61 w62 =>
                                 ∃ n63 : Int, ((v61 : Value) = (.int .u32 n63)) ∧
                                  Go.CW.Spec Try.prog 12 #[v21] w62 fun v64 w65 =>
                                   ∃ n66 : Int, ((v64 : Value) = (.int .u32 n66)) ∧
                                    Go.CW.Spec Try.prog 12 #[v56] w65 fun v67 w68 =>
                                     ∃ n69 : Int, ((v67 : Value) = (.int .u32 n69)) ∧
                                      j19 (n60 == (bitsI .xor .u32 (bitsI .xor .u32 n63 n66) n69)) w68)))
                 (fun s70 => s70 (0 : Int) w7)))
        (fun j71 =>
         ∃ m72 : Nat, ((Go.CW.sliceLen p0) = (some m72)) ∧
          cond (decide (((m72 : Nat) : Int) > (3000 : Int)))
            (j71 true w1)
            (∃ m73 : Nat, ((Go.CW.sliceLen p1) = (some m73)) ∧
              ∃ m74 : Nat, ((Go.CW.sliceLen p0) = (some m74)) ∧
               j71 (decide (((m73 : Nat) : Int) < ((m74 : Nat) : Int))) w1)))

theorem gemellaw2_CrcMixes_wp (p0 : Value) (p1 : Value) (w : World) (R : KV) (h : gemellaw2_CrcMixes_F p0 p1 w R) : Go.CW.Spec Try.prog 5 #[p0, p1] w R :=
  spec_of Try.func5 (by kernel_rfl) (show gemellaw2_CrcMixes_F p0 p1 w R = _ by kernel_rfl) h

/-- gemel/gemellaw2.CrcRows -/
def gemellaw2_CrcRows_F (p0 : Value) (w : World) (R : KV) : Prop :=
 Go.CW.Spec Try.prog 8 #[] w fun v0 w1 =>
  ∃ b2 : Bool, ((v0 : Value) = (.bool b2)) ∧
   cond (!b2)
     (R (.bool false) w1)
     (∃ m3 : Nat, ((Go.CW.sliceLen p0) = (some m3)) ∧
       cond (decide (((m3 : Nat) : Int) > (30 : Int)))
         (R (.bool true) w1)
         (Go.CW.Spec Try.prog 12 #[(.slice none 0 0)] w1 fun v4 w5 =>
           ∃ n6 : Int, ((v4 : Value) = (.int .u32 n6)) ∧
            LoopP [.int .u32, .val, .int .i64]
              (fun j7 => fun (n8 : Int) => fun (v9 : Value) => fun (n10 : Int) => fun (w11 : World) =>
               ∃ m12 : Nat, ((Go.CW.sliceLen p0) = (some m12)) ∧
                cond (decide (n10 < ((m12 : Nat) : Int)))
                  (∃ a13 : Addr, ((Go.CW.sliceAt p0 n10 1) = (some a13)) ∧
                    ∃ v14 : Value, ((Go.World.cell? w11 a13) = (some v14)) ∧
                     ∃ m15 : Nat, ((Go.CW.sliceLen v14) = (some m15)) ∧
                      cond (decide (((m15 : Nat) : Int) > (300 : Int)))
                        (R (.bool true) w11)
                        (∃ a16 : Addr, ((Go.CW.sliceAt p0 n10 1) = (some a16)) ∧
                          ∃ v17 : Value, ((Go.World.cell? w11 a16) = (some v17)) ∧
                           Go.CW.Spec Try.prog 14 #[(.int .u32 n8), v17] w11 fun v18 w19 =>
                            ∃ n20 : Int, ((v18 : Value) = (.int .u32 n20)) ∧
                             ∃ a21 : Addr, ((Go.CW.sliceAt p0 n10 1) = (some a21)) ∧
                              ∃ v22 : Value, ((Go.World.cell? w19 a21) = (some v22)) ∧
                               ∃ v23 : Value, ∃ w24 : World, ((Sem.run @Go.Proofs.Try.prog (Go.Builtin.append_ #[22, 22] 22 #[v9, v22]) w19) = (.ok v23 w24)) ∧
                                 Go.CW.Spec Try.prog 13 #[v23] w24 fun v25 w26 =>
                                  ∃ n27 : Int, ((v25 : Value) = (.int .u32 n27)) ∧
                                   cond (n20 != n27)
                                     (R (.bool false) w26)
                                     (j7 n20 v23 (IntKind.wrap .i64 (n10 + (1 : Int))) w26)))
                  (Go.CW.Spec Try.prog 11 #[v9] w11 fun v28 w29 =>
                    Go.CW.Spec Try.prog 11 #[v28] w29 fun v30 w31 =>
                     Go.CW.Spec Try.prog 9 #[v30] w31 fun v32 w33 =>
                      ∃ v34 : Value, ∃ n35 : Int, ((v32 : Value) = (.tuple #[v34, (.int .i64 n35)])) ∧
                        Go.CW.Spec Try.prog 9 #[v34] w33 fun v36 w37 =>
                         ∃ v38 : Value, ∃ n39 : Int, ((v36 : Value) = (.tuple #[v38, (.int .i64 n39)])) ∧
                           JoinP [.bool]
                             (fun (b40 : Bool) => fun (w41 : World) =>
                              R (.bool b40) w41)
                             (fun j42 =>
                              cond ((IntKind.wrap .i64 (n35 + n39)) == (0 : Int))
                                (∃ s43 : ByteArray, ((Sem.run @Go.Proofs.Try.prog (Go.convert 22 9 v38) w37) = (.ok (.string s43) w37)) ∧
                                  ∃ s44 : ByteArray, ((Sem.run @Go.Proofs.Try.prog (Go.convert 22 9 v9) w37) = (.ok (.string s44) w37)) ∧
                                   j42 (ByteArray.toList s43 == ByteArray.toList s44) w37)
                                (j42 false w37))))
              (fun s45 => s45 n6 (.slice none 0 0) (0 : Int) w5)))

theorem gemellaw2_CrcRows_wp (p0 : Value) (w : World) (R : KV) (h : gemellaw2_CrcRows_F p0 w R) : Go.CW.Spec Try.prog 6 #[p0] w R :=
  spec_of Try.func6 (by kernel_rfl) (show gemellaw2_CrcRows_F p0 w R = _ by kernel_rfl) h

/-- gemel/gemellaw2.CrcCuts -/
def gemellaw2_CrcCuts_F (p0 : Value) (w : World) (R : KV) : Prop :=
 Go.CW.Spec Try.prog 8 #[] w fun v0 w1 =>
  ∃ b2 : Bool, ((v0 : Value) = (.bool b2)) ∧
   cond (!b2)
     (R (.bool false) w1)
     (∃ m3 : Nat, ((Go.CW.sliceLen p0) = (some m3)) ∧
       cond (decide (((m3 : Nat) : Int) > (3000 : Int)))
         (R (.bool true) w1)
         (Go.CW.Spec Try.prog 11 #[p0] w1 fun v4 w5 =>
           ∃ m6 : Nat, ((Go.CW.sliceLen p0) = (some m6)) ∧
            JoinP [.int .i64]
              (fun (n7 : Int) => fun (w8 : World) =>
               ∃ v9 : Value, ((Go.CW.subSlice p0 1 none (some (.int .i64 n7)) none) = (some v9)) ∧
                Go.CW.Spec Try.prog 9 #[v9] w8 fun v10 w11 =>
                 ∃ v12 : Value, ∃ n13 : Int, ((v10 : Value) = (.tuple #[v12, (.int .i64 n13)])) ∧
                   JoinP [.bool]
                     (fun (b14 : Bool) => fun (w15 : World) =>
                      R (.bool b14) w15)
                     (fun j16 =>
                      ∃ m17 : Nat, ((Go.CW.sliceLen v4) = (some m17)) ∧
                       ∃ m18 : Nat, ((Go.CW.sliceLen p0) = (some m18)) ∧
                        cond (((m17 : Nat) : Int) == (IntKind.wrap .i64 (((m18 : Nat) : Int) + (4 : Int))))
                          (∃ m19 : Nat, ((Go.CW.sliceLen p0) = (some m19)) ∧
                            ∃ v20 : Value, ((Go.CW.subSlice v4 1 none (some (.int .i64 ((m19 : Nat) : Int))) none) = (some v20)) ∧
                             ∃ s21 : ByteArray, ((Sem.run @Go.Proofs.Try.prog (Go.convert 22 9 v20) (World.drew w11)) = (.ok (.string s21) (World.drew w11))) ∧
                              ∃ s22 : ByteArray, ((Sem.run @Go.Proofs.Try.prog (Go.convert 22 9 p0) (World.drew w11)) = (.ok (.string s22) (World.drew w11))) ∧
                               cond (ByteArray.toList s21 == ByteArray.toList s22)
                                 (cond (n13 == (3 : Int))
                                    (∃ m23 : Nat, ((Go.CW.sliceLen v12) = (some m23)) ∧
                                      j16 (((m23 : Nat) : Int) == (0 : Int)) (World.drew w11))
                                    (j16 false (World.drew w11)))
                                 (j16 false (World.drew w11)))
                          (j16 false (World.drew w11))))
              (fun j24 =>
               cond (decide (((m6 : Nat) : Int) > (3 : Int)))
                 (j24 (3 : Int) w5)
                 (j24 ((m6 : Nat) : Int) w5))))

theorem gemellaw2_CrcCuts_wp (p0 : Value) (w : World) (R : KV) (h : gemellaw2_CrcCuts_F p0 w R) : Go.CW.Spec Try.prog 7 #[p0] w R :=
  spec_of Try.func7 (by kernel_rfl) (show gemellaw2_CrcCuts_F p0 w R = _ by kernel_rfl) h

/-- gemel/gemellaw2.known -/
def gemellaw2_known_F  (w : World) (R : KV) : Prop :=
 ∃ v0 : Value, ∃ w1 : World, ((Sem.run @Go.Proofs.Try.prog (Go.convert 22 22 (.slice (some ⟨(Array.size (World.heap w)), 0, none⟩) 9 9)) (World.alloc w (.cells #[(.int .u8 (49 : Int)), (.int .u8 (50 : Int)), (.int .u8 (51 : Int)), (.int .u8 (52 : Int)), (.int .u8 (53 : Int)), (.int .u8 (54 : Int)), (.int .u8 (55 : Int)), (.int .u8 (56 : Int)), (.int .u8 (57 : Int))] 5))) = (.ok v0 w1)) ∧
   Go.CW.Spec Try.prog 11 #[v0] w1 fun v2 w3 =>
    Go.CW.Spec Try.prog 9 #[v2] w3 fun v4 w5 =>
     ∃ v6 : Value, ∃ n7 : Int, ((v4 : Value) = (.tuple #[v6, (.int .i64 n7)])) ∧
       JoinP [.bool]
         (fun (b8 : Bool) => fun (w9 : World) =>
          R (.bool b8) w9)
         (fun j10 =>
          Go.CW.Spec Try.prog 12 #[v0] (World.drew w5) fun v11 w12 =>
           ∃ n13 : Int, ((v11 : Value) = (.int .u32 n13)) ∧
            cond (n13 == (3808858755 : Int))
              (Go.CW.Spec Try.prog 12 #[(.slice none 0 0)] w12 fun v14 w15 =>
                ∃ n16 : Int, ((v14 : Value) = (.int .u32 n16)) ∧
                 cond (n16 == (0 : Int))
                   (cond (n7 == (0 : Int))
                      (∃ s17 : ByteArray, ((Sem.run @Go.Proofs.Try.prog (Go.convert 22 9 v6) w15) = (.ok (.string s17) w15)) ∧
                        ∃ s18 : ByteArray, ((Sem.run @Go.Proofs.Try.prog (Go.convert 22 9 v0) w15) = (.ok (.string s18) w15)) ∧
                         cond (ByteArray.toList s17 == ByteArray.toList s18)
                           (∃ v19 : Value, ((Go.CW.subSlice v0 1 none (some (.int .i64 (4 : Int))) none) = (some v19)) ∧
                             ∃ v20 : Value, ((Go.CW.subSlice v0 1 (some (.int .i64 (4 : Int))) none none) = (some v20)) ∧
                              Go.CW.Spec Try.prog 12 #[v19] w15 fun v21 w22 =>
                               ∃ n23 : Int, ((v21 : Value) = (.int .u32 n23)) ∧
                                Go.CW.Spec Try.prog 14 #[(.int .u32 n23), v20] w22 fun v24 w25 =>
                                 ∃ n26 : Int, ((v24 : Value) = (.int .u32 n26)) ∧
                                  Go.CW.Spec Try.prog 12 #[v0] w25 fun v27 w28 =>
                                   ∃ n29 : Int, ((v27 : Value) = (.int .u32 n29)) ∧
                                    j10 (n26 == n29) w28)
                           (j10 false w15))
                      (j10 false w15))
                   (j10 false w15))
              (j10 false w12))

theorem gemellaw2_known_wp  (w : World) (R : KV) (h : gemellaw2_known_F  w R) : Go.CW.Spec Try.prog 8 #[] w R :=
  spec_of Try.func8 (by kernel_rfl) (show gemellaw2_known_F  w R = _ by kernel_rfl) h

/-- gemel/crc.Open -/
def crc_Open_F (p0 : Value) (w : World) (R : KV) : Prop :=
 ∃ m0 : Nat, ((Go.CW.sliceLen p0) = (some m0)) ∧
  cond (decide (((m0 : Nat) : Int) < (4 : Int)))
    (R (.tuple #[(.slice none 0 0), (.int .i64 (3 : Int))]) w)
    (∃ m1 : Nat, ((Go.CW.sliceLen p0) = (some m1)) ∧
      ∃ v2 : Value, ((Go.CW.subSlice p0 1 none (some (.int .i64 (IntKind.wrap .i64 (((m1 : Nat) : Int) - (4 : Int))))) none) = (some v2)) ∧
       ∃ m3 : Nat, ((Go.CW.sliceLen v2) = (some m3)) ∧
        ∃ v4 : Value, ((Go.CW.subSlice p0 1 (some (.int .i64 ((m3 : Nat) : Int))) none none) = (some v4)) ∧
         Go.CW.Spec Try.prog 12 #[v2] (World.drew w) fun v5 w6 =>
          ∃ n7 : Int, ((v5 : Value) = (.int .u32 n7)) ∧
           Go.CW.Spec Try.prog 18 #[(.slice none 0 0), (.int .u32 n7)] w6 fun v8 w9 =>
            Go.CW.Spec Try.prog 17 #[v8, v4] w9 fun v10 w11 =>
             ∃ b12 : Bool, ((v10 : Value) = (.bool b12)) ∧
              cond (!b12)
                (R (.tuple #[(.slice none 0 0), (.int .i64 (4 : Int))]) w11)
                (Go.CW.Spec Try.prog 20 #[v2] w11 fun v13 w14 =>
                  Go.CW.Spec Try.prog 19 #[v13] w14 fun v15 w16 =>
                   R (.tuple #[v15, (.int .i64 (0 : Int))]) w16))

theorem crc_Open_wp (p0 : Value) (w : World) (R : KV) (h : crc_Open_F p0 w R) : Go.CW.Spec Try.prog 9 #[p0] w R :=
  spec_of Try.func9 (by kernel_rfl) (show crc_Open_F p0 w R = _ by kernel_rfl) h

/-- gemel/gemelref2.Open -/
def gemelref2_Open_F (p0 : Value) (w : World) (R : KV) : Prop :=
 ∃ m0 : Nat, ((Go.CW.sliceLen p0) = (some m0)) ∧
  cond (decide (((m0 : Nat) : Int) < (4 : Int)))
    (R (.tuple #[(.slice none 0 0), (.int .i64 (3 : Int))]) w)
    (∃ m1 : Nat, ((Go.CW.sliceLen p0) = (some m1)) ∧
      ∃ v2 : Value, ((Go.CW.subSlice p0 1 none (some (.int .i64 (IntKind.wrap .i64 (((m1 : Nat) : Int) - (4 : Int))))) none) = (some v2)) ∧
       ∃ m3 : Nat, ((Go.CW.sliceLen p0) = (some m3)) ∧
        ∃ v4 : Value, ((Go.CW.subSlice p0 1 (some (.int .i64 (IntKind.wrap .i64 (((m3 : Nat) : Int) - (4 : Int))))) none none) = (some v4)) ∧
         ∃ s5 : ByteArray, ((Sem.run @Go.Proofs.Try.prog (Go.convert 22 9 v4) (World.drew w)) = (.ok (.string s5) (World.drew w))) ∧
          Go.CW.Spec Try.prog 13 #[v2] (World.drew w) fun v6 w7 =>
           ∃ n8 : Int, ((v6 : Value) = (.int .u32 n8)) ∧
            (∃ s9 : ByteArray, ((Sem.run @Go.Proofs.Try.prog (Go.convert 22 9 v4) w7) = (.ok (.string s9) w7)) ∧
             ((.string s9) : Value) = (.string s5)) ∧
            Go.CW.Spec Try.prog 21 #[(.int .u32 n8)] w7 fun v10 w11 =>
             (∃ s12 : ByteArray, ((Sem.run @Go.Proofs.Try.prog (Go.convert 22 9 v4) w11) = (.ok (.string s12) w11)) ∧
              ((.string s12) : Value) = (.string s5)) ∧
             ∃ s13 : ByteArray, ((Sem.run @Go.Proofs.Try.prog (Go.convert 22 9 v10) w11) = (.ok (.string s13) w11)) ∧
              cond (!(ByteArray.toList s13 == ByteArray.toList s5))
                (R (.tuple #[(.slice none 0 0), (.int .i64 (4 : Int))]) w11)
                (∃ v14 : Value, ∃ w15 : World, ((Sem.run @Go.Proofs.Try.prog (Go.Builtin.append_ #[22, 22] 22 #[(.slice (some ⟨(Array.size (World.heap w11)), 0, none⟩) 0 0), v2]) (World.alloc w11 (.cells #[] 5))) = (.ok v14 w15)) ∧
                   R (.tuple #[v14, (.int .i64 (0 : Int))]) w15))

theorem gemelref2_Open_wp (p0 : Value) (w : World) (R : KV) (h : gemelref2_Open_F p0 w R) : Go.CW.Spec Try.prog 10 #[p0] w R :=
  spec_of Try.func10 (by kernel_rfl) (show gemelref2_Open_F p0 w R = _ by kernel_rfl) h

/-- gemel/crc.Seal -/
def crc_Seal_F (p0 : Value) (w : World) (R : KV) : Prop :=
 Go.CW.Spec Try.prog 20 #[p0] w fun v0 w1 =>
  Go.CW.Spec Try.prog 12 #[p0] w1 fun v2 w3 =>
   ∃ n4 : Int, ((v2 : Value) = (.int .u32 n4)) ∧
    Go.CW.Spec Try.prog 18 #[v0, (.int .u32 n4)] w3 fun v5 w6 =>
     Go.CW.Spec Try.prog 19 #[v5] w6 fun v7 w8 =>
      R v7 w8

theorem crc_Seal_wp (p0 : Value) (w : World) (R : KV) (h : crc_Seal_F p0 w R) : Go.CW.Spec Try.prog 11 #[p0] w R :=
  spec_of Try.func11 (by kernel_rfl) (show crc_Seal_F p0 w R = _ by kernel_rfl) h

/-- gemel/crc.Sum -/
def crc_Sum_F (p0 : Value) (w : World) (R : KV) : Prop :=
 Go.CW.Spec Try.prog 14 #[(.int .u32 (0 : Int)), p0] w fun v0 w1 =>
  ∃ n2 : Int, ((v0 : Value) = (.int .u32 n2)) ∧
   R (.int .u32 n2) w1

theorem crc_Sum_wp (p0 : Value) (w : World) (R : KV) (h : crc_Sum_F p0 w R) : Go.CW.Spec Try.prog 12 #[p0] w R :=
  spec_of Try.func12 (by kernel_rfl) (show crc_Sum_F p0 w R = _ by kernel_rfl) h

/-- gemel/gemelref2.Sum -/
def gemelref2_Sum_F (p0 : Value) (w : World) (R : KV) : Prop :=
 Go.CW.Spec Try.prog 15 #[(.int .u32 (0 : Int)), p0] w fun v0 w1 =>
  ∃ n2 : Int, ((v0 : Value) = (.int .u32 n2)) ∧
   R (.int .u32 n2) w1

theorem gemelref2_Sum_wp (p0 : Value) (w : World) (R : KV) (h : gemelref2_Sum_F p0 w R) : Go.CW.Spec Try.prog 13 #[p0] w R :=
  spec_of Try.func13 (by kernel_rfl) (show gemelref2_Sum_F p0 w R = _ by kernel_rfl) h

/-- gemel/crc.More -/
def crc_More_F (p0 : Int) (p1 : Value) (w : World) (R : KV) : Prop :=
 Go.CW.Spec Try.prog 23 #[] w fun v0 w1 =>
  ∃ n2 : Int, ∃ n3 : Int, ∃ n4 : Int, ∃ n5 : Int, ∃ n6 : Int, ∃ n7 : Int, ∃ n8 : Int, ∃ n9 : Int, ∃ n10 : Int, ∃ n11 : Int, ∃ n12 : Int, ∃ n13 : Int, ∃ n14 : Int, ∃ n15 : Int, ∃ n16 : Int, ∃ n17 : Int, ((v0 : Value) = (.agg #[(.int .u32 n2), (.int .u32 n3), (.int .u32 n4), (.int .u32 n5), (.int .u32 n6), (.int .u32 n7), (.int .u32 n8), (.int .u32 n9), (.int .u32 n10), (.int .u32 n11), (.int .u32 n12), (.int .u32 n13), (.int .u32 n14), (.int .u32 n15), (.int .u32 n16), (.int .u32 n17)])) ∧
                  Go.CW.Spec Try.prog 22 #[(.agg #[(.int .u32 n2), (.int .u32 n3), (.int .u32 n4), (.int .u32 n5), (.int .u32 n6), (.int .u32 n7), (.int .u32 n8), (.int .u32 n9), (.int .u32 n10), (.int .u32 n11), (.int .u32 n12), (.int .u32 n13), (.int .u32 n14), (.int .u32 n15), (.int .u32 n16), (.int .u32 n17)]), (.int .u32 p0), p1] w1 fun v18 w19 =>
                   ∃ n20 : Int, ((v18 : Value) = (.int .u32 n20)) ∧
                    R (.int .u32 n20) w19

theorem crc_More_wp (p0 : Int) (p1 : Value) (w : World) (R : KV) (h : crc_More_F p0 p1 w R) : Go.CW.Spec Try.prog 14 #[(.int .u32 p0), p1] w R :=
  spec_of Try.func14 (by kernel_rfl) (show crc_More_F p0 p1 w R = _ by kernel_rfl) h

/-- gemel/gemelref2.More -/
def gemelref2_More_F (p0 : Int) (p1 : Value) (w : World) (R : KV) : Prop :=
 LoopP [.int .u32, .int .i64]
   (fun j0 => fun (n1 : Int) => fun (n2 : Int) => fun (w3 : World) =>
    ∃ m4 : Nat, ((Go.CW.sliceLen p1) = (some m4)) ∧
     cond (decide (n2 < ((m4 : Nat) : Int)))
       (∃ a5 : Addr, ((Go.CW.sliceAt p1 n2 1) = (some a5)) ∧
         ∃ n6 : Int, ((Go.World.cell? w3 a5) = (some (.int .u8 n6))) ∧
          LoopP [.int .u32, .int .i64]
            (fun j7 => fun (n8 : Int) => fun (n9 : Int) => fun (w10 : World) =>
             cond (decide (n9 < (8 : Int)))
               (JoinP [.int .u32]
                  (fun (n11 : Int) => fun (w12 : World) =>
                   j7 n11 (IntKind.wrap .i64 (n9 + (1 : Int))) w12)
                  (fun j13 =>
                   cond ((bitsI .and .u32 n8 (1 : Int)) == (1 : Int))
                     (j13 (bitsI .xor .u32 (Int.fdiv n8 (2 : Int)) (2197175160 : Int)) w10)
                     (j13 (Int.fdiv n8 (2 : Int)) w10)))
               (j0 n8 (IntKind.wrap .i64 (n2 + (1 : Int))) w10))
            (fun s14 => s14 (bitsI .xor .u32 n1 (IntKind.wrap .u32 n6)) (0 : Int) w3))
       (R (.int .u32 (bitsI .xor .u32 (4294967295 : Int) n1)) w3))
   (fun s15 => s15 (bitsI .xor .u32 (4294967295 : Int) p0) (0 : Int) w)

theorem gemelref2_More_wp (p0 : Int) (p1 : Value) (w : World) (R : KV) (h : gemelref2_More_F p0 p1 w R) : Go.CW.Spec Try.prog 15 #[(.int .u32 p0), p1] w R :=
  spec_of Try.func15 (by kernel_rfl) (show gemelref2_More_F p0 p1 w R = _ by kernel_rfl) h

/-- gemel/gemelref2.Seal -/
def gemelref2_Seal_F (p0 : Value) (w : World) (R : KV) : Prop :=
 ∃ v0 : Value, ∃ w1 : World, ((Sem.run @Go.Proofs.Try.prog (Go.Builtin.append_ #[22, 22] 22 #[(.slice (some ⟨(Array.size (World.heap w)), 0, none⟩) 0 0), p0]) (World.alloc w (.cells #[] 5))) = (.ok v0 w1)) ∧
   Go.CW.Spec Try.prog 13 #[p0] w1 fun v2 w3 =>
    ∃ n4 : Int, ((v2 : Value) = (.int .u32 n4)) ∧
     Go.CW.Spec Try.prog 21 #[(.int .u32 n4)] w3 fun v5 w6 =>
      ∃ v7 : Value, ∃ w8 : World, ((Sem.run @Go.Proofs.Try.prog (Go.Builtin.append_ #[22, 22] 22 #[v0, v5]) w6) = (.ok v7 w8)) ∧
        R v7 w8

theorem gemelref2_Seal_wp (p0 : Value) (w : World) (R : KV) (h : gemelref2_Seal_F p0 w R) : Go.CW.Spec Try.prog 16 #[p0] w R :=
  spec_of Try.func16 (by kernel_rfl) (show gemelref2_Seal_F p0 w R = _ by kernel_rfl) h

/-- slices.Equal[[]byte,byte] -/
def slices_Equal___F (p0 : Value) (p1 : Value) (w : World) (R : KV) : Prop :=
 ∃ m0 : Nat, ((Go.CW.sliceLen p0) = (some m0)) ∧
  ∃ m1 : Nat, ((Go.CW.sliceLen p1) = (some m1)) ∧
   cond (((m0 : Nat) : Int) != ((m1 : Nat) : Int))
     (R (.bool false) w)
     (∃ m2 : Nat, ((Go.CW.sliceLen p0) = (some m2)) ∧
       LoopP [.int .i64]
         (fun j3 => fun (n4 : Int) => fun (w5 : World) =>
          cond (decide (n4 < ((m2 : Nat) : Int)))
            (∃ a6 : Addr, ((Go.CW.sliceAt p0 n4 1) = (some a6)) ∧
              ∃ n7 : Int, ((Go.World.cell? (World.drew w5) a6) = (some (.int .u8 n7))) ∧
               ∃ a8 : Addr, ((Go.CW.sliceAt p1 n4 1) = (some a8)) ∧
                ∃ n9 : Int, ((Go.World.cell? (World.drew w5) a8) = (some (.int .u8 n9))) ∧
                 cond (n7 != n9)
                   (R (.bool false) (World.drew w5))
                   (j3 (IntKind.wrap .i64 (n4 + (1 : Int))) (World.drew w5)))
            (R (.bool true) w5))
         (fun s10 => s10 (0 : Int) w))

theorem slices_Equal___wp (p0 : Value) (p1 : Value) (w : World) (R : KV) (h : slices_Equal___F p0 p1 w R) : Go.CW.Spec Try.prog 17 #[p0, p1] w R :=
  spec_of Try.func17 (by kernel_rfl) (show slices_Equal___F p0 p1 w R = _ by kernel_rfl) h

/-- gemel/crc.low -/
def crc_low_F (p0 : Value) (p1 : Int) (w : World) (R : KV) : Prop :=
 ∃ v0 : Value, ∃ w1 : World, ((Sem.run @Go.Proofs.Try.prog (Go.Builtin.append_ #[22, 22] 22 #[p0, (.slice (some ⟨(Array.size (World.heap w)), 0, none⟩) 4 4)]) (World.alloc w (.cells #[(.int .u8 (IntKind.wrap .u8 p1)), (.int .u8 (IntKind.wrap .u8 (Int.fdiv p1 (256 : Int)))), (.int .u8 (IntKind.wrap .u8 (Int.fdiv p1 (65536 : Int)))), (.int .u8 (IntKind.wrap .u8 (Int.fdiv p1 (16777216 : Int))))] 5))) = (.ok v0 w1)) ∧
   R v0 w1

theorem crc_low_wp (p0 : Value) (p1 : Int) (w : World) (R : KV) (h : crc_low_F p0 p1 w R) : Go.CW.Spec Try.prog 18 #[p0, (.int .u32 p1)] w R :=
  spec_of Try.func18 (by kernel_rfl) (show crc_low_F p0 p1 w R = _ by kernel_rfl) h

/-- slices.Clip[[]byte,byte] -/
def slices_Clip___F (p0 : Value) (w : World) (R : KV) : Prop :=
 ∃ m0 : Nat, ((Go.CW.sliceLen p0) = (some m0)) ∧
  ∃ m1 : Nat, ((Go.CW.sliceLen p0) = (some m1)) ∧
   ∃ v2 : Value, ((Go.CW.subSlice p0 1 none (some (.int .i64 ((m0 : Nat) : Int))) (some (.int .i64 ((m1 : Nat) : Int)))) = (some v2)) ∧
    R v2 w

theorem slices_Clip___wp (p0 : Value) (w : World) (R : KV) (h : slices_Clip___F p0 w R) : Go.CW.Spec Try.prog 19 #[p0] w R :=
  spec_of Try.func19 (by kernel_rfl) (show slices_Clip___F p0 w R = _ by kernel_rfl) h

/-- slices.Clone[[]byte,byte] -/
def slices_Clone___F (p0 : Value) (w : World) (R : KV) : Prop :=
 ∃ b0 : Bool, ((Go.CW.isNilS p0) = (some b0)) ∧
  cond b0
    (R (.slice none 0 0) w)
    (∃ v1 : Value, ∃ w2 : World, ((Sem.run @Go.Proofs.Try.prog (Go.Builtin.append_ #[22, 22] 22 #[(.slice (some ⟨(Array.size (World.heap w)), 0, none⟩) 0 0), p0]) (World.alloc w (.cells #[] 5))) = (.ok v1 w2)) ∧
       R v1 w2)

theorem slices_Clone___wp (p0 : Value) (w : World) (R : KV) (h : slices_Clone___F p0 w R) : Go.CW.Spec Try.prog 20 #[p0] w R :=
  spec_of Try.func20 (by kernel_rfl) (show slices_Clone___F p0 w R = _ by kernel_rfl) h

/-- gemel/gemelref2.Four -/
def gemelref2_Four_F (p0 : Int) (w : World) (R : KV) : Prop :=
 R (.slice (some ⟨(Array.size (World.heap w)), 0, none⟩) 4 4) (World.alloc w (.cells #[(.int .u8 (IntKind.wrap .u8 p0)), (.int .u8 (IntKind.wrap .u8 (Int.fdiv p0 (256 : Int)))), (.int .u8 (IntKind.wrap .u8 (Int.fdiv p0 (65536 : Int)))), (.int .u8 (IntKind.wrap .u8 (Int.fdiv p0 (16777216 : Int))))] 5))

theorem gemelref2_Four_wp (p0 : Int) (w : World) (R : KV) (h : gemelref2_Four_F p0 w R) : Go.CW.Spec Try.prog 21 #[(.int .u32 p0)] w R :=
  spec_of Try.func21 (by kernel_rfl) (show gemelref2_Four_F p0 w R = _ by kernel_rfl) h

/-- gemel/crc.run -/
def crc_run_F (p0_0 : Int) (p0_1 : Int) (p0_2 : Int) (p0_3 : Int) (p0_4 : Int) (p0_5 : Int) (p0_6 : Int) (p0_7 : Int) (p0_8 : Int) (p0_9 : Int) (p0_10 : Int) (p0_11 : Int) (p0_12 : Int) (p0_13 : Int) (p0_14 : Int) (p0_15 : Int) (p1 : Int) (p2 : Value) (w : World) (R : KV) : Prop :=
 ∃ m0 : Nat, ((Go.CW.sliceLen p2) = (some m0)) ∧
  LoopP [.int .u32, .int .i64]
    (fun j1 => fun (n2 : Int) => fun (n3 : Int) => fun (w4 : World) =>
     cond (decide (n3 < ((m0 : Nat) : Int)))
       (∃ a5 : Addr, ((Go.CW.sliceAt p2 n3 1) = (some a5)) ∧
         ∃ n6 : Int, ((Go.World.cell? w4 a5) = (some (.int .u8 n6))) ∧
          (inR (bitsI .and .u32 (bitsI .xor .u32 n2 (IntKind.wrap .u32 n6)) (15 : Int)) 16) ∧
          ∃ n7 : Int, ((Go.World.cell? w4 (Addr.add ⟨(Array.size (World.heap w)), 0, none⟩ ((Int.toNat (bitsI .and .u32 (bitsI .xor .u32 n2 (IntKind.wrap .u32 n6)) (15 : Int))) * 1))) = (some (.int .u32 n7))) ∧
           (inR (bitsI .and .u32 (bitsI .xor .u32 (Int.fdiv (bitsI .xor .u32 n2 (IntKind.wrap .u32 n6)) (16 : Int)) n7) (15 : Int)) 16) ∧
           ∃ n8 : Int, ((Go.World.cell? w4 (Addr.add ⟨(Array.size (World.heap w)), 0, none⟩ ((Int.toNat (bitsI .and .u32 (bitsI .xor .u32 (Int.fdiv (bitsI .xor .u32 n2 (IntKind.wrap .u32 n6)) (16 : Int)) n7) (15 : Int))) * 1))) = (some (.int .u32 n8))) ∧
            j1 (bitsI .xor .u32 (Int.fdiv (bitsI .xor .u32 (Int.fdiv (bitsI .xor .u32 n2 (IntKind.wrap .u32 n6)) (16 : Int)) n7) (16 : Int)) n8) (IntKind.wrap .i64 (n3 + (1 : Int))) w4)
       (R (.int .u32 (bitsI .xor .u32 (4294967295 : Int) n2)) w4))
    (fun s9 => s9 (bitsI .xor .u32 (4294967295 : Int) p1) (0 : Int) (World.alloc w (.cells #[(.int .u32 p0_0), (.int .u32 p0_1), (.int .u32 p0_2), (.int .u32 p0_3), (.int .u32 p0_4), (.int .u32 p0_5), (.int .u32 p0_6), (.int .u32 p0_7), (.int .u32 p0_8), (.int .u32 p0_9), (.int .u32 p0_10), (.int .u32 p0_11), (.int .u32 p0_12), (.int .u32 p0_13), (.int .u32 p0_14), (.int .u32 p0_15)] 42)))

theorem crc_run_wp (p0_0 : Int) (p0_1 : Int) (p0_2 : Int) (p0_3 : Int) (p0_4 : Int) (p0_5 : Int) (p0_6 : Int) (p0_7 : Int) (p0_8 : Int) (p0_9 : Int) (p0_10 : Int) (p0_11 : Int) (p0_12 : Int) (p0_13 : Int) (p0_14 : Int) (p0_15 : Int) (p1 : Int) (p2 : Value) (w : World) (R : KV) (h : crc_run_F p0_0 p0_1 p0_2 p0_3 p0_4 p0_5 p0_6 p0_7 p0_8 p0_9 p0_10 p0_11 p0_12 p0_13 p0_14 p0_15 p1 p2 w R) : Go.CW.Spec Try.prog 22 #[(.agg #[(.int .u32 p0_0), (.int .u32 p0_1), (.int .u32 p0_2), (.int .u32 p0_3), (.int .u32 p0_4), (.int .u32 p0_5), (.int .u32 p0_6), (.int .u32 p0_7), (.int .u32 p0_8), (.int .u32 p0_9), (.int .u32 p0_10), (.int .u32 p0_11), (.int .u32 p0_12), (.int .u32 p0_13), (.int .u32 p0_14), (.int .u32 p0_15)]), (.int .u32 p1), p2] w R :=
  spec_of Try.func22 (by kernel_rfl) (show crc_run_F p0_0 p0_1 p0_2 p0_3 p0_4 p0_5 p0_6 p0_7 p0_8 p0_9 p0_10 p0_11 p0_12 p0_13 p0_14 p0_15 p1 p2 w R = _ by kernel_rfl) h

/-- gemel/crc.table -/
def crc_table_F  (w : World) (R : KV) : Prop :=
 LoopP [.int .i64]
   (fun j0 => fun (n1 : Int) => fun (w2 : World) =>
    cond (decide (n1 < (16 : Int)))
      (LoopP [.int .u32, .int .i64]
         (fun j3 => fun (n4 : Int) => fun (n5 : Int) => fun (w6 : World) =>
          cond (decide (n5 < (4 : Int)))
            (j3 (bitsI .xor .u32 (Int.fdiv n4 (2 : Int)) (bitsI .and .u32 (IntKind.wrap .u32 ((0 : Int) - (bitsI .and .u32 n4 (1 : Int)))) (2197175160 : Int))) (IntKind.wrap .i64 (n5 + (1 : Int))) w6)
            ((inR n1 16) ∧
             (St1 w6 (Addr.add ⟨(Array.size (World.heap (World.alloc w (.cells #[(.int .u32 (0 : Int)), (.int .u32 (0 : Int)), (.int .u32 (0 : Int)), (.int .u32 (0 : Int)), (.int .u32 (0 : Int)), (.int .u32 (0 : Int)), (.int .u32 (0 : Int)), (.int .u32 (0 : Int)), (.int .u32 (0 : Int)), (.int .u32 (0 : Int)), (.int .u32 (0 : Int)), (.int .u32 (0 : Int)), (.int .u32 (0 : Int)), (.int .u32 (0 : Int)), (.int .u32 (0 : Int)), (.int .u32 (0 : Int))] 42)))), 0, none⟩ ((Int.toNat n1) * 1))) ∧
             j0 (IntKind.wrap .i64 (n1 + (1 : Int))) (World.setCell w6 (Addr.add ⟨(Array.size (World.heap (World.alloc w (.cells #[(.int .u32 (0 : Int)), (.int .u32 (0 : Int)), (.int .u32 (0 : Int)), (.int .u32 (0 : Int)), (.int .u32 (0 : Int)), (.int .u32 (0 : Int)), (.int .u32 (0 : Int)), (.int .u32 (0 : Int)), (.int .u32 (0 : Int)), (.int .u32 (0 : Int)), (.int .u32 (0 : Int)), (.int .u32 (0 : Int)), (.int .u32 (0 : Int)), (.int .u32 (0 : Int)), (.int .u32 (0 : Int)), (.int .u32 (0 : Int))] 42)))), 0, none⟩ ((Int.toNat n1) * 1)) (.int .u32 n4))))
         (fun s7 => s7 (IntKind.wrap .u32 n1) (0 : Int) w2))
      (∃ n8 : Int, ∃ n9 : Int, ∃ n10 : Int, ∃ n11 : Int, ∃ n12 : Int, ∃ n13 : Int, ∃ n14 : Int, ∃ n15 : Int, ∃ n16 : Int, ∃ n17 : Int, ∃ n18 : Int, ∃ n19 : Int, ∃ n20 : Int, ∃ n21 : Int, ∃ n22 : Int, ∃ n23 : Int, (ldCells w2 ⟨(Array.size (World.heap (World.alloc w (.cells #[(.int .u32 (0 : Int)), (.int .u32 (0 : Int)), (.int .u32 (0 : Int)), (.int .u32 (0 : Int)), (.int .u32 (0 : Int)), (.int .u32 (0 : Int)), (.int .u32 (0 : Int)), (.int .u32 (0 : Int)), (.int .u32 (0 : Int)), (.int .u32 (0 : Int)), (.int .u32 (0 : Int)), (.int .u32 (0 : Int)), (.int .u32 (0 : Int)), (.int .u32 (0 : Int)), (.int .u32 (0 : Int)), (.int .u32 (0 : Int))] 42)))), 0, none⟩ 16 #[(.int .u32 n8), (.int .u32 n9), (.int .u32 n10), (.int .u32 n11), (.int .u32 n12), (.int .u32 n13), (.int .u32 n14), (.int .u32 n15), (.int .u32 n16), (.int .u32 n17), (.int .u32 n18), (.int .u32 n19), (.int .u32 n20), (.int .u32 n21), (.int .u32 n22), (.int .u32 n23)]) ∧
                       (StRow w2 ⟨(Array.size (World.heap w)), 0, none⟩ #[(.int .u32 n8), (.int .u32 n9), (.int .u32 n10), (.int .u32 n11), (.int .u32 n12), (.int .u32 n13), (.int .u32 n14), (.int .u32 n15), (.int .u32 n16), (.int .u32 n17), (.int .u32 n18), (.int .u32 n19), (.int .u32 n20), (.int .u32 n21), (.int .u32 n22), (.int .u32 n23)]) ∧
                       ∃ n24 : Int, ∃ n25 : Int, ∃ n26 : Int, ∃ n27 : Int, ∃ n28 : Int, ∃ n29 : Int, ∃ n30 : Int, ∃ n31 : Int, ∃ n32 : Int, ∃ n33 : Int, ∃ n34 : Int, ∃ n35 : Int, ∃ n36 : Int, ∃ n37 : Int, ∃ n38 : Int, ∃ n39 : Int, (ldCells (stRow w2 ⟨(Array.size (World.heap w)), 0, none⟩ #[(.int .u32 n8), (.int .u32 n9), (.int .u32 n10), (.int .u32 n11), (.int .u32 n12), (.int .u32 n13), (.int .u32 n14), (.int .u32 n15), (.int .u32 n16), (.int .u32 n17), (.int .u32 n18), (.int .u32 n19), (.int .u32 n20), (.int .u32 n21), (.int .u32 n22), (.int .u32 n23)]) ⟨(Array.size (World.heap w)), 0, none⟩ 16 #[(.int .u32 n24), (.int .u32 n25), (.int .u32 n26), (.int .u32 n27), (.int .u32 n28), (.int .u32 n29), (.int .u32 n30), (.int .u32 n31), (.int .u32 n32), (.int .u32 n33), (.int .u32 n34), (.int .u32 n35), (.int .u32 n36), (.int .u32 n37), (.int .u32 n38), (.int .u32 n39)]) ∧
                                       R (.agg #[(.int .u32 n24), (.int .u32 n25), (.int .u32 n26), (.int .u32 n27), (.int .u32 n28), (.int .u32 n29), (.int .u32 n30), (.int .u32 n31), (.int .u32 n32), (.int .u32 n33), (.int .u32 n34), (.int .u32 n35), (.int .u32 n36), (.int .u32 n37), (.int .u32 n38), (.int .u32 n39)]) (stRow w2 ⟨(Array.size (World.heap w)), 0, none⟩ #[(.int .u32 n8), (.int .u32 n9), (.int .u32 n10), (.int .u32 n11), (.int .u32 n12), (.int .u32 n13), (.int .u32 n14), (.int .u32 n15), (.int .u32 n16), (.int .u32 n17), (.int .u32 n18), (.int .u32 n19), (.int .u32 n20), (.int .u32 n21), (.int .u32 n22), (.int .u32 n23)])))
   (fun s40 => s40 (0 : Int) (World.alloc (World.alloc w (.cells #[(.int .u32 (0 : Int)), (.int .u32 (0 : Int)), (.int .u32 (0 : Int)), (.int .u32 (0 : Int)), (.int .u32 (0 : Int)), (.int .u32 (0 : Int)), (.int .u32 (0 : Int)), (.int .u32 (0 : Int)), (.int .u32 (0 : Int)), (.int .u32 (0 : Int)), (.int .u32 (0 : Int)), (.int .u32 (0 : Int)), (.int .u32 (0 : Int)), (.int .u32 (0 : Int)), (.int .u32 (0 : Int)), (.int .u32 (0 : Int))] 42)) (.cells #[(.int .u32 (0 : Int)), (.int .u32 (0 : Int)), (.int .u32 (0 : Int)), (.int .u32 (0 : Int)), (.int .u32 (0 : Int)), (.int .u32 (0 : Int)), (.int .u32 (0 : Int)), (.int .u32 (0 : Int)), (.int .u32 (0 : Int)), (.int .u32 (0 : Int)), (.int .u32 (0 : Int)), (.int .u32 (0 : Int)), (.int .u32 (0 : Int)), (.int .u32 (0 : Int)), (.int .u32 (0 : Int)), (.int .u32 (0 : Int))] 42)))

theorem crc_table_wp  (w : World) (R : KV) (h : crc_table_F  w R) : Go.CW.Spec Try.prog 23 #[] w R :=
  spec_of Try.func23 (by kernel_rfl) (show crc_table_F  w R = _ by kernel_rfl) h

end Go.Proofs.Ythocdclklnpkiaa
