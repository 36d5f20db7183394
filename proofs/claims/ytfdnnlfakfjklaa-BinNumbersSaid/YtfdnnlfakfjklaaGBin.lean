/- The formulas of some functions, printed by a program (wip/cw/CwGen). -/
import Derived.Test.YtfdnnlfakfjklaaFacts
set_option linter.unusedVariables false
set_option maxRecDepth 100000
namespace Go.Proofs.Ytfdnnlfakfjklaa
open Go Go.CW

/-- gemel/gemellaw1.BinNumbers -/
def gemellaw1_BinNumbers_F (p0 : Value) (p1 : Int) (p2 : Int) (p3 : Int) (p4 : Int) (w : World) (R : KV) : Prop :=
 Go.CW.Spec Try.prog 10 #[] w fun v0 w1 =>
  ∃ b2 : Bool, ((v0 : Value) = (.bool b2)) ∧
   cond (!b2)
     (R (.bool false) w1)
     (∃ m3 : Nat, ((Go.CW.sliceLen p0) = (some m3)) ∧
       cond (decide (((m3 : Nat) : Int) > (3000 : Int)))
         (R (.bool true) w1)
         (∃ v4 : Value, ∃ w5 : World, ((Sem.run @Go.Proofs.Try.prog (Go.Builtin.append_ #[22, 22] 22 #[(.slice (some ⟨(Array.size (World.heap w1)), 0, none⟩) 0 0), p0]) (World.alloc w1 (.cells #[] 5))) = (.ok v4 w5)) ∧
            Go.CW.Spec Try.prog 11 #[v4, (.int .u64 p1), (.int .i64 p2)] w5 fun v6 w7 =>
             ∃ v8 : Value, ∃ w9 : World, ((Sem.run @Go.Proofs.Try.prog (Go.Builtin.append_ #[22, 22] 22 #[(.slice (some ⟨(Array.size (World.heap w7)), 0, none⟩) 0 0), p0]) (World.alloc w7 (.cells #[] 5))) = (.ok v8 w9)) ∧
               Go.CW.Spec Try.prog 12 #[v8, (.int .u64 p1), (.int .i64 p2)] w9 fun v10 w11 =>
                Go.CW.Spec Try.prog 13 #[p0, (.int .i64 p3), (.int .i64 p2)] w11 fun v12 w13 =>
                 ∃ n14 : Int, ∃ b15 : Bool, ((v12 : Value) = (.tuple #[(.int .u64 n14), (.bool b15)])) ∧
                   Go.CW.Spec Try.prog 14 #[p0, (.int .i64 p3), (.int .i64 p2)] w13 fun v16 w17 =>
                    ∃ n18 : Int, ∃ b19 : Bool, ((v16 : Value) = (.tuple #[(.int .u64 n18), (.bool b19)])) ∧
                      JoinP [.bool]
                        (fun (b20 : Bool) => fun (w21 : World) =>
                         cond b20
                           (R (.bool false) w21)
                           (JoinP [.bool]
                              (fun (b22 : Bool) => fun (w23 : World) =>
                               cond b22
                                 (∃ m24 : Nat, ((Go.CW.sliceLen v6) = (some m24)) ∧
                                   ∃ m25 : Nat, ((Go.CW.sliceLen p0) = (some m25)) ∧
                                    R (.bool (((m24 : Nat) : Int) == ((m25 : Nat) : Int))) w23)
                                 (∃ m26 : Nat, ((Go.CW.sliceLen p0) = (some m26)) ∧
                                   Go.CW.Spec Try.prog 13 #[v6, (.int .i64 ((m26 : Nat) : Int)), (.int .i64 p2)] w23 fun v27 w28 =>
                                    ∃ n29 : Int, ∃ b30 : Bool, ((v27 : Value) = (.tuple #[(.int .u64 n29), (.bool b30)])) ∧
                                      JoinP [.bool]
                                        (fun (b31 : Bool) => fun (w32 : World) =>
                                         R (.bool b31) w32)
                                        (fun j33 =>
                                         cond b30
                                           (leK (IntKind.wrap .u64 (IntKind.wrap .i64 ((64 : Int) - (IntKind.wrap .i64 ((8 : Int) * p2))))) (leK (IntKind.wrap .u64 (IntKind.wrap .i64 ((64 : Int) - (IntKind.wrap .i64 ((8 : Int) * p2))))) (j33 (n29 == (Int.fdiv (IntKind.wrap .u64 (p1 * ((2 : Int) ^ (min (Int.toNat (IntKind.wrap .u64 (IntKind.wrap .i64 ((64 : Int) - (IntKind.wrap .i64 ((8 : Int) * p2)))))) 64)))) ((2 : Int) ^ (min (Int.toNat (IntKind.wrap .u64 (IntKind.wrap .i64 ((64 : Int) - (IntKind.wrap .i64 ((8 : Int) * p2)))))) 64)))) w28)))
                                           (j33 false w28))))
                              (fun j34 =>
                               cond (decide (p2 < (1 : Int)))
                                 (j34 true w21)
                                 (j34 (decide (p2 > (8 : Int))) w21))))
                        (fun j35 =>
                         ∃ s36 : ByteArray, ((Sem.run @Go.Proofs.Try.prog (Go.convert 22 9 v6) (World.drew w17)) = (.ok (.string s36) (World.drew w17))) ∧
                          ∃ s37 : ByteArray, ((Sem.run @Go.Proofs.Try.prog (Go.convert 22 9 v10) (World.drew w17)) = (.ok (.string s37) (World.drew w17))) ∧
                           cond (!(ByteArray.toList s36 == ByteArray.toList s37))
                             ((((j35 true (World.drew w17)) ∧
                              j35 true (World.drew w17)) ∧
                              j35 true (World.drew w17)) ∧
                              j35 true (World.drew w17))
                             (cond (n14 != n18)
                                ((((j35 true (World.drew w17)) ∧
                                 j35 true (World.drew w17)) ∧
                                 j35 true (World.drew w17)) ∧
                                 j35 true (World.drew w17))
                                (cond (!(b15 == b19))
                                   ((((j35 true (World.drew w17)) ∧
                                    j35 true (World.drew w17)) ∧
                                    j35 true (World.drew w17)) ∧
                                    j35 true (World.drew w17))
                                   (((∃ v38 : Value, ∃ w39 : World, ((Sem.run @Go.Proofs.Try.prog (Go.Builtin.append_ #[22, 22] 22 #[(.slice (some ⟨(Array.size (World.heap (World.drew w17))), 0, none⟩) 0 0), p0]) (World.alloc (World.drew w17) (.cells #[] 5))) = (.ok v38 w39)) ∧
                                      (Go.CW.Spec Try.prog 15 #[v38, (.int .i64 p4)] w39 fun v40 w41 =>
                                       ∃ s42 : ByteArray, ((Sem.run @Go.Proofs.Try.prog (Go.convert 22 9 v40) w41) = (.ok (.string s42) w41)) ∧
                                        (∃ s43 : ByteArray, ((Sem.run @Go.Proofs.Try.prog (Go.convert 22 9 v40) (World.alloc w41 (.cells #[] 5))) = (.ok (.string s43) (World.alloc w41 (.cells #[] 5)))) ∧
                                         ((.string s43) : Value) = (.string s42)) ∧
                                        ∃ v44 : Value, ∃ w45 : World, ((Sem.run @Go.Proofs.Try.prog (Go.Builtin.append_ #[22, 22] 22 #[(.slice (some ⟨(Array.size (World.heap w41)), 0, none⟩) 0 0), p0]) (World.alloc w41 (.cells #[] 5))) = (.ok v44 w45)) ∧
                                          (∃ s46 : ByteArray, ((Sem.run @Go.Proofs.Try.prog (Go.convert 22 9 v40) w45) = (.ok (.string s46) w45)) ∧
                                           ((.string s46) : Value) = (.string s42)) ∧
                                          Go.CW.Spec Try.prog 16 #[v44, (.int .i64 p4)] w45 fun v47 w48 =>
                                           (∃ s49 : ByteArray, ((Sem.run @Go.Proofs.Try.prog (Go.convert 22 9 v40) w48) = (.ok (.string s49) w48)) ∧
                                            ((.string s49) : Value) = (.string s42)) ∧
                                           ∃ s50 : ByteArray, ((Sem.run @Go.Proofs.Try.prog (Go.convert 22 9 v47) w48) = (.ok (.string s50) w48)) ∧
                                            j35 (!(ByteArray.toList s42 == ByteArray.toList s50)) w48) ∧
                                      Go.CW.Spec Try.prog 15 #[v38, (.int .i64 p4)] (World.alloc w39 (.cells #[] 5)) fun v51 w52 =>
                                       ∃ s53 : ByteArray, ((Sem.run @Go.Proofs.Try.prog (Go.convert 22 9 v51) w52) = (.ok (.string s53) w52)) ∧
                                        ∃ v54 : Value, ∃ w55 : World, ((Sem.run @Go.Proofs.Try.prog (Go.Builtin.append_ #[22, 22] 22 #[(.slice (some ⟨(Array.size (World.heap w39)), 0, none⟩) 0 0), p0]) w52) = (.ok v54 w55)) ∧
                                          (∃ s56 : ByteArray, ((Sem.run @Go.Proofs.Try.prog (Go.convert 22 9 v51) w55) = (.ok (.string s56) w55)) ∧
                                           ((.string s56) : Value) = (.string s53)) ∧
                                          Go.CW.Spec Try.prog 16 #[v54, (.int .i64 p4)] w55 fun v57 w58 =>
                                           (∃ s59 : ByteArray, ((Sem.run @Go.Proofs.Try.prog (Go.convert 22 9 v51) w58) = (.ok (.string s59) w58)) ∧
                                            ((.string s59) : Value) = (.string s53)) ∧
                                           ∃ s60 : ByteArray, ((Sem.run @Go.Proofs.Try.prog (Go.convert 22 9 v57) w58) = (.ok (.string s60) w58)) ∧
                                            j35 (!(ByteArray.toList s53 == ByteArray.toList s60)) w58) ∧
                                    ∃ v61 : Value, ∃ w62 : World, ((Sem.run @Go.Proofs.Try.prog (Go.Builtin.append_ #[22, 22] 22 #[(.slice (some ⟨(Array.size (World.heap (World.drew w17))), 0, none⟩) 0 0), p0]) (World.alloc (World.alloc (World.drew w17) (.cells #[] 5)) (.cells #[] 5))) = (.ok v61 w62)) ∧
                                      Go.CW.Spec Try.prog 15 #[v61, (.int .i64 p4)] w62 fun v63 w64 =>
                                       ∃ s65 : ByteArray, ((Sem.run @Go.Proofs.Try.prog (Go.convert 22 9 v63) w64) = (.ok (.string s65) w64)) ∧
                                        ∃ v66 : Value, ∃ w67 : World, ((Sem.run @Go.Proofs.Try.prog (Go.Builtin.append_ #[22, 22] 22 #[(.slice (some ⟨(Array.size (World.heap (World.alloc (World.drew w17) (.cells #[] 5)))), 0, none⟩) 0 0), p0]) w64) = (.ok v66 w67)) ∧
                                          (∃ s68 : ByteArray, ((Sem.run @Go.Proofs.Try.prog (Go.convert 22 9 v63) w67) = (.ok (.string s68) w67)) ∧
                                           ((.string s68) : Value) = (.string s65)) ∧
                                          Go.CW.Spec Try.prog 16 #[v66, (.int .i64 p4)] w67 fun v69 w70 =>
                                           (∃ s71 : ByteArray, ((Sem.run @Go.Proofs.Try.prog (Go.convert 22 9 v63) w70) = (.ok (.string s71) w70)) ∧
                                            ((.string s71) : Value) = (.string s65)) ∧
                                           ∃ s72 : ByteArray, ((Sem.run @Go.Proofs.Try.prog (Go.convert 22 9 v69) w70) = (.ok (.string s72) w70)) ∧
                                            j35 (!(ByteArray.toList s65 == ByteArray.toList s72)) w70) ∧
                                    ∃ v73 : Value, ∃ w74 : World, ((Sem.run @Go.Proofs.Try.prog (Go.Builtin.append_ #[22, 22] 22 #[(.slice (some ⟨(Array.size (World.heap (World.alloc (World.drew w17) (.cells #[] 5)))), 0, none⟩) 0 0), p0]) (World.alloc (World.alloc (World.drew w17) (.cells #[] 5)) (.cells #[] 5))) = (.ok v73 w74)) ∧
                                      Go.CW.Spec Try.prog 15 #[v73, (.int .i64 p4)] w74 fun v75 w76 =>
                                       ∃ s77 : ByteArray, ((Sem.run @Go.Proofs.Try.prog (Go.convert 22 9 v75) w76) = (.ok (.string s77) w76)) ∧
                                        ∃ v78 : Value, ∃ w79 : World, ((Sem.run @Go.Proofs.Try.prog (Go.Builtin.append_ #[22, 22] 22 #[(.slice (some ⟨(Array.size (World.heap (World.drew w17))), 0, none⟩) 0 0), p0]) w76) = (.ok v78 w79)) ∧
                                          (∃ s80 : ByteArray, ((Sem.run @Go.Proofs.Try.prog (Go.convert 22 9 v75) w79) = (.ok (.string s80) w79)) ∧
                                           ((.string s80) : Value) = (.string s77)) ∧
                                          Go.CW.Spec Try.prog 16 #[v78, (.int .i64 p4)] w79 fun v81 w82 =>
                                           (∃ s83 : ByteArray, ((Sem.run @Go.Proofs.Try.prog (Go.convert 22 9 v75) w82) = (.ok (.string s83) w82)) ∧
                                            ((.string s83) : Value) = (.string s77)) ∧
                                           ∃ s84 : ByteArray, ((Sem.run @Go.Proofs.Try.prog (Go.convert 22 9 v81) w82) = (.ok (.string s84) w82)) ∧
                                            j35 (!(ByteArray.toList s77 == ByteArray.toList s84)) w82))))))

theorem gemellaw1_BinNumbers_wp (p0 : Value) (p1 : Int) (p2 : Int) (p3 : Int) (p4 : Int) (w : World) (R : KV) (h : gemellaw1_BinNumbers_F p0 p1 p2 p3 p4 w R) : Go.CW.Spec Try.prog 3 #[p0, (.int .u64 p1), (.int .i64 p2), (.int .i64 p3), (.int .i64 p4)] w R :=
  spec_of Try.func3 (by kernel_rfl) (show gemellaw1_BinNumbers_F p0 p1 p2 p3 p4 w R = _ by kernel_rfl) h

/-- gemel/gemellaw1.BinSerials -/
def gemellaw1_BinSerials_F (p0 : Int) (p1 : Int) (p2 : Int) (p3 : Int) (w : World) (R : KV) : Prop :=
 Go.CW.Spec Try.prog 10 #[] w fun v0 w1 =>
  ∃ b2 : Bool, ((v0 : Value) = (.bool b2)) ∧
   cond (!b2)
     (R (.bool false) w1)
     (JoinP [.bool]
        (fun (b3 : Bool) => fun (w4 : World) =>
         cond b3
           (R (.bool false) w4)
           (JoinP [.bool]
              (fun (b5 : Bool) => fun (w6 : World) =>
               cond b5
                 (R (.bool false) w6)
                 (JoinP [.bool]
                    (fun (b7 : Bool) => fun (w8 : World) =>
                     R (.bool b7) w8)
                    (fun j9 =>
                     cond ((IntKind.wrap .u32 (p0 - p1)) == (2147483648 : Int))
                       (j9 true w6)
                       (Go.CW.Spec Try.prog 17 #[(.int .u32 p1), (.int .u32 p0)] w6 fun v10 w11 =>
                         ∃ n12 : Int, ((v10 : Value) = (.int .i64 n12)) ∧
                          Go.CW.Spec Try.prog 17 #[(.int .u32 p0), (.int .u32 p1)] w11 fun v13 w14 =>
                           ∃ n15 : Int, ((v13 : Value) = (.int .i64 n15)) ∧
                            j9 (n12 == (IntKind.wrap .i64 ((0 : Int) - n15))) w14))))
              (fun j16 =>
               Go.CW.Spec Try.prog 17 #[(.int .u32 (IntKind.wrap .u32 (p0 + p3))), (.int .u32 (IntKind.wrap .u32 (p1 + p3)))] w4 fun v17 w18 =>
                ∃ n19 : Int, ((v17 : Value) = (.int .i64 n19)) ∧
                 Go.CW.Spec Try.prog 17 #[(.int .u32 p0), (.int .u32 p1)] w18 fun v20 w21 =>
                  ∃ n22 : Int, ((v20 : Value) = (.int .i64 n22)) ∧
                   cond (n19 != n22)
                     (j16 true w21)
                     (Go.CW.Spec Try.prog 21 #[(.int .u32 (IntKind.wrap .u32 (p0 + p3))), (.int .u32 p2), (.int .u32 (IntKind.wrap .u32 (p1 + p3)))] w21 fun v23 w24 =>
                       ∃ b25 : Bool, ((v23 : Value) = (.bool b25)) ∧
                        Go.CW.Spec Try.prog 21 #[(.int .u32 p0), (.int .u32 p2), (.int .u32 p1)] w24 fun v26 w27 =>
                         ∃ b28 : Bool, ((v26 : Value) = (.bool b28)) ∧
                          cond (!(b25 == b28))
                            (j16 true w27)
                            (Go.CW.Spec Try.prog 19 #[(.int .u32 p0), (.int .u32 p0)] w27 fun v29 w30 =>
                              ∃ b31 : Bool, ((v29 : Value) = (.bool b31)) ∧
                               j16 b31 w30)))))
        (fun j32 =>
         Go.CW.Spec Try.prog 17 #[(.int .u32 p0), (.int .u32 p1)] w1 fun v33 w34 =>
          ∃ n35 : Int, ((v33 : Value) = (.int .i64 n35)) ∧
           Go.CW.Spec Try.prog 18 #[(.int .u32 p0), (.int .u32 p1)] w34 fun v36 w37 =>
            ∃ n38 : Int, ((v36 : Value) = (.int .i64 n38)) ∧
             cond (n35 != n38)
               (j32 true w37)
               (Go.CW.Spec Try.prog 19 #[(.int .u32 p0), (.int .u32 p1)] w37 fun v39 w40 =>
                 ∃ b41 : Bool, ((v39 : Value) = (.bool b41)) ∧
                  Go.CW.Spec Try.prog 20 #[(.int .u32 p0), (.int .u32 p1)] w40 fun v42 w43 =>
                   ∃ b44 : Bool, ((v42 : Value) = (.bool b44)) ∧
                    cond (!(b41 == b44))
                      (j32 true w43)
                      (Go.CW.Spec Try.prog 21 #[(.int .u32 p0), (.int .u32 p2), (.int .u32 p1)] w43 fun v45 w46 =>
                        ∃ b47 : Bool, ((v45 : Value) = (.bool b47)) ∧
                         Go.CW.Spec Try.prog 22 #[(.int .u32 p0), (.int .u32 p2), (.int .u32 p1)] w46 fun v48 w49 =>
                          ∃ b50 : Bool, ((v48 : Value) = (.bool b50)) ∧
                           j32 (!(b47 == b50)) w49))))

theorem gemellaw1_BinSerials_wp (p0 : Int) (p1 : Int) (p2 : Int) (p3 : Int) (w : World) (R : KV) (h : gemellaw1_BinSerials_F p0 p1 p2 p3 w R) : Go.CW.Spec Try.prog 4 #[(.int .u32 p0), (.int .u32 p1), (.int .u32 p2), (.int .u32 p3)] w R :=
  spec_of Try.func4 (by kernel_rfl) (show gemellaw1_BinSerials_F p0 p1 p2 p3 w R = _ by kernel_rfl) h

/-- gemel/gemellaw1.BinWindows -/
def gemellaw1_BinWindows_F (p0 : Int) (p1 : Int) (p2 : Int) (w : World) (R : KV) : Prop :=
 Go.CW.Spec Try.prog 10 #[] w fun v0 w1 =>
  ∃ b2 : Bool, ((v0 : Value) = (.bool b2)) ∧
   cond (!b2)
     (R (.bool false) w1)
     (LoopP [.int .u32]
        (fun j3 => fun (n4 : Int) => fun (w5 : World) =>
         cond (decide (n4 < (300 : Int)))
           (Go.CW.Spec Try.prog 21 #[(.int .u32 p0), (.int .u32 (IntKind.wrap .u32 p1)), (.int .u32 (IntKind.wrap .u32 (p0 + n4)))] w5 fun v6 w7 =>
             ∃ b8 : Bool, ((v6 : Value) = (.bool b8)) ∧
              cond (!(b8 == (decide (n4 < (IntKind.wrap .u32 p1)))))
                (R (.bool false) w7)
                (j3 (IntKind.wrap .u32 (n4 + (1 : Int))) w7))
           (JoinP [.bool]
              (fun (b9 : Bool) => fun (w10 : World) =>
               R (.bool b9) w10)
              (fun j11 =>
               Go.CW.Spec Try.prog 21 #[(.int .u32 p0), (.int .u32 (IntKind.wrap .u32 p1)), (.int .u32 (IntKind.wrap .u32 (p0 + p2)))] w5 fun v12 w13 =>
                ∃ b14 : Bool, ((v12 : Value) = (.bool b14)) ∧
                 cond (b14 == (decide (p2 < (IntKind.wrap .u32 p1))))
                   (Go.CW.Spec Try.prog 21 #[(.int .u32 p0), (.int .u32 (0 : Int)), (.int .u32 p2)] w13 fun v15 w16 =>
                     ∃ b17 : Bool, ((v15 : Value) = (.bool b17)) ∧
                      j11 (!b17) w16)
                   (j11 false w13))))
        (fun s18 => s18 (0 : Int) w1))

theorem gemellaw1_BinWindows_wp (p0 : Int) (p1 : Int) (p2 : Int) (w : World) (R : KV) (h : gemellaw1_BinWindows_F p0 p1 p2 w R) : Go.CW.Spec Try.prog 5 #[(.int .u32 p0), (.int .u8 p1), (.int .u32 p2)] w R :=
  spec_of Try.func5 (by kernel_rfl) (show gemellaw1_BinWindows_F p0 p1 p2 w R = _ by kernel_rfl) h

/-- gemel/gemellaw1.BinRows -/
def gemellaw1_BinRows_F (p0 : Value) (p1 : Value) (w : World) (R : KV) : Prop :=
 Go.CW.Spec Try.prog 10 #[] w fun v0 w1 =>
  ∃ b2 : Bool, ((v0 : Value) = (.bool b2)) ∧
   cond (!b2)
     (R (.bool false) w1)
     (JoinP [.bool]
        (fun (b3 : Bool) => fun (w4 : World) =>
         cond b3
           (R (.bool true) w4)
           (LoopP [.val, .int .i64]
              (fun j5 => fun (v6 : Value) => fun (n7 : Int) => fun (w8 : World) =>
               ∃ m9 : Nat, ((Go.CW.sliceLen p0) = (some m9)) ∧
                cond (decide (n7 < ((m9 : Nat) : Int)))
                  (∃ a10 : Addr, ((Go.CW.sliceAt p0 n7 1) = (some a10)) ∧
                    ∃ n11 : Int, ((Go.World.cell? (World.drew w8) a10) = (some (.int .u64 n11))) ∧
                     ∃ a12 : Addr, ((Go.CW.sliceAt p1 n7 1) = (some a12)) ∧
                      ∃ n13 : Int, ((Go.World.cell? (World.drew w8) a12) = (some (.int .u8 n13))) ∧
                       Go.CW.Spec Try.prog 11 #[v6, (.int .u64 n11), (.int .i64 (IntKind.wrap .i64 ((1 : Int) + (IntKind.wrap .i64 (bitsI .and .u8 n13 (7 : Int))))))] (World.drew w8) fun v14 w15 =>
                        j5 v14 (IntKind.wrap .i64 (n7 + (1 : Int))) w15)
                  (LoopP [.int .i64, .int .i64]
                     (fun j16 => fun (n17 : Int) => fun (n18 : Int) => fun (w19 : World) =>
                      ∃ m20 : Nat, ((Go.CW.sliceLen p0) = (some m20)) ∧
                       cond (decide (n18 < ((m20 : Nat) : Int)))
                         (∃ a21 : Addr, ((Go.CW.sliceAt p1 n18 1) = (some a21)) ∧
                           ∃ n22 : Int, ((Go.World.cell? w19 a21) = (some (.int .u8 n22))) ∧
                            Go.CW.Spec Try.prog 13 #[v6, (.int .i64 n17), (.int .i64 (IntKind.wrap .i64 ((1 : Int) + (IntKind.wrap .i64 (bitsI .and .u8 n22 (7 : Int))))))] w19 fun v23 w24 =>
                             ∃ n25 : Int, ∃ b26 : Bool, ((v23 : Value) = (.tuple #[(.int .u64 n25), (.bool b26)])) ∧
                               JoinP [.bool]
                                 (fun (b27 : Bool) => fun (w28 : World) =>
                                  cond b27
                                    (R (.bool false) w28)
                                    (j16 (IntKind.wrap .i64 (n17 + (IntKind.wrap .i64 ((1 : Int) + (IntKind.wrap .i64 (bitsI .and .u8 n22 (7 : Int))))))) (IntKind.wrap .i64 (n18 + (1 : Int))) w28))
                                 (fun j29 =>
                                  cond (!b26)
                                    (j29 true w24)
                                    (∃ a30 : Addr, ((Go.CW.sliceAt p0 n18 1) = (some a30)) ∧
                                      ∃ n31 : Int, ((Go.World.cell? w24 a30) = (some (.int .u64 n31))) ∧
                                       leK (IntKind.wrap .u64 (IntKind.wrap .i64 ((64 : Int) - (IntKind.wrap .i64 ((8 : Int) * (IntKind.wrap .i64 ((1 : Int) + (IntKind.wrap .i64 (bitsI .and .u8 n22 (7 : Int)))))))))) (leK (IntKind.wrap .u64 (IntKind.wrap .i64 ((64 : Int) - (IntKind.wrap .i64 ((8 : Int) * (IntKind.wrap .i64 ((1 : Int) + (IntKind.wrap .i64 (bitsI .and .u8 n22 (7 : Int)))))))))) (j29 (n25 != (Int.fdiv (IntKind.wrap .u64 (n31 * ((2 : Int) ^ (min (Int.toNat (IntKind.wrap .u64 (IntKind.wrap .i64 ((64 : Int) - (IntKind.wrap .i64 ((8 : Int) * (IntKind.wrap .i64 ((1 : Int) + (IntKind.wrap .i64 (bitsI .and .u8 n22 (7 : Int))))))))))) 64)))) ((2 : Int) ^ (min (Int.toNat (IntKind.wrap .u64 (IntKind.wrap .i64 ((64 : Int) - (IntKind.wrap .i64 ((8 : Int) * (IntKind.wrap .i64 ((1 : Int) + (IntKind.wrap .i64 (bitsI .and .u8 n22 (7 : Int))))))))))) 64)))) w24)))))
                         (Go.CW.Spec Try.prog 13 #[v6, (.int .i64 n17), (.int .i64 (1 : Int))] w19 fun v32 w33 =>
                           ∃ n34 : Int, ∃ b35 : Bool, ((v32 : Value) = (.tuple #[(.int .u64 n34), (.bool b35)])) ∧
                             JoinP [.bool]
                               (fun (b36 : Bool) => fun (w37 : World) =>
                                R (.bool b36) w37)
                               (fun j38 =>
                                ∃ m39 : Nat, ((Go.CW.sliceLen v6) = (some m39)) ∧
                                 cond (n17 == ((m39 : Nat) : Int))
                                   (j38 (!b35) w33)
                                   (j38 false w33))))
                     (fun s40 => s40 (0 : Int) (0 : Int) w8)))
              (fun s41 => s41 (.slice none 0 0) (0 : Int) w4)))
        (fun j42 =>
         ∃ m43 : Nat, ((Go.CW.sliceLen p0) = (some m43)) ∧
          cond (decide (((m43 : Nat) : Int) > (60 : Int)))
            (j42 true w1)
            (∃ m44 : Nat, ((Go.CW.sliceLen p1) = (some m44)) ∧
              ∃ m45 : Nat, ((Go.CW.sliceLen p0) = (some m45)) ∧
               j42 (decide (((m44 : Nat) : Int) < ((m45 : Nat) : Int))) w1)))

theorem gemellaw1_BinRows_wp (p0 : Value) (p1 : Value) (w : World) (R : KV) (h : gemellaw1_BinRows_F p0 p1 w R) : Go.CW.Spec Try.prog 6 #[p0, p1] w R :=
  spec_of Try.func6 (by kernel_rfl) (show gemellaw1_BinRows_F p0 p1 w R = _ by kernel_rfl) h

/-- gemel/gemellaw1.BinOrder -/
def gemellaw1_BinOrder_F (p0 : Int) (p1 : Int) (p2 : Int) (p3 : Int) (w : World) (R : KV) : Prop :=
 Go.CW.Spec Try.prog 10 #[] w fun v0 w1 =>
  ∃ b2 : Bool, ((v0 : Value) = (.bool b2)) ∧
   cond (!b2)
     (R (.bool false) w1)
     (JoinP [.bool]
        (fun (b3 : Bool) => fun (w4 : World) =>
         cond b3
           (R (.bool false) w4)
           (JoinP [.bool]
              (fun (b5 : Bool) => fun (w6 : World) =>
               cond b5
                 (R (.bool false) w6)
                 (Go.CW.Spec Try.prog 19 #[(.int .u32 (IntKind.wrap .u32 (p0 + (Int.fdiv p1 (2 : Int))))), (.int .u32 (IntKind.wrap .u32 (p0 + (Int.fdiv p2 (2 : Int)))))] w6 fun v7 w8 =>
                   ∃ b9 : Bool, ((v7 : Value) = (.bool b9)) ∧
                    R (.bool (b9 == (decide ((Int.fdiv p1 (2 : Int)) < (Int.fdiv p2 (2 : Int)))))) w8))
              (fun j10 =>
               Go.CW.Spec Try.prog 19 #[(.int .u32 (IntKind.wrap .u32 (p0 + (Int.fdiv p1 (2 : Int))))), (.int .u32 (IntKind.wrap .u32 (p0 + (Int.fdiv p2 (2 : Int)))))] w4 fun v11 w12 =>
                ∃ b13 : Bool, ((v11 : Value) = (.bool b13)) ∧
                 cond b13
                   (Go.CW.Spec Try.prog 19 #[(.int .u32 (IntKind.wrap .u32 (p0 + (Int.fdiv p2 (2 : Int))))), (.int .u32 (IntKind.wrap .u32 (p0 + (Int.fdiv p3 (2 : Int)))))] w12 fun v14 w15 =>
                     ∃ b16 : Bool, ((v14 : Value) = (.bool b16)) ∧
                      cond b16
                        (Go.CW.Spec Try.prog 19 #[(.int .u32 (IntKind.wrap .u32 (p0 + (Int.fdiv p1 (2 : Int))))), (.int .u32 (IntKind.wrap .u32 (p0 + (Int.fdiv p3 (2 : Int)))))] w15 fun v17 w18 =>
                          ∃ b19 : Bool, ((v17 : Value) = (.bool b19)) ∧
                           j10 (!b19) w18)
                        (j10 false w15))
                   (j10 false w12))))
        (fun j20 =>
         Go.CW.Spec Try.prog 19 #[(.int .u32 (IntKind.wrap .u32 (p0 + (Int.fdiv p1 (2 : Int))))), (.int .u32 (IntKind.wrap .u32 (p0 + (Int.fdiv p2 (2 : Int)))))] w1 fun v21 w22 =>
          ∃ b23 : Bool, ((v21 : Value) = (.bool b23)) ∧
           Go.CW.Spec Try.prog 20 #[(.int .u32 (IntKind.wrap .u32 (p0 + (Int.fdiv p1 (2 : Int))))), (.int .u32 (IntKind.wrap .u32 (p0 + (Int.fdiv p2 (2 : Int)))))] w22 fun v24 w25 =>
            ∃ b26 : Bool, ((v24 : Value) = (.bool b26)) ∧
             cond (!(b23 == b26))
               (j20 true w25)
               (Go.CW.Spec Try.prog 19 #[(.int .u32 (IntKind.wrap .u32 (p0 + (Int.fdiv p1 (2 : Int))))), (.int .u32 (IntKind.wrap .u32 (p0 + (Int.fdiv p2 (2 : Int)))))] w25 fun v27 w28 =>
                 ∃ b29 : Bool, ((v27 : Value) = (.bool b29)) ∧
                  cond b29
                    (Go.CW.Spec Try.prog 19 #[(.int .u32 (IntKind.wrap .u32 (p0 + (Int.fdiv p2 (2 : Int))))), (.int .u32 (IntKind.wrap .u32 (p0 + (Int.fdiv p1 (2 : Int)))))] w28 fun v30 w31 =>
                      ∃ b32 : Bool, ((v30 : Value) = (.bool b32)) ∧
                       j20 b32 w31)
                    (j20 false w28))))

theorem gemellaw1_BinOrder_wp (p0 : Int) (p1 : Int) (p2 : Int) (p3 : Int) (w : World) (R : KV) (h : gemellaw1_BinOrder_F p0 p1 p2 p3 w R) : Go.CW.Spec Try.prog 7 #[(.int .u32 p0), (.int .u32 p1), (.int .u32 p2), (.int .u32 p3)] w R :=
  spec_of Try.func7 (by kernel_rfl) (show gemellaw1_BinOrder_F p0 p1 p2 p3 w R = _ by kernel_rfl) h

/-- gemel/gemellaw1.BinPads -/
def gemellaw1_BinPads_F (p0 : Value) (p1 : Int) (w : World) (R : KV) : Prop :=
 Go.CW.Spec Try.prog 10 #[] w fun v0 w1 =>
  ∃ b2 : Bool, ((v0 : Value) = (.bool b2)) ∧
   cond (!b2)
     (R (.bool false) w1)
     (JoinP [.bool]
        (fun (b3 : Bool) => fun (w4 : World) =>
         cond b3
           (R (.bool true) w4)
           (∃ v5 : Value, ∃ w6 : World, ((Sem.run @Go.Proofs.Try.prog (Go.Builtin.append_ #[22, 22] 22 #[(.slice (some ⟨(Array.size (World.heap w4)), 0, none⟩) 0 0), p0]) (World.alloc w4 (.cells #[] 5))) = (.ok v5 w6)) ∧
              Go.CW.Spec Try.prog 15 #[v5, (.int .i64 p1)] w6 fun v7 w8 =>
               JoinP [.bool]
                 (fun (b9 : Bool) => fun (w10 : World) =>
                  cond b9
                    (R (.bool false) w10)
                    (∃ m11 : Nat, ((Go.CW.sliceLen p0) = (some m11)) ∧
                      LoopP [.int .i64]
                        (fun j12 => fun (n13 : Int) => fun (w14 : World) =>
                         ∃ m15 : Nat, ((Go.CW.sliceLen v7) = (some m15)) ∧
                          cond (decide (n13 < ((m15 : Nat) : Int)))
                            (∃ a16 : Addr, ((Go.CW.sliceAt v7 n13 1) = (some a16)) ∧
                              ∃ n17 : Int, ((Go.World.cell? w14 a16) = (some (.int .u8 n17))) ∧
                               cond (n17 != (0 : Int))
                                 (R (.bool false) w14)
                                 (j12 (IntKind.wrap .i64 (n13 + (1 : Int))) w14))
                            (Go.CW.Spec Try.prog 15 #[v7, (.int .i64 p1)] w14 fun v18 w19 =>
                              ∃ m20 : Nat, ((Go.CW.sliceLen v18) = (some m20)) ∧
                               ∃ m21 : Nat, ((Go.CW.sliceLen v7) = (some m21)) ∧
                                R (.bool (((m20 : Nat) : Int) == ((m21 : Nat) : Int))) w19))
                        (fun s22 => s22 ((m11 : Nat) : Int) w10)))
                 (fun j23 =>
                  ∃ m24 : Nat, ((Go.CW.sliceLen v7) = (some m24)) ∧
                   nzK p1 (cond ((Int.tmod ((m24 : Nat) : Int) p1) != (0 : Int))
                      (j23 true (World.drew w8))
                      (∃ m25 : Nat, ((Go.CW.sliceLen v7) = (some m25)) ∧
                        ∃ m26 : Nat, ((Go.CW.sliceLen p0) = (some m26)) ∧
                         cond (decide ((IntKind.wrap .i64 (((m25 : Nat) : Int) - ((m26 : Nat) : Int))) ≥ p1))
                           (j23 true (World.drew w8))
                           (∃ m27 : Nat, ((Go.CW.sliceLen p0) = (some m27)) ∧
                             ∃ v28 : Value, ((Go.CW.subSlice v7 1 none (some (.int .i64 ((m27 : Nat) : Int))) none) = (some v28)) ∧
                              ∃ s29 : ByteArray, ((Sem.run @Go.Proofs.Try.prog (Go.convert 22 9 v28) (World.drew w8)) = (.ok (.string s29) (World.drew w8))) ∧
                               ∃ s30 : ByteArray, ((Sem.run @Go.Proofs.Try.prog (Go.convert 22 9 p0) (World.drew w8)) = (.ok (.string s30) (World.drew w8))) ∧
                                j23 (!(ByteArray.toList s29 == ByteArray.toList s30)) (World.drew w8)))))))
        (fun j31 =>
         ∃ m32 : Nat, ((Go.CW.sliceLen p0) = (some m32)) ∧
          cond (decide (((m32 : Nat) : Int) > (3000 : Int)))
            (j31 true w1)
            (cond (decide (p1 < (1 : Int)))
               (j31 true w1)
               (j31 (decide (p1 > (4096 : Int))) w1))))

theorem gemellaw1_BinPads_wp (p0 : Value) (p1 : Int) (w : World) (R : KV) (h : gemellaw1_BinPads_F p0 p1 w R) : Go.CW.Spec Try.prog 8 #[p0, (.int .i64 p1)] w R :=
  spec_of Try.func8 (by kernel_rfl) (show gemellaw1_BinPads_F p0 p1 w R = _ by kernel_rfl) h

/-- gemel/gemellaw1.BinHalves -/
def gemellaw1_BinHalves_F (p0 : Int) (p1 : Int) (w : World) (R : KV) : Prop :=
 Go.CW.Spec Try.prog 10 #[] w fun v0 w1 =>
  ∃ b2 : Bool, ((v0 : Value) = (.bool b2)) ∧
   cond (!b2)
     (R (.bool false) w1)
     (Go.CW.Spec Try.prog 21 #[(.int .u32 p0), (.int .u32 (2147483648 : Int)), (.int .u32 p1)] w1 fun v3 w4 =>
       ∃ b5 : Bool, ((v3 : Value) = (.bool b5)) ∧
        Go.CW.Spec Try.prog 21 #[(.int .u32 (IntKind.wrap .u32 (p0 + (2147483648 : Int)))), (.int .u32 (2147483648 : Int)), (.int .u32 p1)] w4 fun v6 w7 =>
         ∃ b8 : Bool, ((v6 : Value) = (.bool b8)) ∧
          JoinP [.bool]
            (fun (b9 : Bool) => fun (w10 : World) =>
             R (.bool b9) w10)
            (fun j11 =>
             cond (!(b5 == b8))
               (Go.CW.Spec Try.prog 17 #[(.int .u32 p0), (.int .u32 p1)] w7 fun v12 w13 =>
                 ∃ n14 : Int, ((v12 : Value) = (.int .i64 n14)) ∧
                  cond (b5 == (decide (n14 ≥ (0 : Int))))
                    (Go.CW.Spec Try.prog 21 #[(.int .u32 p0), (.int .u32 (2147483648 : Int)), (.int .u32 (IntKind.wrap .u32 (p0 + (2147483648 : Int))))] w13 fun v15 w16 =>
                      ∃ b17 : Bool, ((v15 : Value) = (.bool b17)) ∧
                       cond (!b17)
                         (Go.CW.Spec Try.prog 17 #[(.int .u32 p0), (.int .u32 (IntKind.wrap .u32 (p0 + (2147483648 : Int))))] w16 fun v18 w19 =>
                           ∃ n20 : Int, ((v18 : Value) = (.int .i64 n20)) ∧
                            Go.CW.Spec Try.prog 17 #[(.int .u32 (IntKind.wrap .u32 (p0 + (2147483648 : Int)))), (.int .u32 p0)] w19 fun v21 w22 =>
                             ∃ n23 : Int, ((v21 : Value) = (.int .i64 n23)) ∧
                              j11 (n20 == n23) w22)
                         (j11 false w16))
                    (j11 false w13))
               (j11 false w7)))

theorem gemellaw1_BinHalves_wp (p0 : Int) (p1 : Int) (w : World) (R : KV) (h : gemellaw1_BinHalves_F p0 p1 w R) : Go.CW.Spec Try.prog 9 #[(.int .u32 p0), (.int .u32 p1)] w R :=
  spec_of Try.func9 (by kernel_rfl) (show gemellaw1_BinHalves_F p0 p1 w R = _ by kernel_rfl) h

/-- gemel/gemellaw1.known -/
def gemellaw1_known_F  (w : World) (R : KV) : Prop :=
 Go.CW.Spec Try.prog 11 #[(.slice none 0 0), (.int .u64 (258 : Int)), (.int .i64 (3 : Int))] w fun v0 w1 =>
  Go.CW.Spec Try.prog 13 #[v0, (.int .i64 (1 : Int)), (.int .i64 (2 : Int))] w1 fun v2 w3 =>
   ∃ n4 : Int, ∃ b5 : Bool, ((v2 : Value) = (.tuple #[(.int .u64 n4), (.bool b5)])) ∧
     JoinP [.bool]
       (fun (b6 : Bool) => fun (w7 : World) =>
        R (.bool b6) w7)
       (fun j8 =>
        ∃ m9 : Nat, ((Go.CW.sliceLen v0) = (some m9)) ∧
         cond (((m9 : Nat) : Int) == (3 : Int))
           (cond b5
              (cond (n4 == (258 : Int))
                 (Go.CW.Spec Try.prog 19 #[(.int .u32 (4294967295 : Int)), (.int .u32 (1 : Int))] w3 fun v10 w11 =>
                   ∃ b12 : Bool, ((v10 : Value) = (.bool b12)) ∧
                    cond b12
                      (Go.CW.Spec Try.prog 17 #[(.int .u32 (4294967295 : Int)), (.int .u32 (0 : Int))] w11 fun v13 w14 =>
                        ∃ n15 : Int, ((v13 : Value) = (.int .i64 n15)) ∧
                         cond (n15 == (1 : Int))
                           (Go.CW.Spec Try.prog 21 #[(.int .u32 (4294967295 : Int)), (.int .u32 (2 : Int)), (.int .u32 (0 : Int))] w14 fun v16 w17 =>
                             ∃ b18 : Bool, ((v16 : Value) = (.bool b18)) ∧
                              cond b18
                                (Go.CW.Spec Try.prog 15 #[v0, (.int .i64 (4 : Int))] w17 fun v19 w20 =>
                                  ∃ m21 : Nat, ((Go.CW.sliceLen v19) = (some m21)) ∧
                                   j8 (((m21 : Nat) : Int) == (4 : Int)) w20)
                                (j8 false w17))
                           (j8 false w14))
                      (j8 false w11))
                 (j8 false w3))
              (j8 false w3))
           (j8 false w3))

theorem gemellaw1_known_wp  (w : World) (R : KV) (h : gemellaw1_known_F  w R) : Go.CW.Spec Try.prog 10 #[] w R :=
  spec_of Try.func10 (by kernel_rfl) (show gemellaw1_known_F  w R = _ by kernel_rfl) h

/-- gemel/bin.Put -/
def bin_Put_F (p0 : Value) (p1 : Int) (p2 : Int) (w : World) (R : KV) : Prop :=
 Go.CW.Spec Try.prog 23 #[p0] w fun v0 w1 =>
  JoinP [.bool]
    (fun (b2 : Bool) => fun (w3 : World) =>
     cond b2
       (R v0 w3)
       (LoopP [.val, .int .i64]
          (fun j4 => fun (v5 : Value) => fun (n6 : Int) => fun (w7 : World) =>
           cond (decide (n6 ≥ (0 : Int)))
             (leK (IntKind.wrap .i64 ((8 : Int) * n6)) (∃ v8 : Value, ∃ w9 : World, ((Sem.run @Go.Proofs.Try.prog (Go.Builtin.append_ #[22, 22] 22 #[v5, (.slice (some ⟨(Array.size (World.heap w7)), 0, none⟩) 1 1)]) (World.alloc w7 (.cells #[(.int .u8 (IntKind.wrap .u8 (Int.fdiv p1 ((2 : Int) ^ (min (Int.toNat (IntKind.wrap .i64 ((8 : Int) * n6))) 64)))))] 5))) = (.ok v8 w9)) ∧
                 j4 v8 (IntKind.wrap .i64 (n6 - (1 : Int))) w9))
             (Go.CW.Spec Try.prog 24 #[v5] w7 fun v10 w11 =>
               R v10 w11))
          (fun s12 => s12 v0 (IntKind.wrap .i64 (p2 - (1 : Int))) w3)))
    (fun j13 =>
     cond (decide (p2 < (1 : Int)))
       (j13 true w1)
       (j13 (decide (p2 > (8 : Int))) w1))

theorem bin_Put_wp (p0 : Value) (p1 : Int) (p2 : Int) (w : World) (R : KV) (h : bin_Put_F p0 p1 p2 w R) : Go.CW.Spec Try.prog 11 #[p0, (.int .u64 p1), (.int .i64 p2)] w R :=
  spec_of Try.func11 (by kernel_rfl) (show bin_Put_F p0 p1 p2 w R = _ by kernel_rfl) h

/-- gemel/gemelref1.Put -/
def gemelref1_Put_F (p0 : Value) (p1 : Int) (p2 : Int) (w : World) (R : KV) : Prop :=
 JoinP [.bool]
   (fun (b0 : Bool) => fun (w1 : World) =>
    cond b0
      (R p0 w1)
      (LoopP [.val, .int .i64]
         (fun j2 => fun (v3 : Value) => fun (n4 : Int) => fun (w5 : World) =>
          cond (decide (n4 ≥ (0 : Int)))
            (leK (IntKind.wrap .u64 ((8 : Int) * (IntKind.wrap .u64 n4))) (∃ v6 : Value, ∃ w7 : World, ((Sem.run @Go.Proofs.Try.prog (Go.Builtin.append_ #[22, 22] 22 #[v3, (.slice (some ⟨(Array.size (World.heap w5)), 0, none⟩) 1 1)]) (World.alloc w5 (.cells #[(.int .u8 (IntKind.wrap .u8 (Int.fdiv p1 ((2 : Int) ^ (min (Int.toNat (IntKind.wrap .u64 ((8 : Int) * (IntKind.wrap .u64 n4)))) 64)))))] 5))) = (.ok v6 w7)) ∧
                j2 v6 (IntKind.wrap .i64 (n4 - (1 : Int))) w7))
            (R v3 w5))
         (fun s8 => s8 p0 (IntKind.wrap .i64 (p2 - (1 : Int))) w1)))
   (fun j9 =>
    cond (decide (p2 < (1 : Int)))
      (j9 true w)
      (j9 (decide (p2 > (8 : Int))) w))

theorem gemelref1_Put_wp (p0 : Value) (p1 : Int) (p2 : Int) (w : World) (R : KV) (h : gemelref1_Put_F p0 p1 p2 w R) : Go.CW.Spec Try.prog 12 #[p0, (.int .u64 p1), (.int .i64 p2)] w R :=
  spec_of Try.func12 (by kernel_rfl) (show gemelref1_Put_F p0 p1 p2 w R = _ by kernel_rfl) h

/-- gemel/bin.Get -/
def bin_Get_F (p0 : Value) (p1 : Int) (p2 : Int) (w : World) (R : KV) : Prop :=
 JoinP [.bool]
   (fun (b0 : Bool) => fun (w1 : World) =>
    cond b0
      (R (.tuple #[(.int .u64 (0 : Int)), (.bool false)]) w1)
      (∃ v2 : Value, ((Go.CW.subSlice p0 1 (some (.int .i64 p1)) (some (.int .i64 (IntKind.wrap .i64 (p1 + p2)))) none) = (some v2)) ∧
        ∃ m3 : Nat, ((Go.CW.sliceLen v2) = (some m3)) ∧
         LoopP [.int .u64, .int .i64]
           (fun j4 => fun (n5 : Int) => fun (n6 : Int) => fun (w7 : World) =>
            cond (decide (n6 < ((m3 : Nat) : Int)))
              (∃ a8 : Addr, ((Go.CW.sliceAt v2 n6 1) = (some a8)) ∧
                ∃ n9 : Int, ((Go.World.cell? w7 a8) = (some (.int .u8 n9))) ∧
                 j4 (bitsI .or .u64 (IntKind.wrap .u64 (n5 * (256 : Int))) (IntKind.wrap .u64 n9)) (IntKind.wrap .i64 (n6 + (1 : Int))) w7)
              (R (.tuple #[(.int .u64 n5), (.bool true)]) w7))
           (fun s10 => s10 (0 : Int) (0 : Int) w1)))
   (fun j11 =>
    cond (decide (p2 < (1 : Int)))
      (j11 true w)
      (cond (decide (p2 > (8 : Int)))
         (j11 true w)
         (cond (decide (p1 < (0 : Int)))
            (j11 true w)
            (∃ m12 : Nat, ((Go.CW.sliceLen p0) = (some m12)) ∧
              cond (decide (p1 > ((m12 : Nat) : Int)))
                (j11 true w)
                (∃ m13 : Nat, ((Go.CW.sliceLen p0) = (some m13)) ∧
                  j11 (decide (p2 > (IntKind.wrap .i64 (((m13 : Nat) : Int) - p1)))) w)))))

theorem bin_Get_wp (p0 : Value) (p1 : Int) (p2 : Int) (w : World) (R : KV) (h : bin_Get_F p0 p1 p2 w R) : Go.CW.Spec Try.prog 13 #[p0, (.int .i64 p1), (.int .i64 p2)] w R :=
  spec_of Try.func13 (by kernel_rfl) (show bin_Get_F p0 p1 p2 w R = _ by kernel_rfl) h

/-- gemel/gemelref1.Get -/
def gemelref1_Get_F (p0 : Value) (p1 : Int) (p2 : Int) (w : World) (R : KV) : Prop :=
 JoinP [.bool]
   (fun (b0 : Bool) => fun (w1 : World) =>
    cond b0
      (R (.tuple #[(.int .u64 (0 : Int)), (.bool false)]) w1)
      (LoopP [.int .u64, .int .i64]
         (fun j2 => fun (n3 : Int) => fun (n4 : Int) => fun (w5 : World) =>
          cond (decide (n4 < p2))
            (∃ a6 : Addr, ((Go.CW.sliceAt p0 (IntKind.wrap .i64 (p1 + n4)) 1) = (some a6)) ∧
              ∃ n7 : Int, ((Go.World.cell? w5 a6) = (some (.int .u8 n7))) ∧
               j2 (bitsI .or .u64 (IntKind.wrap .u64 (n3 * (256 : Int))) (IntKind.wrap .u64 n7)) (IntKind.wrap .i64 (n4 + (1 : Int))) w5)
            (R (.tuple #[(.int .u64 n3), (.bool true)]) w5))
         (fun s8 => s8 (0 : Int) (0 : Int) w1)))
   (fun j9 =>
    cond (decide (p2 < (1 : Int)))
      (j9 true w)
      (cond (decide (p2 > (8 : Int)))
         (j9 true w)
         (cond (decide (p1 < (0 : Int)))
            (j9 true w)
            (∃ m10 : Nat, ((Go.CW.sliceLen p0) = (some m10)) ∧
              cond (decide (p1 > ((m10 : Nat) : Int)))
                (j9 true w)
                (∃ m11 : Nat, ((Go.CW.sliceLen p0) = (some m11)) ∧
                  j9 (decide ((IntKind.wrap .i64 (((m11 : Nat) : Int) - p1)) < p2)) w)))))

theorem gemelref1_Get_wp (p0 : Value) (p1 : Int) (p2 : Int) (w : World) (R : KV) (h : gemelref1_Get_F p0 p1 p2 w R) : Go.CW.Spec Try.prog 14 #[p0, (.int .i64 p1), (.int .i64 p2)] w R :=
  spec_of Try.func14 (by kernel_rfl) (show gemelref1_Get_F p0 p1 p2 w R = _ by kernel_rfl) h

/-- gemel/bin.Pad -/
def bin_Pad_F (p0 : Value) (p1 : Int) (w : World) (R : KV) : Prop :=
 Go.CW.Spec Try.prog 23 #[p0] w fun v0 w1 =>
  JoinP [.bool]
    (fun (b2 : Bool) => fun (w3 : World) =>
     cond b2
       (R v0 w3)
       (LoopP [.val]
          (fun j4 => fun (v5 : Value) => fun (w6 : World) =>
           ∃ m7 : Nat, ((Go.CW.sliceLen v5) = (some m7)) ∧
            nzK p1 (cond ((Int.tmod ((m7 : Nat) : Int) p1) != (0 : Int))
               (∃ v8 : Value, ∃ w9 : World, ((Sem.run @Go.Proofs.Try.prog (Go.Builtin.append_ #[22, 22] 22 #[v5, (.slice (some ⟨(Array.size (World.heap w6)), 0, none⟩) 1 1)]) (World.alloc w6 (.cells #[(.int .u8 (0 : Int))] 5))) = (.ok v8 w9)) ∧
                  j4 v8 w9)
               (Go.CW.Spec Try.prog 24 #[v5] w6 fun v10 w11 =>
                 R v10 w11)))
          (fun s12 => s12 v0 w3)))
    (fun j13 =>
     cond (decide (p1 < (1 : Int)))
       (j13 true w1)
       (j13 (decide (p1 > (4096 : Int))) w1))

theorem bin_Pad_wp (p0 : Value) (p1 : Int) (w : World) (R : KV) (h : bin_Pad_F p0 p1 w R) : Go.CW.Spec Try.prog 15 #[p0, (.int .i64 p1)] w R :=
  spec_of Try.func15 (by kernel_rfl) (show bin_Pad_F p0 p1 w R = _ by kernel_rfl) h

/-- gemel/gemelref1.Pad -/
def gemelref1_Pad_F (p0 : Value) (p1 : Int) (w : World) (R : KV) : Prop :=
 JoinP [.bool]
   (fun (b0 : Bool) => fun (w1 : World) =>
    cond b0
      (R p0 w1)
      (LoopP [.val]
         (fun j2 => fun (v3 : Value) => fun (w4 : World) =>
          ∃ m5 : Nat, ((Go.CW.sliceLen v3) = (some m5)) ∧
           nzK p1 (cond ((Int.tmod ((m5 : Nat) : Int) p1) != (0 : Int))
              (∃ v6 : Value, ∃ w7 : World, ((Sem.run @Go.Proofs.Try.prog (Go.Builtin.append_ #[22, 22] 22 #[v3, (.slice (some ⟨(Array.size (World.heap w4)), 0, none⟩) 1 1)]) (World.alloc w4 (.cells #[(.int .u8 (0 : Int))] 5))) = (.ok v6 w7)) ∧
                 j2 v6 w7)
              (R v3 w4)))
         (fun s8 => s8 p0 w1)))
   (fun j9 =>
    cond (decide (p1 < (1 : Int)))
      (j9 true w)
      (j9 (decide (p1 > (4096 : Int))) w))

theorem gemelref1_Pad_wp (p0 : Value) (p1 : Int) (w : World) (R : KV) (h : gemelref1_Pad_F p0 p1 w R) : Go.CW.Spec Try.prog 16 #[p0, (.int .i64 p1)] w R :=
  spec_of Try.func16 (by kernel_rfl) (show gemelref1_Pad_F p0 p1 w R = _ by kernel_rfl) h

/-- gemel/bin.Gap -/
def bin_Gap_F (p0 : Int) (p1 : Int) (w : World) (R : KV) : Prop :=
 R (.int .i64 (IntKind.wrap .i64 (IntKind.wrap .i32 (IntKind.wrap .u32 (p1 - p0))))) w

theorem bin_Gap_wp (p0 : Int) (p1 : Int) (w : World) (R : KV) (h : bin_Gap_F p0 p1 w R) : Go.CW.Spec Try.prog 17 #[(.int .u32 p0), (.int .u32 p1)] w R :=
  spec_of Try.func17 (by kernel_rfl) (show bin_Gap_F p0 p1 w R = _ by kernel_rfl) h

/-- gemel/gemelref1.Gap -/
def gemelref1_Gap_F (p0 : Int) (p1 : Int) (w : World) (R : KV) : Prop :=
 JoinP [.int .i64]
   (fun (n0 : Int) => fun (w1 : World) =>
    R (.int .i64 n0) w1)
   (fun j2 =>
    cond (decide ((IntKind.wrap .i64 (IntKind.wrap .u32 (p1 - p0))) ≥ (2147483648 : Int)))
      (j2 (IntKind.wrap .i64 ((IntKind.wrap .i64 (IntKind.wrap .u32 (p1 - p0))) - (4294967296 : Int))) w)
      (j2 (IntKind.wrap .i64 (IntKind.wrap .u32 (p1 - p0))) w))

theorem gemelref1_Gap_wp (p0 : Int) (p1 : Int) (w : World) (R : KV) (h : gemelref1_Gap_F p0 p1 w R) : Go.CW.Spec Try.prog 18 #[(.int .u32 p0), (.int .u32 p1)] w R :=
  spec_of Try.func18 (by kernel_rfl) (show gemelref1_Gap_F p0 p1 w R = _ by kernel_rfl) h

/-- gemel/bin.Less -/
def bin_Less_F (p0 : Int) (p1 : Int) (w : World) (R : KV) : Prop :=
 Go.CW.Spec Try.prog 17 #[(.int .u32 p0), (.int .u32 p1)] w fun v0 w1 =>
  ∃ n2 : Int, ((v0 : Value) = (.int .i64 n2)) ∧
   R (.bool (decide (n2 > (0 : Int)))) w1

theorem bin_Less_wp (p0 : Int) (p1 : Int) (w : World) (R : KV) (h : bin_Less_F p0 p1 w R) : Go.CW.Spec Try.prog 19 #[(.int .u32 p0), (.int .u32 p1)] w R :=
  spec_of Try.func19 (by kernel_rfl) (show bin_Less_F p0 p1 w R = _ by kernel_rfl) h

/-- gemel/gemelref1.Less -/
def gemelref1_Less_F (p0 : Int) (p1 : Int) (w : World) (R : KV) : Prop :=
 Go.CW.Spec Try.prog 18 #[(.int .u32 p0), (.int .u32 p1)] w fun v0 w1 =>
  ∃ n2 : Int, ((v0 : Value) = (.int .i64 n2)) ∧
   R (.bool (decide (n2 > (0 : Int)))) w1

theorem gemelref1_Less_wp (p0 : Int) (p1 : Int) (w : World) (R : KV) (h : gemelref1_Less_F p0 p1 w R) : Go.CW.Spec Try.prog 20 #[(.int .u32 p0), (.int .u32 p1)] w R :=
  spec_of Try.func20 (by kernel_rfl) (show gemelref1_Less_F p0 p1 w R = _ by kernel_rfl) h

/-- gemel/bin.Within -/
def bin_Within_F (p0 : Int) (p1 : Int) (p2 : Int) (w : World) (R : KV) : Prop :=
 R (.bool (decide ((IntKind.wrap .u32 (p2 - p0)) < p1))) w

theorem bin_Within_wp (p0 : Int) (p1 : Int) (p2 : Int) (w : World) (R : KV) (h : bin_Within_F p0 p1 p2 w R) : Go.CW.Spec Try.prog 21 #[(.int .u32 p0), (.int .u32 p1), (.int .u32 p2)] w R :=
  spec_of Try.func21 (by kernel_rfl) (show bin_Within_F p0 p1 p2 w R = _ by kernel_rfl) h

/-- gemel/gemelref1.Within -/
def gemelref1_Within_F (p0 : Int) (p1 : Int) (p2 : Int) (w : World) (R : KV) : Prop :=
 R (.bool (decide ((IntKind.wrap .u32 (p2 - p0)) < p1))) w

theorem gemelref1_Within_wp (p0 : Int) (p1 : Int) (p2 : Int) (w : World) (R : KV) (h : gemelref1_Within_F p0 p1 p2 w R) : Go.CW.Spec Try.prog 22 #[(.int .u32 p0), (.int .u32 p1), (.int .u32 p2)] w R :=
  spec_of Try.func22 (by kernel_rfl) (show gemelref1_Within_F p0 p1 p2 w R = _ by kernel_rfl) h

/-- slices.Clone[[]byte,byte] -/
def slices_Clone___F (p0 : Value) (w : World) (R : KV) : Prop :=
 ∃ b0 : Bool, ((Go.CW.isNilS p0) = (some b0)) ∧
  cond b0
    (R (.slice none 0 0) w)
    (∃ v1 : Value, ∃ w2 : World, ((Sem.run @Go.Proofs.Try.prog (Go.Builtin.append_ #[22, 22] 22 #[(.slice (some ⟨(Array.size (World.heap w)), 0, none⟩) 0 0), p0]) (World.alloc w (.cells #[] 5))) = (.ok v1 w2)) ∧
       R v1 w2)

theorem slices_Clone___wp (p0 : Value) (w : World) (R : KV) (h : slices_Clone___F p0 w R) : Go.CW.Spec Try.prog 23 #[p0] w R :=
  spec_of Try.func23 (by kernel_rfl) (show slices_Clone___F p0 w R = _ by kernel_rfl) h

/-- slices.Clip[[]byte,byte] -/
def slices_Clip___F (p0 : Value) (w : World) (R : KV) : Prop :=
 ∃ m0 : Nat, ((Go.CW.sliceLen p0) = (some m0)) ∧
  ∃ m1 : Nat, ((Go.CW.sliceLen p0) = (some m1)) ∧
   ∃ v2 : Value, ((Go.CW.subSlice p0 1 none (some (.int .i64 ((m0 : Nat) : Int))) (some (.int .i64 ((m1 : Nat) : Int)))) = (some v2)) ∧
    R v2 w

theorem slices_Clip___wp (p0 : Value) (w : World) (R : KV) (h : slices_Clip___F p0 w R) : Go.CW.Spec Try.prog 24 #[p0] w R :=
  spec_of Try.func24 (by kernel_rfl) (show slices_Clip___F p0 w R = _ by kernel_rfl) h

end Go.Proofs.Ytfdnnlfakfjklaa
