/- The formulas of some functions, printed by a program (wip/cw/CwGen). -/
import Derived.Test.YtpbcdhpajjkldaaFacts
set_option linter.unusedVariables false
set_option maxRecDepth 100000
namespace Go.Proofs.Ytpbcdhpajjkldaa
open Go Go.CW

/-- gemel/gemellaw6.ListBytes -/
def gemellaw6_ListBytes_F (p0 : Value) (w : World) (R : KV) : Prop :=
 Go.CW.Spec Try.prog 7 #[] w fun v0 w1 =>
  ∃ b2 : Bool, ((v0 : Value) = (.bool b2)) ∧
   cond (!b2)
     (R (.bool false) w1)
     (∃ m3 : Nat, ((Go.CW.sliceLen p0) = (some m3)) ∧
       cond (decide (((m3 : Nat) : Int) > (500 : Int)))
         (R (.bool true) w1)
         (Go.CW.Spec Try.prog 8 #[p0] w1 fun v4 w5 =>
           ∃ n6 : Int, ∃ n7 : Int, ∃ n8 : Int, ∃ n9 : Int, ∃ n10 : Int, ∃ v11 : Value, ∃ n12 : Int, ∃ b13 : Bool, ((v4 : Value) = (.tuple #[(.int .u64 n6), (.int .u64 n7), (.agg #[(.int .i64 n8), (.int .i64 n9), (.int .i64 n10), v11, (.int .i64 n12)]), (.bool b13)])) ∧
                   (StRow (World.alloc w5 (.cells #[(.int .i64 (0 : Int)), (.int .i64 (0 : Int)), (.int .i64 (0 : Int)), (.slice none 0 0), (.int .i64 (0 : Int))] 26)) ⟨(Array.size (World.heap w5)), 0, none⟩ #[(.int .i64 n8), (.int .i64 n9), (.int .i64 n10), v11, (.int .i64 n12)]) ∧
                   Go.CW.Spec Try.prog 9 #[p0] (stRow (World.alloc w5 (.cells #[(.int .i64 (0 : Int)), (.int .i64 (0 : Int)), (.int .i64 (0 : Int)), (.slice none 0 0), (.int .i64 (0 : Int))] 26)) ⟨(Array.size (World.heap w5)), 0, none⟩ #[(.int .i64 n8), (.int .i64 n9), (.int .i64 n10), v11, (.int .i64 n12)]) fun v14 w15 =>
                    ∃ n16 : Int, ∃ n17 : Int, ∃ b18 : Bool, ((v14 : Value) = (.tuple #[(.int .u64 n16), (.int .u64 n17), (.bool b18)])) ∧
                       JoinP [.bool]
                         (fun (b19 : Bool) => fun (w20 : World) =>
                          cond b19
                            (R (.bool false) w20)
                            (Go.CW.Spec Try.prog 10 #[p0] w20 fun v21 w22 =>
                              ∃ n23 : Int, ∃ v24 : Value, ∃ n25 : Int, ((v21 : Value) = (.tuple #[(.int .u32 n23), v24, (.int .i64 n25)])) ∧
                                 Go.CW.Spec Try.prog 11 #[p0] w22 fun v26 w27 =>
                                  ∃ n28 : Int, ∃ v29 : Value, ∃ n30 : Int, ((v26 : Value) = (.tuple #[(.int .u32 n28), v29, (.int .i64 n30)])) ∧
                                     JoinP [.bool]
                                       (fun (b31 : Bool) => fun (w32 : World) =>
                                        cond b31
                                          (R (.bool false) w32)
                                          (LoopP [.int .i64]
                                             (fun j33 => fun (n34 : Int) => fun (w35 : World) =>
                                              ∃ m36 : Nat, ((Go.CW.sliceLen v24) = (some m36)) ∧
                                               cond (decide (n34 < ((m36 : Nat) : Int)))
                                                 (∃ a37 : Addr, ((Go.CW.sliceAt v24 n34 1) = (some a37)) ∧
                                                   ∃ n38 : Int, ((Go.World.cell? (World.drew w35) a37) = (some (.int .u64 n38))) ∧
                                                    ∃ a39 : Addr, ((Go.CW.sliceAt v29 n34 1) = (some a39)) ∧
                                                     ∃ n40 : Int, ((Go.World.cell? (World.drew w35) a39) = (some (.int .u64 n40))) ∧
                                                      cond (n38 != n40)
                                                        (R (.bool false) (World.drew w35))
                                                        (j33 (IntKind.wrap .i64 (n34 + (1 : Int))) (World.drew w35)))
                                                 (Go.CW.Spec Try.prog 12 #[p0] w35 fun v41 w42 =>
                                                   ∃ n43 : Int, ∃ n44 : Int, ∃ n45 : Int, ∃ n46 : Int, ((v41 : Value) = (.tuple #[(.int .u32 n43), (.int .u64 n44), (.int .i64 n45), (.int .i64 n46)])) ∧
                                                       Go.CW.Spec Try.prog 13 #[p0] w42 fun v47 w48 =>
                                                        ∃ n49 : Int, ∃ n50 : Int, ∃ n51 : Int, ∃ n52 : Int, ((v47 : Value) = (.tuple #[(.int .u32 n49), (.int .u64 n50), (.int .i64 n51), (.int .i64 n52)])) ∧
                                                            JoinP [.bool]
                                                              (fun (b53 : Bool) => fun (w54 : World) =>
                                                               R (.bool b53) w54)
                                                              (fun j55 =>
                                                               cond (n43 == n49)
                                                                 (cond (n44 == n50)
                                                                    (cond (n45 == n51)
                                                                       (j55 (n46 == n52) w48)
                                                                       (j55 false w48))
                                                                    (j55 false w48))
                                                                 (j55 false w48))))
                                             (fun s56 => s56 (0 : Int) w32)))
                                       (fun j57 =>
                                        cond (n23 != n28)
                                          (j57 true w27)
                                          (cond (n25 != n30)
                                             (j57 true w27)
                                             (∃ m58 : Nat, ((Go.CW.sliceLen v24) = (some m58)) ∧
                                               ∃ m59 : Nat, ((Go.CW.sliceLen v29) = (some m59)) ∧
                                                j57 (((m58 : Nat) : Int) != ((m59 : Nat) : Int)) w27)))))
                         (fun j60 =>
                          cond (n6 != n16)
                            (j60 true w15)
                            (cond (n7 != n17)
                               (j60 true w15)
                               (cond (!(b13 == b18))
                                  (j60 true w15)
                                  (cond (!b18)
                                     (∃ n61 : Int, ((Go.World.cell? w15 (Addr.add ⟨(Array.size (World.heap w5)), 0, none⟩ 0)) = (some (.int .i64 n61))) ∧
                                       cond (n61 != (2 : Int))
                                         (j60 true w15)
                                         (∃ n62 : Int, ((Go.World.cell? w15 (Addr.add ⟨(Array.size (World.heap w5)), 0, none⟩ 1)) = (some (.int .i64 n62))) ∧
                                           cond (n62 != (5 : Int))
                                             (j60 true w15)
                                             (∃ n63 : Int, ((Go.World.cell? w15 (Addr.add ⟨(Array.size (World.heap w5)), 0, none⟩ 2)) = (some (.int .i64 n63))) ∧
                                               cond (n63 != (9728 : Int))
                                                 (j60 true w15)
                                                 (cond b18
                                                    (∃ n64 : Int, ((Go.World.cell? w15 (Addr.add ⟨(Array.size (World.heap w5)), 0, none⟩ 0)) = (some (.int .i64 n64))) ∧
                                                      cond (n64 != (0 : Int))
                                                        (j60 true w15)
                                                        (∃ n65 : Int, ((Go.World.cell? w15 (Addr.add ⟨(Array.size (World.heap w5)), 0, none⟩ 2)) = (some (.int .i64 n65))) ∧
                                                          j60 (n65 != (0 : Int)) w15))
                                                    (j60 false w15)))))
                                     (cond b18
                                        (∃ n66 : Int, ((Go.World.cell? w15 (Addr.add ⟨(Array.size (World.heap w5)), 0, none⟩ 0)) = (some (.int .i64 n66))) ∧
                                          cond (n66 != (0 : Int))
                                            (j60 true w15)
                                            (∃ n67 : Int, ((Go.World.cell? w15 (Addr.add ⟨(Array.size (World.heap w5)), 0, none⟩ 2)) = (some (.int .i64 n67))) ∧
                                              j60 (n67 != (0 : Int)) w15))
                                        (j60 false w15))))))))

theorem gemellaw6_ListBytes_wp (p0 : Value) (w : World) (R : KV) (h : gemellaw6_ListBytes_F p0 w R) : Go.CW.Spec Try.prog 3 #[p0] w R :=
  spec_of Try.func3 (by kernel_rfl) (show gemellaw6_ListBytes_F p0 w R = _ by kernel_rfl) h

/-- gemel/gemellaw6.ListBack -/
def gemellaw6_ListBack_F (p0 : Int) (p1 : Int) (p2 : Int) (p3 : Value) (p4 : Int) (w : World) (R : KV) : Prop :=
 Go.CW.Spec Try.prog 7 #[] w fun v0 w1 =>
  ∃ b2 : Bool, ((v0 : Value) = (.bool b2)) ∧
   cond (!b2)
     (R (.bool false) w1)
     (∃ m3 : Nat, ((Go.CW.sliceLen p3) = (some m3)) ∧
       cond (decide (((m3 : Nat) : Int) > (30 : Int)))
         (R (.bool true) w1)
         (Go.CW.Spec Try.prog 14 #[(.int .u64 p0), (.int .u64 p1)] w1 fun v4 w5 =>
           Go.CW.Spec Try.prog 15 #[(.int .u32 p2), p3] w5 fun v6 w7 =>
            Go.CW.Spec Try.prog 16 #[(.int .u32 p2), (.int .u64 p0), (.int .i64 p4)] w7 fun v8 w9 =>
             JoinP [.bool]
               (fun (b10 : Bool) => fun (w11 : World) =>
                cond b10
                  (R (.bool false) w11)
                  (Go.CW.Spec Try.prog 8 #[v4] w11 fun v12 w13 =>
                    ∃ n14 : Int, ∃ n15 : Int, ∃ n16 : Int, ∃ n17 : Int, ∃ n18 : Int, ∃ v19 : Value, ∃ n20 : Int, ∃ b21 : Bool, ((v12 : Value) = (.tuple #[(.int .u64 n14), (.int .u64 n15), (.agg #[(.int .i64 n16), (.int .i64 n17), (.int .i64 n18), v19, (.int .i64 n20)]), (.bool b21)])) ∧
                            (StRow (World.alloc w13 (.cells #[(.int .i64 (0 : Int)), (.int .i64 (0 : Int)), (.int .i64 (0 : Int)), (.slice none 0 0), (.int .i64 (0 : Int))] 26)) ⟨(Array.size (World.heap w13)), 0, none⟩ #[(.int .i64 n16), (.int .i64 n17), (.int .i64 n18), v19, (.int .i64 n20)]) ∧
                            Go.CW.Spec Try.prog 10 #[v6] (stRow (World.alloc w13 (.cells #[(.int .i64 (0 : Int)), (.int .i64 (0 : Int)), (.int .i64 (0 : Int)), (.slice none 0 0), (.int .i64 (0 : Int))] 26)) ⟨(Array.size (World.heap w13)), 0, none⟩ #[(.int .i64 n16), (.int .i64 n17), (.int .i64 n18), v19, (.int .i64 n20)]) fun v22 w23 =>
                             ∃ n24 : Int, ∃ v25 : Value, ∃ n26 : Int, ((v22 : Value) = (.tuple #[(.int .u32 n24), v25, (.int .i64 n26)])) ∧
                                JoinP [.bool]
                                  (fun (b27 : Bool) => fun (w28 : World) =>
                                   cond b27
                                     (R (.bool false) w28)
                                     (LoopP [.int .i64]
                                        (fun j29 => fun (n30 : Int) => fun (w31 : World) =>
                                         ∃ m32 : Nat, ((Go.CW.sliceLen v25) = (some m32)) ∧
                                          cond (decide (n30 < ((m32 : Nat) : Int)))
                                            (∃ a33 : Addr, ((Go.CW.sliceAt v25 n30 1) = (some a33)) ∧
                                              ∃ n34 : Int, ((Go.World.cell? (World.drew w31) a33) = (some (.int .u64 n34))) ∧
                                               ∃ a35 : Addr, ((Go.CW.sliceAt p3 n30 1) = (some a35)) ∧
                                                ∃ n36 : Int, ((Go.World.cell? (World.drew w31) a35) = (some (.int .u64 n36))) ∧
                                                 cond (n34 != n36)
                                                   (R (.bool false) (World.drew w31))
                                                   (j29 (IntKind.wrap .i64 (n30 + (1 : Int))) (World.drew w31)))
                                            (Go.CW.Spec Try.prog 12 #[v8] w31 fun v37 w38 =>
                                              ∃ n39 : Int, ∃ n40 : Int, ∃ n41 : Int, ∃ n42 : Int, ((v37 : Value) = (.tuple #[(.int .u32 n39), (.int .u64 n40), (.int .i64 n41), (.int .i64 n42)])) ∧
                                                  cond ((bitsI .and .i64 p4 (15 : Int)) == (0 : Int))
                                                    (JoinP [.bool]
                                                       (fun (b43 : Bool) => fun (w44 : World) =>
                                                        R (.bool b43) w44)
                                                       (fun j45 =>
                                                        cond (n42 == (0 : Int))
                                                          (cond (n39 == p2)
                                                             (cond (n40 == (0 : Int))
                                                                (j45 (n41 == (0 : Int)) w38)
                                                                (j45 false w38))
                                                             (j45 false w38))
                                                          (j45 false w38)))
                                                    (JoinP [.bool]
                                                       (fun (b46 : Bool) => fun (w47 : World) =>
                                                        R (.bool b46) w47)
                                                       (fun j48 =>
                                                        cond (n42 == (0 : Int))
                                                          (cond (n39 == p2)
                                                             (cond (n40 == p0)
                                                                (j48 (n41 == (bitsI .and .i64 p4 (15 : Int))) w38)
                                                                (j48 false w38))
                                                             (j48 false w38))
                                                          (j48 false w38)))))
                                        (fun s49 => s49 (0 : Int) w28)))
                                  (fun j50 =>
                                   cond (!b21)
                                     (j50 true w23)
                                     (cond (n14 != p0)
                                        (j50 true w23)
                                        (cond (n15 != p1)
                                           (j50 true w23)
                                           (cond (n26 != (0 : Int))
                                              (j50 true w23)
                                              (cond (n24 != p2)
                                                 (j50 true w23)
                                                 (∃ m51 : Nat, ((Go.CW.sliceLen v25) = (some m51)) ∧
                                                   ∃ m52 : Nat, ((Go.CW.sliceLen p3) = (some m52)) ∧
                                                    cond (((m51 : Nat) : Int) != ((m52 : Nat) : Int))
                                                      (∃ m53 : Nat, ((Go.CW.sliceLen p3) = (some m53)) ∧
                                                        cond (decide (((m53 : Nat) : Int) ≤ (16 : Int)))
                                                          (j50 true w23)
                                                          (∃ m54 : Nat, ((Go.CW.sliceLen v25) = (some m54)) ∧
                                                            j50 (((m54 : Nat) : Int) != (16 : Int)) w23))
                                                      (j50 false w23)))))))))
               (fun j55 =>
                ∃ s56 : ByteArray, ((Sem.run @Go.Proofs.Try.prog (Go.convert 22 9 v4) (World.drew w9)) = (.ok (.string s56) (World.drew w9))) ∧
                 Go.CW.Spec Try.prog 17 #[(.int .u64 p0), (.int .u64 p1)] (World.drew w9) fun v57 w58 =>
                  (∃ s59 : ByteArray, ((Sem.run @Go.Proofs.Try.prog (Go.convert 22 9 v4) w58) = (.ok (.string s59) w58)) ∧
                   ((.string s59) : Value) = (.string s56)) ∧
                  ∃ s60 : ByteArray, ((Sem.run @Go.Proofs.Try.prog (Go.convert 22 9 v57) w58) = (.ok (.string s60) w58)) ∧
                   cond (!(ByteArray.toList s56 == ByteArray.toList s60))
                     (j55 true w58)
                     (∃ s61 : ByteArray, ((Sem.run @Go.Proofs.Try.prog (Go.convert 22 9 v6) w58) = (.ok (.string s61) w58)) ∧
                       Go.CW.Spec Try.prog 18 #[(.int .u32 p2), p3] w58 fun v62 w63 =>
                        (∃ s64 : ByteArray, ((Sem.run @Go.Proofs.Try.prog (Go.convert 22 9 v6) w63) = (.ok (.string s64) w63)) ∧
                         ((.string s64) : Value) = (.string s61)) ∧
                        ∃ s65 : ByteArray, ((Sem.run @Go.Proofs.Try.prog (Go.convert 22 9 v62) w63) = (.ok (.string s65) w63)) ∧
                         cond (!(ByteArray.toList s61 == ByteArray.toList s65))
                           (j55 true w63)
                           (∃ s66 : ByteArray, ((Sem.run @Go.Proofs.Try.prog (Go.convert 22 9 v8) w63) = (.ok (.string s66) w63)) ∧
                             Go.CW.Spec Try.prog 19 #[(.int .u32 p2), (.int .u64 p0), (.int .i64 p4)] w63 fun v67 w68 =>
                              (∃ s69 : ByteArray, ((Sem.run @Go.Proofs.Try.prog (Go.convert 22 9 v8) w68) = (.ok (.string s69) w68)) ∧
                               ((.string s69) : Value) = (.string s66)) ∧
                              ∃ s70 : ByteArray, ((Sem.run @Go.Proofs.Try.prog (Go.convert 22 9 v67) w68) = (.ok (.string s70) w68)) ∧
                               j55 (!(ByteArray.toList s66 == ByteArray.toList s70)) w68)))))

theorem gemellaw6_ListBack_wp (p0 : Int) (p1 : Int) (p2 : Int) (p3 : Value) (p4 : Int) (w : World) (R : KV) (h : gemellaw6_ListBack_F p0 p1 p2 p3 p4 w R) : Go.CW.Spec Try.prog 4 #[(.int .u64 p0), (.int .u64 p1), (.int .u32 p2), p3, (.int .i64 p4)] w R :=
  spec_of Try.func4 (by kernel_rfl) (show gemellaw6_ListBack_F p0 p1 p2 p3 p4 w R = _ by kernel_rfl) h

/-- gemel/gemellaw6.ListCuts -/
def gemellaw6_ListCuts_F (p0 : Int) (p1 : Value) (p2 : Int) (p3 : Int) (w : World) (R : KV) : Prop :=
 Go.CW.Spec Try.prog 7 #[] w fun v0 w1 =>
  ∃ b2 : Bool, ((v0 : Value) = (.bool b2)) ∧
   cond (!b2)
     (R (.bool false) w1)
     (JoinP [.bool]
        (fun (b3 : Bool) => fun (w4 : World) =>
         cond b3
           (R (.bool true) w4)
           (Go.CW.Spec Try.prog 15 #[(.int .u32 p0), p1] w4 fun v5 w6 =>
             ∃ m7 : Nat, ((Go.CW.sliceLen v5) = (some m7)) ∧
              nzK ((m7 : Nat) : Int) (∃ v8 : Value, ((Go.CW.subSlice v5 1 none (some (.int .i64 (Int.tmod p2 ((m7 : Nat) : Int)))) none) = (some v8)) ∧
                Go.CW.Spec Try.prog 10 #[v8] w6 fun v9 w10 =>
                 ∃ n11 : Int, ∃ v12 : Value, ∃ n13 : Int, ((v9 : Value) = (.tuple #[(.int .u32 n11), v12, (.int .i64 n13)])) ∧
                    ∃ v14 : Value, ∃ w15 : World, ((Sem.run @Go.Proofs.Try.prog (Go.Builtin.append_ #[22, 22] 22 #[(.slice (some ⟨(Array.size (World.heap w10)), 0, none⟩) 0 0), v5]) (World.alloc w10 (.cells #[] 5))) = (.ok v14 w15)) ∧
                      ∃ v16 : Value, ∃ w17 : World, ((Sem.run @Go.Proofs.Try.prog (Go.Builtin.append_ #[22, 22] 22 #[v14, (.slice (some ⟨(Array.size (World.heap w15)), 0, none⟩) 1 1)]) (World.alloc w15 (.cells #[(.int .u8 p3)] 5))) = (.ok v16 w17)) ∧
                        Go.CW.Spec Try.prog 10 #[v16] w17 fun v18 w19 =>
                         ∃ n20 : Int, ∃ v21 : Value, ∃ n22 : Int, ((v18 : Value) = (.tuple #[(.int .u32 n20), v21, (.int .i64 n22)])) ∧
                            ∃ v23 : Value, ∃ w24 : World, ((Sem.run @Go.Proofs.Try.prog (Go.Builtin.append_ #[22, 22] 22 #[(.slice (some ⟨(Array.size (World.heap w19)), 0, none⟩) 0 0), v5]) (World.alloc w19 (.cells #[] 5))) = (.ok v23 w24)) ∧
                              ∃ a25 : Addr, ((Go.CW.sliceAt v23 (IntKind.wrap .i64 ((4 : Int) + (Int.tmod p2 (4 : Int)))) 1) = (some a25)) ∧
                               ∃ n26 : Int, ((Go.World.cell? w24 a25) = (some (.int .u8 n26))) ∧
                                ∃ a27 : Addr, ((Go.CW.sliceAt v23 (IntKind.wrap .i64 ((4 : Int) + (Int.tmod p2 (4 : Int)))) 1) = (some a27)) ∧
                                 (St1 w24 a27) ∧
                                 Go.CW.Spec Try.prog 10 #[v23] (World.setCell w24 a27 (.int .u8 (bitsI .xor .u8 n26 p3))) fun v28 w29 =>
                                  ∃ n30 : Int, ∃ v31 : Value, ∃ n32 : Int, ((v28 : Value) = (.tuple #[(.int .u32 n30), v31, (.int .i64 n32)])) ∧
                                     JoinP [.bool]
                                       (fun (b33 : Bool) => fun (w34 : World) =>
                                        cond b33
                                          (R (.bool false) w34)
                                          (JoinP [.bool]
                                             (fun (b35 : Bool) => fun (w36 : World) =>
                                              R (.bool b35) w36)
                                             (fun j37 =>
                                              cond (n13 == (3 : Int))
                                                (j37 (n22 == (2 : Int)) w34)
                                                (j37 false w34))))
                                       (fun j38 =>
                                        cond (p3 != (0 : Int))
                                          (cond (n32 == (0 : Int))
                                             (j38 true w29)
                                             (∃ m39 : Nat, ((Go.CW.sliceLen v31) = (some m39)) ∧
                                               j38 (((m39 : Nat) : Int) != (0 : Int)) w29))
                                          (j38 false w29)))))
        (fun j40 =>
         ∃ m41 : Nat, ((Go.CW.sliceLen p1) = (some m41)) ∧
          cond (decide (((m41 : Nat) : Int) > (16 : Int)))
            (j40 true w1)
            (j40 (decide (p2 < (0 : Int))) w1)))

theorem gemellaw6_ListCuts_wp (p0 : Int) (p1 : Value) (p2 : Int) (p3 : Int) (w : World) (R : KV) (h : gemellaw6_ListCuts_F p0 p1 p2 p3 w R) : Go.CW.Spec Try.prog 5 #[(.int .u32 p0), p1, (.int .i64 p2), (.int .u8 p3)] w R :=
  spec_of Try.func5 (by kernel_rfl) (show gemellaw6_ListCuts_F p0 p1 p2 p3 w R = _ by kernel_rfl) h

/-- gemel/gemellaw6.ListHolders -/
def gemellaw6_ListHolders_F (p0 : Int) (p1 : Int) (p2 : Int) (p3 : Int) (p4 : Int) (p5 : Int) (w : World) (R : KV) : Prop :=
 Go.CW.Spec Try.prog 7 #[] w fun v0 w1 =>
  ∃ b2 : Bool, ((v0 : Value) = (.bool b2)) ∧
   cond (!b2)
     (R (.bool false) w1)
     (JoinP [.bool]
        (fun (b3 : Bool) => fun (w4 : World) =>
         cond b3
           (R (.bool true) w4)
           (Go.CW.Spec Try.prog 16 #[(.int .u32 p0), (.int .u64 p1), (.int .i64 (IntKind.wrap .i64 p2))] w4 fun v5 w6 =>
             ∃ m7 : Nat, ((Go.CW.sliceLen v5) = (some m7)) ∧
              nzK ((m7 : Nat) : Int) (∃ v8 : Value, ((Go.CW.subSlice v5 1 none (some (.int .i64 (Int.tmod p5 ((m7 : Nat) : Int)))) none) = (some v8)) ∧
                Go.CW.Spec Try.prog 12 #[v8] w6 fun v9 w10 =>
                 ∃ n11 : Int, ∃ n12 : Int, ∃ n13 : Int, ∃ n14 : Int, ((v9 : Value) = (.tuple #[(.int .u32 n11), (.int .u64 n12), (.int .i64 n13), (.int .i64 n14)])) ∧
                     ∃ v15 : Value, ∃ w16 : World, ((Sem.run @Go.Proofs.Try.prog (Go.Builtin.append_ #[22, 22] 22 #[(.slice (some ⟨(Array.size (World.heap w10)), 0, none⟩) 0 0), v5]) (World.alloc w10 (.cells #[] 5))) = (.ok v15 w16)) ∧
                       ∃ m17 : Nat, ((Go.CW.sliceLen v15) = (some m17)) ∧
                        nzK ((m17 : Nat) : Int) (∃ m18 : Nat, ((Go.CW.sliceLen v15) = (some m18)) ∧
                          nzK ((m18 : Nat) : Int) (∃ a19 : Addr, ((Go.CW.sliceAt v15 (Int.tmod p3 ((m18 : Nat) : Int)) 1) = (some a19)) ∧
                            ∃ n20 : Int, ((Go.World.cell? (World.drew w16) a19) = (some (.int .u8 n20))) ∧
                             ∃ a21 : Addr, ((Go.CW.sliceAt v15 (Int.tmod p3 ((m17 : Nat) : Int)) 1) = (some a21)) ∧
                              (St1 (World.drew w16) a21) ∧
                              Go.CW.Spec Try.prog 12 #[v15] (World.setCell (World.drew w16) a21 (.int .u8 (bitsI .xor .u8 n20 p4))) fun v22 w23 =>
                               ∃ n24 : Int, ∃ n25 : Int, ∃ n26 : Int, ∃ n27 : Int, ((v22 : Value) = (.tuple #[(.int .u32 n24), (.int .u64 n25), (.int .i64 n26), (.int .i64 n27)])) ∧
                                   JoinP [.bool]
                                     (fun (b28 : Bool) => fun (w29 : World) =>
                                      cond b28
                                        (R (.bool false) w29)
                                        (cond ((bitsI .and .u8 p2 (15 : Int)) == (0 : Int))
                                           (JoinP [.bool]
                                              (fun (b30 : Bool) => fun (w31 : World) =>
                                               R (.bool b30) w31)
                                              (fun j32 =>
                                               ∃ m33 : Nat, ((Go.CW.sliceLen v5) = (some m33)) ∧
                                                cond (((m33 : Nat) : Int) == (8 : Int))
                                                  (j32 (n14 == (3 : Int)) w29)
                                                  (j32 false w29)))
                                           (JoinP [.bool]
                                              (fun (b34 : Bool) => fun (w35 : World) =>
                                               R (.bool b34) w35)
                                              (fun j36 =>
                                               ∃ m37 : Nat, ((Go.CW.sliceLen v5) = (some m37)) ∧
                                                cond (((m37 : Nat) : Int) == (24 : Int))
                                                  (cond (n14 == (3 : Int))
                                                     (j36 true w29)
                                                     (∃ m38 : Nat, ((Go.CW.sliceLen v5) = (some m38)) ∧
                                                       nzK ((m38 : Nat) : Int) (j36 (decide ((Int.tmod p5 ((m38 : Nat) : Int)) ≥ (8 : Int))) w29)))
                                                  (j36 false w29)))))
                                     (fun j39 =>
                                      cond (n27 == (0 : Int))
                                        (∃ s40 : ByteArray, ((Sem.run @Go.Proofs.Try.prog (Go.convert 22 9 v15) (World.drew w23)) = (.ok (.string s40) (World.drew w23))) ∧
                                          Go.CW.Spec Try.prog 16 #[(.int .u32 n24), (.int .u64 n25), (.int .i64 n26)] (World.drew w23) fun v41 w42 =>
                                           (∃ s43 : ByteArray, ((Sem.run @Go.Proofs.Try.prog (Go.convert 22 9 v15) w42) = (.ok (.string s43) w42)) ∧
                                            ((.string s43) : Value) = (.string s40)) ∧
                                           ∃ s44 : ByteArray, ((Sem.run @Go.Proofs.Try.prog (Go.convert 22 9 v41) w42) = (.ok (.string s44) w42)) ∧
                                            j39 (!(ByteArray.toList s44 == ByteArray.toList s40)) w42)
                                        (j39 false (World.drew w23))))))))
        (fun j45 =>
         cond (decide (p3 < (0 : Int)))
           (j45 true w1)
           (j45 (decide (p5 < (0 : Int))) w1)))

theorem gemellaw6_ListHolders_wp (p0 : Int) (p1 : Int) (p2 : Int) (p3 : Int) (p4 : Int) (p5 : Int) (w : World) (R : KV) (h : gemellaw6_ListHolders_F p0 p1 p2 p3 p4 p5 w R) : Go.CW.Spec Try.prog 6 #[(.int .u32 p0), (.int .u64 p1), (.int .u8 p2), (.int .i64 p3), (.int .u8 p4), (.int .i64 p5)] w R :=
  spec_of Try.func6 (by kernel_rfl) (show gemellaw6_ListHolders_F p0 p1 p2 p3 p4 p5 w R = _ by kernel_rfl) h

/-- gemel/gemellaw6.known -/
def gemellaw6_known_F  (w : World) (R : KV) : Prop :=
 Go.CW.Spec Try.prog 14 #[(.int .u64 (3 : Int)), (.int .u64 (4 : Int))] w fun v0 w1 =>
  Go.CW.Spec Try.prog 8 #[v0] w1 fun v2 w3 =>
   ∃ n4 : Int, ∃ n5 : Int, ∃ n6 : Int, ∃ n7 : Int, ∃ n8 : Int, ∃ v9 : Value, ∃ n10 : Int, ∃ b11 : Bool, ((v2 : Value) = (.tuple #[(.int .u64 n4), (.int .u64 n5), (.agg #[(.int .i64 n6), (.int .i64 n7), (.int .i64 n8), v9, (.int .i64 n10)]), (.bool b11)])) ∧
           (StRow (World.alloc w3 (.cells #[(.int .i64 (0 : Int)), (.int .i64 (0 : Int)), (.int .i64 (0 : Int)), (.slice none 0 0), (.int .i64 (0 : Int))] 26)) ⟨(Array.size (World.heap w3)), 0, none⟩ #[(.int .i64 n6), (.int .i64 n7), (.int .i64 n8), v9, (.int .i64 n10)]) ∧
           Go.CW.Spec Try.prog 15 #[(.int .u32 (7 : Int)), (.slice (some ⟨(Array.size (World.heap (stRow (World.alloc w3 (.cells #[(.int .i64 (0 : Int)), (.int .i64 (0 : Int)), (.int .i64 (0 : Int)), (.slice none 0 0), (.int .i64 (0 : Int))] 26)) ⟨(Array.size (World.heap w3)), 0, none⟩ #[(.int .i64 n6), (.int .i64 n7), (.int .i64 n8), v9, (.int .i64 n10)]))), 0, none⟩) 2 2)] (World.alloc (stRow (World.alloc w3 (.cells #[(.int .i64 (0 : Int)), (.int .i64 (0 : Int)), (.int .i64 (0 : Int)), (.slice none 0 0), (.int .i64 (0 : Int))] 26)) ⟨(Array.size (World.heap w3)), 0, none⟩ #[(.int .i64 n6), (.int .i64 n7), (.int .i64 n8), v9, (.int .i64 n10)]) (.cells #[(.int .u64 (1 : Int)), (.int .u64 (2 : Int))] 24)) fun v12 w13 =>
            Go.CW.Spec Try.prog 10 #[v12] w13 fun v14 w15 =>
             ∃ n16 : Int, ∃ v17 : Value, ∃ n18 : Int, ((v14 : Value) = (.tuple #[(.int .u32 n16), v17, (.int .i64 n18)])) ∧
                Go.CW.Spec Try.prog 16 #[(.int .u32 (7 : Int)), (.int .u64 (9 : Int)), (.int .i64 (3 : Int))] w15 fun v19 w20 =>
                 Go.CW.Spec Try.prog 12 #[v19] w20 fun v21 w22 =>
                  ∃ n23 : Int, ∃ n24 : Int, ∃ n25 : Int, ∃ n26 : Int, ((v21 : Value) = (.tuple #[(.int .u32 n23), (.int .u64 n24), (.int .i64 n25), (.int .i64 n26)])) ∧
                      Go.CW.Spec Try.prog 20 #[] w22 fun v27 w28 =>
                       ∃ n29 : Int, ∃ b30 : Bool, ((v27 : Value) = (.tuple #[(.int .u64 n29), (.bool b30)])) ∧
                         JoinP [.bool]
                           (fun (b31 : Bool) => fun (w32 : World) =>
                            R (.bool b31) w32)
                           (fun j33 =>
                            cond (n4 == (3 : Int))
                              (cond (n5 == (4 : Int))
                                 (cond b11
                                    (cond (n16 == (7 : Int))
                                       (∃ m34 : Nat, ((Go.CW.sliceLen v17) = (some m34)) ∧
                                         cond (((m34 : Nat) : Int) == (2 : Int))
                                           (cond ((IntKind.wrap .i64 (n18 + n26)) == (0 : Int))
                                              (cond (n23 == (7 : Int))
                                                 (cond (n24 == (9 : Int))
                                                    (cond (n25 == (3 : Int))
                                                       (j33 b30 w28)
                                                       (j33 false w28))
                                                    (j33 false w28))
                                                 (j33 false w28))
                                              (j33 false w28))
                                           (j33 false w28))
                                       (j33 false w28))
                                    (j33 false w28))
                                 (j33 false w28))
                              (j33 false w28))

theorem gemellaw6_known_wp  (w : World) (R : KV) (h : gemellaw6_known_F  w R) : Go.CW.Spec Try.prog 7 #[] w R :=
  spec_of Try.func7 (by kernel_rfl) (show gemellaw6_known_F  w R = _ by kernel_rfl) h

/-- gemel/prlist.Decode -/
def prlist_Decode_F (p0 : Value) (w : World) (R : KV) : Prop :=
 Go.CW.Spec Try.prog 21 #[(.int .i64 (5 : Int)), (.int .i64 (9728 : Int))] (World.alloc w (.cells #[(.int .i64 (0 : Int)), (.int .i64 (0 : Int)), (.int .i64 (0 : Int)), (.slice none 0 0), (.int .i64 (0 : Int))] 26)) fun v0 w1 =>
  ∃ n2 : Int, ∃ n3 : Int, ∃ n4 : Int, ∃ v5 : Value, ∃ n6 : Int, ((v0 : Value) = (.agg #[(.int .i64 n2), (.int .i64 n3), (.int .i64 n4), v5, (.int .i64 n6)])) ∧
       (StRow (World.alloc w1 (.cells #[(.int .i64 (0 : Int)), (.int .i64 (0 : Int)), (.int .i64 (0 : Int)), (.slice none 0 0), (.int .i64 (0 : Int))] 26)) ⟨(Array.size (World.heap w1)), 0, none⟩ #[(.int .i64 n2), (.int .i64 n3), (.int .i64 n4), v5, (.int .i64 n6)]) ∧
       ∃ m7 : Nat, ((Go.CW.sliceLen p0) = (some m7)) ∧
        cond (((m7 : Nat) : Int) != (24 : Int))
          (∃ n8 : Int, ∃ n9 : Int, ∃ n10 : Int, ∃ v11 : Value, ∃ n12 : Int, (ldCells (World.drew (stRow (World.alloc w1 (.cells #[(.int .i64 (0 : Int)), (.int .i64 (0 : Int)), (.int .i64 (0 : Int)), (.slice none 0 0), (.int .i64 (0 : Int))] 26)) ⟨(Array.size (World.heap w1)), 0, none⟩ #[(.int .i64 n2), (.int .i64 n3), (.int .i64 n4), v5, (.int .i64 n6)])) ⟨(Array.size (World.heap w1)), 0, none⟩ 5 #[(.int .i64 n8), (.int .i64 n9), (.int .i64 n10), v11, (.int .i64 n12)]) ∧
                (StRow (World.drew (stRow (World.alloc w1 (.cells #[(.int .i64 (0 : Int)), (.int .i64 (0 : Int)), (.int .i64 (0 : Int)), (.slice none 0 0), (.int .i64 (0 : Int))] 26)) ⟨(Array.size (World.heap w1)), 0, none⟩ #[(.int .i64 n2), (.int .i64 n3), (.int .i64 n4), v5, (.int .i64 n6)])) ⟨(Array.size (World.heap w)), 0, none⟩ #[(.int .i64 n8), (.int .i64 n9), (.int .i64 n10), v11, (.int .i64 n12)]) ∧
                ∃ n13 : Int, ∃ n14 : Int, ∃ n15 : Int, ∃ v16 : Value, ∃ n17 : Int, (ldCells (stRow (World.drew (stRow (World.alloc w1 (.cells #[(.int .i64 (0 : Int)), (.int .i64 (0 : Int)), (.int .i64 (0 : Int)), (.slice none 0 0), (.int .i64 (0 : Int))] 26)) ⟨(Array.size (World.heap w1)), 0, none⟩ #[(.int .i64 n2), (.int .i64 n3), (.int .i64 n4), v5, (.int .i64 n6)])) ⟨(Array.size (World.heap w)), 0, none⟩ #[(.int .i64 n8), (.int .i64 n9), (.int .i64 n10), v11, (.int .i64 n12)]) ⟨(Array.size (World.heap w)), 0, none⟩ 5 #[(.int .i64 n13), (.int .i64 n14), (.int .i64 n15), v16, (.int .i64 n17)]) ∧
                     R (.tuple #[(.int .u64 (0 : Int)), (.int .u64 (0 : Int)), (.agg #[(.int .i64 n13), (.int .i64 n14), (.int .i64 n15), v16, (.int .i64 n17)]), (.bool false)]) (stRow (World.drew (stRow (World.alloc w1 (.cells #[(.int .i64 (0 : Int)), (.int .i64 (0 : Int)), (.int .i64 (0 : Int)), (.slice none 0 0), (.int .i64 (0 : Int))] 26)) ⟨(Array.size (World.heap w1)), 0, none⟩ #[(.int .i64 n2), (.int .i64 n3), (.int .i64 n4), v5, (.int .i64 n6)])) ⟨(Array.size (World.heap w)), 0, none⟩ #[(.int .i64 n8), (.int .i64 n9), (.int .i64 n10), v11, (.int .i64 n12)]))
          (Go.CW.Spec Try.prog 22 #[p0, (.int .i64 (0 : Int)), (.int .i64 (8 : Int))] (stRow (World.alloc w1 (.cells #[(.int .i64 (0 : Int)), (.int .i64 (0 : Int)), (.int .i64 (0 : Int)), (.slice none 0 0), (.int .i64 (0 : Int))] 26)) ⟨(Array.size (World.heap w1)), 0, none⟩ #[(.int .i64 n2), (.int .i64 n3), (.int .i64 n4), v5, (.int .i64 n6)]) fun v18 w19 =>
            ∃ n20 : Int, ∃ b21 : Bool, ((v18 : Value) = (.tuple #[(.int .u64 n20), (.bool b21)])) ∧
              Go.CW.Spec Try.prog 22 #[p0, (.int .i64 (8 : Int)), (.int .i64 (8 : Int))] w19 fun v22 w23 =>
               ∃ n24 : Int, ∃ b25 : Bool, ((v22 : Value) = (.tuple #[(.int .u64 n24), (.bool b25)])) ∧
                 Go.CW.Spec Try.prog 22 #[p0, (.int .i64 (16 : Int)), (.int .i64 (8 : Int))] w23 fun v26 w27 =>
                  ∃ n28 : Int, ∃ b29 : Bool, ((v26 : Value) = (.tuple #[(.int .u64 n28), (.bool b29)])) ∧
                    cond (n28 != (0 : Int))
                      (∃ n30 : Int, ∃ n31 : Int, ∃ n32 : Int, ∃ v33 : Value, ∃ n34 : Int, (ldCells (World.drew w27) ⟨(Array.size (World.heap w1)), 0, none⟩ 5 #[(.int .i64 n30), (.int .i64 n31), (.int .i64 n32), v33, (.int .i64 n34)]) ∧
                            (StRow (World.drew w27) ⟨(Array.size (World.heap w)), 0, none⟩ #[(.int .i64 n30), (.int .i64 n31), (.int .i64 n32), v33, (.int .i64 n34)]) ∧
                            ∃ n35 : Int, ∃ n36 : Int, ∃ n37 : Int, ∃ v38 : Value, ∃ n39 : Int, (ldCells (stRow (World.drew w27) ⟨(Array.size (World.heap w)), 0, none⟩ #[(.int .i64 n30), (.int .i64 n31), (.int .i64 n32), v33, (.int .i64 n34)]) ⟨(Array.size (World.heap w)), 0, none⟩ 5 #[(.int .i64 n35), (.int .i64 n36), (.int .i64 n37), v38, (.int .i64 n39)]) ∧
                                 R (.tuple #[(.int .u64 (0 : Int)), (.int .u64 (0 : Int)), (.agg #[(.int .i64 n35), (.int .i64 n36), (.int .i64 n37), v38, (.int .i64 n39)]), (.bool false)]) (stRow (World.drew w27) ⟨(Array.size (World.heap w)), 0, none⟩ #[(.int .i64 n30), (.int .i64 n31), (.int .i64 n32), v33, (.int .i64 n34)]))
                      ((StRow w27 ⟨(Array.size (World.heap w)), 0, none⟩ #[(.int .i64 (0 : Int)), (.int .i64 (0 : Int)), (.int .i64 (0 : Int)), (.slice none 0 0), (.int .i64 (0 : Int))]) ∧
                       ∃ n40 : Int, ∃ n41 : Int, ∃ n42 : Int, ∃ v43 : Value, ∃ n44 : Int, (ldCells (stRow w27 ⟨(Array.size (World.heap w)), 0, none⟩ #[(.int .i64 (0 : Int)), (.int .i64 (0 : Int)), (.int .i64 (0 : Int)), (.slice none 0 0), (.int .i64 (0 : Int))]) ⟨(Array.size (World.heap w)), 0, none⟩ 5 #[(.int .i64 n40), (.int .i64 n41), (.int .i64 n42), v43, (.int .i64 n44)]) ∧
                            R (.tuple #[(.int .u64 n20), (.int .u64 n24), (.agg #[(.int .i64 n40), (.int .i64 n41), (.int .i64 n42), v43, (.int .i64 n44)]), (.bool true)]) (stRow w27 ⟨(Array.size (World.heap w)), 0, none⟩ #[(.int .i64 (0 : Int)), (.int .i64 (0 : Int)), (.int .i64 (0 : Int)), (.slice none 0 0), (.int .i64 (0 : Int))])))

theorem prlist_Decode_wp (p0 : Value) (w : World) (R : KV) (h : prlist_Decode_F p0 w R) : Go.CW.Spec Try.prog 8 #[p0] w R :=
  spec_of Try.func8 (by kernel_rfl) (show prlist_Decode_F p0 w R = _ by kernel_rfl) h

/-- gemel/gemelref6.Decode -/
def gemelref6_Decode_F (p0 : Value) (w : World) (R : KV) : Prop :=
 ∃ m0 : Nat, ((Go.CW.sliceLen p0) = (some m0)) ∧
  cond (((m0 : Nat) : Int) != (24 : Int))
    (R (.tuple #[(.int .u64 (0 : Int)), (.int .u64 (0 : Int)), (.bool false)]) w)
    (Go.CW.Spec Try.prog 23 #[p0, (.int .i64 (0 : Int)), (.int .i64 (8 : Int))] w fun v1 w2 =>
      ∃ n3 : Int, ∃ b4 : Bool, ((v1 : Value) = (.tuple #[(.int .u64 n3), (.bool b4)])) ∧
        Go.CW.Spec Try.prog 23 #[p0, (.int .i64 (8 : Int)), (.int .i64 (8 : Int))] w2 fun v5 w6 =>
         ∃ n7 : Int, ∃ b8 : Bool, ((v5 : Value) = (.tuple #[(.int .u64 n7), (.bool b8)])) ∧
           Go.CW.Spec Try.prog 23 #[p0, (.int .i64 (16 : Int)), (.int .i64 (8 : Int))] w6 fun v9 w10 =>
            ∃ n11 : Int, ∃ b12 : Bool, ((v9 : Value) = (.tuple #[(.int .u64 n11), (.bool b12)])) ∧
              cond (n11 != (0 : Int))
                (R (.tuple #[(.int .u64 (0 : Int)), (.int .u64 (0 : Int)), (.bool false)]) w10)
                (R (.tuple #[(.int .u64 n3), (.int .u64 n7), (.bool true)]) w10))

theorem gemelref6_Decode_wp (p0 : Value) (w : World) (R : KV) (h : gemelref6_Decode_F p0 w R) : Go.CW.Spec Try.prog 9 #[p0] w R :=
  spec_of Try.func9 (by kernel_rfl) (show gemelref6_Decode_F p0 w R = _ by kernel_rfl) h

/-- gemel/prlist.ParseKeys -/
def prlist_ParseKeys_F (p0 : Value) (w : World) (R : KV) : Prop :=
 Go.CW.Spec Try.prog 24 #[p0] w fun v0 w1 =>
  ∃ n2 : Int, ∃ n3 : Int, ∃ n4 : Int, ((v0 : Value) = (.tuple #[(.int .u32 n2), (.int .i64 n3), (.int .i64 n4)])) ∧
     cond (n4 != (0 : Int))
       (R (.tuple #[(.int .u32 (0 : Int)), (.slice none 0 0), (.int .i64 n4)]) w1)
       (LoopP [.val, .int .i64]
          (fun j5 => fun (v6 : Value) => fun (n7 : Int) => fun (w8 : World) =>
           JoinP [.bool]
             (fun (b9 : Bool) => fun (w10 : World) =>
              cond b9
                (Go.CW.Spec Try.prog 15 #[(.int .u32 n2), v6] w10 fun v11 w12 =>
                  Go.CW.Spec Try.prog 25 #[v11, p0] w12 fun v13 w14 =>
                   ∃ b15 : Bool, ((v13 : Value) = (.bool b15)) ∧
                    cond (!b15)
                      (R (.tuple #[(.int .u32 (0 : Int)), (.slice none 0 0), (.int .i64 (2 : Int))]) w14)
                      (R (.tuple #[(.int .u32 n2), v6, (.int .i64 (0 : Int))]) w14))
                (∃ m16 : Nat, ((Go.CW.sliceLen p0) = (some m16)) ∧
                  cond (decide ((IntKind.wrap .i64 (n7 + (8 : Int))) > ((m16 : Nat) : Int)))
                    (R (.tuple #[(.int .u32 (0 : Int)), (.slice none 0 0), (.int .i64 (2 : Int))]) w10)
                    (Go.CW.Spec Try.prog 22 #[p0, (.int .i64 n7), (.int .i64 (8 : Int))] w10 fun v17 w18 =>
                      ∃ n19 : Int, ∃ b20 : Bool, ((v17 : Value) = (.tuple #[(.int .u64 n19), (.bool b20)])) ∧
                        ∃ v21 : Value, ∃ w22 : World, ((Sem.run @Go.Proofs.Try.prog (Go.Builtin.append_ #[32, 32] 32 #[v6, (.slice (some ⟨(Array.size (World.heap w18)), 0, none⟩) 1 1)]) (World.alloc w18 (.cells #[(.int .u64 n19)] 24))) = (.ok v21 w22)) ∧
                          j5 v21 (IntKind.wrap .i64 (n7 + (8 : Int))) w22)))
             (fun j23 =>
              cond (decide ((IntKind.wrap .i64 (n7 - (8 : Int))) ≥ n3))
                (j23 true w8)
                (∃ m24 : Nat, ((Go.CW.sliceLen v6) = (some m24)) ∧
                  j23 (decide (((m24 : Nat) : Int) > (16 : Int))) w8)))
          (fun s25 => s25 (.slice none 0 0) (8 : Int) w1))

theorem prlist_ParseKeys_wp (p0 : Value) (w : World) (R : KV) (h : prlist_ParseKeys_F p0 w R) : Go.CW.Spec Try.prog 10 #[p0] w R :=
  spec_of Try.func10 (by kernel_rfl) (show prlist_ParseKeys_F p0 w R = _ by kernel_rfl) h

/-- gemel/gemelref6.ParseKeys -/
def gemelref6_ParseKeys_F (p0 : Value) (w : World) (R : KV) : Prop :=
 ∃ m0 : Nat, ((Go.CW.sliceLen p0) = (some m0)) ∧
  cond (decide (((m0 : Nat) : Int) < (8 : Int)))
    (R (.tuple #[(.int .u32 (0 : Int)), (.slice none 0 0), (.int .i64 (3 : Int))]) w)
    (Go.CW.Spec Try.prog 23 #[p0, (.int .i64 (0 : Int)), (.int .i64 (4 : Int))] w fun v1 w2 =>
      ∃ n3 : Int, ∃ b4 : Bool, ((v1 : Value) = (.tuple #[(.int .u64 n3), (.bool b4)])) ∧
        Go.CW.Spec Try.prog 23 #[p0, (.int .i64 (4 : Int)), (.int .i64 (4 : Int))] w2 fun v5 w6 =>
         ∃ n7 : Int, ∃ b8 : Bool, ((v5 : Value) = (.tuple #[(.int .u64 n7), (.bool b8)])) ∧
           ∃ m9 : Nat, ((Go.CW.sliceLen p0) = (some m9)) ∧
            cond (decide ((IntKind.wrap .u64 (IntKind.wrap .i64 (((m9 : Nat) : Int) - (8 : Int)))) < n7))
              (R (.tuple #[(.int .u32 (0 : Int)), (.slice none 0 0), (.int .i64 (3 : Int))]) w6)
              (LoopP [.val, .int .i64]
                 (fun j10 => fun (v11 : Value) => fun (n12 : Int) => fun (w13 : World) =>
                  JoinP [.bool]
                    (fun (b14 : Bool) => fun (w15 : World) =>
                     cond b14
                       (Go.CW.Spec Try.prog 23 #[p0, (.int .i64 n12), (.int .i64 (8 : Int))] w15 fun v16 w17 =>
                         ∃ n18 : Int, ∃ b19 : Bool, ((v16 : Value) = (.tuple #[(.int .u64 n18), (.bool b19)])) ∧
                           ∃ v20 : Value, ∃ w21 : World, ((Sem.run @Go.Proofs.Try.prog (Go.Builtin.append_ #[32, 32] 32 #[v11, (.slice (some ⟨(Array.size (World.heap w17)), 0, none⟩) 1 1)]) (World.alloc w17 (.cells #[(.int .u64 n18)] 24))) = (.ok v20 w21)) ∧
                             j10 v20 (IntKind.wrap .i64 (n12 + (8 : Int))) w21)
                       (∃ s22 : ByteArray, ((Sem.run @Go.Proofs.Try.prog (Go.convert 22 9 p0) (World.drew w15)) = (.ok (.string s22) (World.drew w15))) ∧
                         Go.CW.Spec Try.prog 18 #[(.int .u32 (IntKind.wrap .u32 n3)), v11] (World.drew w15) fun v23 w24 =>
                          (∃ s25 : ByteArray, ((Sem.run @Go.Proofs.Try.prog (Go.convert 22 9 p0) w24) = (.ok (.string s25) w24)) ∧
                           ((.string s25) : Value) = (.string s22)) ∧
                          ∃ s26 : ByteArray, ((Sem.run @Go.Proofs.Try.prog (Go.convert 22 9 v23) w24) = (.ok (.string s26) w24)) ∧
                           cond (!(ByteArray.toList s26 == ByteArray.toList s22))
                             (R (.tuple #[(.int .u32 (0 : Int)), (.slice none 0 0), (.int .i64 (2 : Int))]) w24)
                             (R (.tuple #[(.int .u32 (IntKind.wrap .u32 n3)), v11, (.int .i64 (0 : Int))]) w24)))
                    (fun j27 =>
                     ∃ m28 : Nat, ((Go.CW.sliceLen p0) = (some m28)) ∧
                      cond (decide ((IntKind.wrap .i64 (n12 + (8 : Int))) ≤ ((m28 : Nat) : Int)))
                        (∃ m29 : Nat, ((Go.CW.sliceLen v11) = (some m29)) ∧
                          j27 (decide (((m29 : Nat) : Int) ≤ (16 : Int))) w13)
                        (j27 false w13)))
                 (fun s30 => s30 (.slice none 0 0) (8 : Int) w6)))

theorem gemelref6_ParseKeys_wp (p0 : Value) (w : World) (R : KV) (h : gemelref6_ParseKeys_F p0 w R) : Go.CW.Spec Try.prog 11 #[p0] w R :=
  spec_of Try.func11 (by kernel_rfl) (show gemelref6_ParseKeys_F p0 w R = _ by kernel_rfl) h

/-- gemel/prlist.ParseHolder -/
def prlist_ParseHolder_F (p0 : Value) (w : World) (R : KV) : Prop :=
 Go.CW.Spec Try.prog 24 #[p0] w fun v0 w1 =>
  ∃ n2 : Int, ∃ n3 : Int, ∃ n4 : Int, ((v0 : Value) = (.tuple #[(.int .u32 n2), (.int .i64 n3), (.int .i64 n4)])) ∧
     cond (n4 != (0 : Int))
       (R (.tuple #[(.int .u32 (0 : Int)), (.int .u64 (0 : Int)), (.int .i64 (0 : Int)), (.int .i64 n4)]) w1)
       (JoinP [.int .u64, .int .i64]
          (fun (n5 : Int) => fun (n6 : Int) => fun (w7 : World) =>
           Go.CW.Spec Try.prog 16 #[(.int .u32 n2), (.int .u64 n5), (.int .i64 n6)] w7 fun v8 w9 =>
            Go.CW.Spec Try.prog 25 #[v8, p0] w9 fun v10 w11 =>
             ∃ b12 : Bool, ((v10 : Value) = (.bool b12)) ∧
              cond (!b12)
                (R (.tuple #[(.int .u32 (0 : Int)), (.int .u64 (0 : Int)), (.int .i64 (0 : Int)), (.int .i64 (2 : Int))]) w11)
                (R (.tuple #[(.int .u32 n2), (.int .u64 n5), (.int .i64 n6), (.int .i64 (0 : Int))]) w11))
          (fun j13 =>
           JoinP [.bool]
             (fun (b14 : Bool) => fun (w15 : World) =>
              cond b14
                (Go.CW.Spec Try.prog 22 #[p0, (.int .i64 (8 : Int)), (.int .i64 (8 : Int))] w15 fun v16 w17 =>
                  ∃ n18 : Int, ∃ b19 : Bool, ((v16 : Value) = (.tuple #[(.int .u64 n18), (.bool b19)])) ∧
                    ∃ a20 : Addr, ((Go.CW.sliceAt p0 (21 : Int) 1) = (some a20)) ∧
                     ∃ n21 : Int, ((Go.World.cell? w17 a20) = (some (.int .u8 n21))) ∧
                      j13 n18 (IntKind.wrap .i64 n21) w17)
                (j13 (0 : Int) (0 : Int) w15))
             (fun j22 =>
              cond (decide (n3 > (0 : Int)))
                (∃ m23 : Nat, ((Go.CW.sliceLen p0) = (some m23)) ∧
                  j22 (((m23 : Nat) : Int) == (24 : Int)) w1)
                (j22 false w1))))

theorem prlist_ParseHolder_wp (p0 : Value) (w : World) (R : KV) (h : prlist_ParseHolder_F p0 w R) : Go.CW.Spec Try.prog 12 #[p0] w R :=
  spec_of Try.func12 (by kernel_rfl) (show prlist_ParseHolder_F p0 w R = _ by kernel_rfl) h

/-- gemel/gemelref6.ParseHolder -/
def gemelref6_ParseHolder_F (p0 : Value) (w : World) (R : KV) : Prop :=
 ∃ m0 : Nat, ((Go.CW.sliceLen p0) = (some m0)) ∧
  cond (decide (((m0 : Nat) : Int) < (8 : Int)))
    (R (.tuple #[(.int .u32 (0 : Int)), (.int .u64 (0 : Int)), (.int .i64 (0 : Int)), (.int .i64 (3 : Int))]) w)
    (Go.CW.Spec Try.prog 23 #[p0, (.int .i64 (0 : Int)), (.int .i64 (4 : Int))] w fun v1 w2 =>
      ∃ n3 : Int, ∃ b4 : Bool, ((v1 : Value) = (.tuple #[(.int .u64 n3), (.bool b4)])) ∧
        Go.CW.Spec Try.prog 23 #[p0, (.int .i64 (4 : Int)), (.int .i64 (4 : Int))] w2 fun v5 w6 =>
         ∃ n7 : Int, ∃ b8 : Bool, ((v5 : Value) = (.tuple #[(.int .u64 n7), (.bool b8)])) ∧
           ∃ m9 : Nat, ((Go.CW.sliceLen p0) = (some m9)) ∧
            cond (decide ((IntKind.wrap .u64 (IntKind.wrap .i64 (((m9 : Nat) : Int) - (8 : Int)))) < n7))
              (R (.tuple #[(.int .u32 (0 : Int)), (.int .u64 (0 : Int)), (.int .i64 (0 : Int)), (.int .i64 (3 : Int))]) w6)
              (∃ m10 : Nat, ((Go.CW.sliceLen p0) = (some m10)) ∧
                cond (((m10 : Nat) : Int) == (8 : Int))
                  (cond (n7 != (0 : Int))
                     (R (.tuple #[(.int .u32 (0 : Int)), (.int .u64 (0 : Int)), (.int .i64 (0 : Int)), (.int .i64 (2 : Int))]) w6)
                     (R (.tuple #[(.int .u32 (IntKind.wrap .u32 n3)), (.int .u64 (0 : Int)), (.int .i64 (0 : Int)), (.int .i64 (0 : Int))]) w6))
                  (∃ m11 : Nat, ((Go.CW.sliceLen p0) = (some m11)) ∧
                    cond (((m11 : Nat) : Int) != (24 : Int))
                      (R (.tuple #[(.int .u32 (0 : Int)), (.int .u64 (0 : Int)), (.int .i64 (0 : Int)), (.int .i64 (2 : Int))]) w6)
                      (Go.CW.Spec Try.prog 23 #[p0, (.int .i64 (8 : Int)), (.int .i64 (8 : Int))] w6 fun v12 w13 =>
                        ∃ n14 : Int, ∃ b15 : Bool, ((v12 : Value) = (.tuple #[(.int .u64 n14), (.bool b15)])) ∧
                          ∃ a16 : Addr, ((Go.CW.sliceAt p0 (21 : Int) 1) = (some a16)) ∧
                           ∃ n17 : Int, ((Go.World.cell? w13 a16) = (some (.int .u8 n17))) ∧
                            JoinP [.bool]
                              (fun (b18 : Bool) => fun (w19 : World) =>
                               cond b18
                                 (R (.tuple #[(.int .u32 (0 : Int)), (.int .u64 (0 : Int)), (.int .i64 (0 : Int)), (.int .i64 (2 : Int))]) w19)
                                 (R (.tuple #[(.int .u32 (IntKind.wrap .u32 n3)), (.int .u64 n14), (.int .i64 (IntKind.wrap .i64 n17)), (.int .i64 (0 : Int))]) w19))
                              (fun j20 =>
                               cond ((IntKind.wrap .i64 n17) == (0 : Int))
                                 (j20 true (World.drew w13))
                                 (∃ s21 : ByteArray, ((Sem.run @Go.Proofs.Try.prog (Go.convert 22 9 p0) (World.drew w13)) = (.ok (.string s21) (World.drew w13))) ∧
                                   Go.CW.Spec Try.prog 19 #[(.int .u32 (IntKind.wrap .u32 n3)), (.int .u64 n14), (.int .i64 (IntKind.wrap .i64 n17))] (World.drew w13) fun v22 w23 =>
                                    (∃ s24 : ByteArray, ((Sem.run @Go.Proofs.Try.prog (Go.convert 22 9 p0) w23) = (.ok (.string s24) w23)) ∧
                                     ((.string s24) : Value) = (.string s21)) ∧
                                    ∃ s25 : ByteArray, ((Sem.run @Go.Proofs.Try.prog (Go.convert 22 9 v22) w23) = (.ok (.string s25) w23)) ∧
                                     j20 (!(ByteArray.toList s25 == ByteArray.toList s21)) w23))))))

theorem gemelref6_ParseHolder_wp (p0 : Value) (w : World) (R : KV) (h : gemelref6_ParseHolder_F p0 w R) : Go.CW.Spec Try.prog 13 #[p0] w R :=
  spec_of Try.func13 (by kernel_rfl) (show gemelref6_ParseHolder_F p0 w R = _ by kernel_rfl) h

/-- gemel/prlist.Encode -/
def prlist_Encode_F (p0 : Int) (p1 : Int) (w : World) (R : KV) : Prop :=
 Go.CW.Spec Try.prog 26 #[(.slice none 0 0), (.int .u64 p0), (.int .i64 (8 : Int))] w fun v0 w1 =>
  Go.CW.Spec Try.prog 26 #[v0, (.int .u64 p1), (.int .i64 (8 : Int))] w1 fun v2 w3 =>
   Go.CW.Spec Try.prog 26 #[v2, (.int .u64 (0 : Int)), (.int .i64 (8 : Int))] w3 fun v4 w5 =>
    R v4 w5

theorem prlist_Encode_wp (p0 : Int) (p1 : Int) (w : World) (R : KV) (h : prlist_Encode_F p0 p1 w R) : Go.CW.Spec Try.prog 14 #[(.int .u64 p0), (.int .u64 p1)] w R :=
  spec_of Try.func14 (by kernel_rfl) (show prlist_Encode_F p0 p1 w R = _ by kernel_rfl) h

/-- gemel/prlist.Keys -/
def prlist_Keys_F (p0 : Int) (p1 : Value) (w : World) (R : KV) : Prop :=
 ∃ m0 : Nat, ((Go.CW.sliceLen p1) = (some m0)) ∧
  ∃ v1 : Value, ((Go.CW.subSlice p1 1 none (some (.int .i64 (if (16 : Int) < ((m0 : Nat) : Int) then (16 : Int) else ((m0 : Nat) : Int)))) none) = (some v1)) ∧
   Go.CW.Spec Try.prog 26 #[(.slice none 0 0), (.int .u64 (IntKind.wrap .u64 p0)), (.int .i64 (4 : Int))] w fun v2 w3 =>
    ∃ m4 : Nat, ((Go.CW.sliceLen v1) = (some m4)) ∧
     Go.CW.Spec Try.prog 26 #[v2, (.int .u64 (IntKind.wrap .u64 (IntKind.wrap .i64 ((8 : Int) * ((m4 : Nat) : Int))))), (.int .i64 (4 : Int))] w3 fun v5 w6 =>
      ∃ m7 : Nat, ((Go.CW.sliceLen v1) = (some m7)) ∧
       LoopP [.val, .int .i64]
         (fun j8 => fun (v9 : Value) => fun (n10 : Int) => fun (w11 : World) =>
          cond (decide (n10 < ((m7 : Nat) : Int)))
            (∃ a12 : Addr, ((Go.CW.sliceAt v1 n10 1) = (some a12)) ∧
              ∃ n13 : Int, ((Go.World.cell? w11 a12) = (some (.int .u64 n13))) ∧
               Go.CW.Spec Try.prog 26 #[v9, (.int .u64 n13), (.int .i64 (8 : Int))] w11 fun v14 w15 =>
                j8 v14 (IntKind.wrap .i64 (n10 + (1 : Int))) w15)
            (R v9 w11))
         (fun s16 => s16 v5 (0 : Int) w6)

theorem prlist_Keys_wp (p0 : Int) (p1 : Value) (w : World) (R : KV) (h : prlist_Keys_F p0 p1 w R) : Go.CW.Spec Try.prog 15 #[(.int .u32 p0), p1] w R :=
  spec_of Try.func15 (by kernel_rfl) (show prlist_Keys_F p0 p1 w R = _ by kernel_rfl) h

/-- gemel/prlist.Holder -/
def prlist_Holder_F (p0 : Int) (p1 : Int) (p2 : Int) (w : World) (R : KV) : Prop :=
 Go.CW.Spec Try.prog 26 #[(.slice none 0 0), (.int .u64 (IntKind.wrap .u64 p0)), (.int .i64 (4 : Int))] w fun v0 w1 =>
  cond ((bitsI .and .i64 p2 (15 : Int)) == (0 : Int))
    (Go.CW.Spec Try.prog 26 #[v0, (.int .u64 (0 : Int)), (.int .i64 (4 : Int))] w1 fun v2 w3 =>
      R v2 w3)
    (Go.CW.Spec Try.prog 26 #[v0, (.int .u64 (16 : Int)), (.int .i64 (4 : Int))] w1 fun v4 w5 =>
      Go.CW.Spec Try.prog 26 #[v4, (.int .u64 p1), (.int .i64 (8 : Int))] w5 fun v6 w7 =>
       Go.CW.Spec Try.prog 26 #[v6, (.int .u64 (0 : Int)), (.int .i64 (4 : Int))] w7 fun v8 w9 =>
        Go.CW.Spec Try.prog 26 #[v8, (.int .u64 (IntKind.wrap .u64 (bitsI .and .i64 p2 (15 : Int)))), (.int .i64 (2 : Int))] w9 fun v10 w11 =>
         Go.CW.Spec Try.prog 26 #[v10, (.int .u64 (0 : Int)), (.int .i64 (2 : Int))] w11 fun v12 w13 =>
          R v12 w13)

theorem prlist_Holder_wp (p0 : Int) (p1 : Int) (p2 : Int) (w : World) (R : KV) (h : prlist_Holder_F p0 p1 p2 w R) : Go.CW.Spec Try.prog 16 #[(.int .u32 p0), (.int .u64 p1), (.int .i64 p2)] w R :=
  spec_of Try.func16 (by kernel_rfl) (show prlist_Holder_F p0 p1 p2 w R = _ by kernel_rfl) h

/-- gemel/gemelref6.Encode -/
def gemelref6_Encode_F (p0 : Int) (p1 : Int) (w : World) (R : KV) : Prop :=
 Go.CW.Spec Try.prog 27 #[(.slice none 0 0), (.int .u64 p0), (.int .i64 (8 : Int))] w fun v0 w1 =>
  Go.CW.Spec Try.prog 27 #[v0, (.int .u64 p1), (.int .i64 (8 : Int))] w1 fun v2 w3 =>
   ∃ v4 : Value, ∃ w5 : World, ((Sem.run @Go.Proofs.Try.prog (Go.Builtin.append_ #[22, 3] 22 #[v2, (.int .i64 (8 : Int))]) w3) = (.ok v4 w5)) ∧
     R v4 w5

theorem gemelref6_Encode_wp (p0 : Int) (p1 : Int) (w : World) (R : KV) (h : gemelref6_Encode_F p0 p1 w R) : Go.CW.Spec Try.prog 17 #[(.int .u64 p0), (.int .u64 p1)] w R :=
  spec_of Try.func17 (by kernel_rfl) (show gemelref6_Encode_F p0 p1 w R = _ by kernel_rfl) h

/-- gemel/gemelref6.Keys -/
def gemelref6_Keys_F (p0 : Int) (p1 : Value) (w : World) (R : KV) : Prop :=
 JoinP [.val]
   (fun (v0 : Value) => fun (w1 : World) =>
    Go.CW.Spec Try.prog 27 #[(.slice none 0 0), (.int .u64 (IntKind.wrap .u64 p0)), (.int .i64 (4 : Int))] w1 fun v2 w3 =>
     ∃ m4 : Nat, ((Go.CW.sliceLen v0) = (some m4)) ∧
      Go.CW.Spec Try.prog 27 #[v2, (.int .u64 (IntKind.wrap .u64 (IntKind.wrap .i64 ((8 : Int) * ((m4 : Nat) : Int))))), (.int .i64 (4 : Int))] w3 fun v5 w6 =>
       LoopP [.val, .int .i64]
         (fun j7 => fun (v8 : Value) => fun (n9 : Int) => fun (w10 : World) =>
          ∃ m11 : Nat, ((Go.CW.sliceLen v0) = (some m11)) ∧
           cond (decide (n9 < ((m11 : Nat) : Int)))
             (∃ a12 : Addr, ((Go.CW.sliceAt v0 n9 1) = (some a12)) ∧
               ∃ n13 : Int, ((Go.World.cell? w10 a12) = (some (.int .u64 n13))) ∧
                Go.CW.Spec Try.prog 27 #[v8, (.int .u64 n13), (.int .i64 (8 : Int))] w10 fun v14 w15 =>
                 j7 v14 (IntKind.wrap .i64 (n9 + (1 : Int))) w15)
             (R v8 w10))
         (fun s16 => s16 v5 (0 : Int) w6))
   (fun j17 =>
    ∃ m18 : Nat, ((Go.CW.sliceLen p1) = (some m18)) ∧
     cond (decide (((m18 : Nat) : Int) > (16 : Int)))
       (∃ v19 : Value, ((Go.CW.subSlice p1 1 none (some (.int .i64 (16 : Int))) none) = (some v19)) ∧
         j17 v19 w)
       (j17 p1 w))

theorem gemelref6_Keys_wp (p0 : Int) (p1 : Value) (w : World) (R : KV) (h : gemelref6_Keys_F p0 p1 w R) : Go.CW.Spec Try.prog 18 #[(.int .u32 p0), p1] w R :=
  spec_of Try.func18 (by kernel_rfl) (show gemelref6_Keys_F p0 p1 w R = _ by kernel_rfl) h

/-- gemel/gemelref6.Holder -/
def gemelref6_Holder_F (p0 : Int) (p1 : Int) (p2 : Int) (w : World) (R : KV) : Prop :=
 Go.CW.Spec Try.prog 27 #[(.slice none 0 0), (.int .u64 (IntKind.wrap .u64 p0)), (.int .i64 (4 : Int))] w fun v0 w1 =>
  cond ((bitsI .and .i64 p2 (15 : Int)) == (0 : Int))
    (Go.CW.Spec Try.prog 27 #[v0, (.int .u64 (0 : Int)), (.int .i64 (4 : Int))] w1 fun v2 w3 =>
      R v2 w3)
    (Go.CW.Spec Try.prog 27 #[v0, (.int .u64 (16 : Int)), (.int .i64 (4 : Int))] w1 fun v4 w5 =>
      Go.CW.Spec Try.prog 27 #[v4, (.int .u64 p1), (.int .i64 (8 : Int))] w5 fun v6 w7 =>
       ∃ v8 : Value, ∃ w9 : World, ((Sem.run @Go.Proofs.Try.prog (Go.Builtin.append_ #[22, 22] 22 #[v6, (.slice (some ⟨(Array.size (World.heap w7)), 0, none⟩) 8 8)]) (World.alloc w7 (.cells #[(.int .u8 (0 : Int)), (.int .u8 (0 : Int)), (.int .u8 (0 : Int)), (.int .u8 (0 : Int)), (.int .u8 (0 : Int)), (.int .u8 (IntKind.wrap .u8 (bitsI .and .i64 p2 (15 : Int)))), (.int .u8 (0 : Int)), (.int .u8 (0 : Int))] 5))) = (.ok v8 w9)) ∧
         R v8 w9)

theorem gemelref6_Holder_wp (p0 : Int) (p1 : Int) (p2 : Int) (w : World) (R : KV) (h : gemelref6_Holder_F p0 p1 p2 w R) : Go.CW.Spec Try.prog 19 #[(.int .u32 p0), (.int .u64 p1), (.int .i64 p2)] w R :=
  spec_of Try.func19 (by kernel_rfl) (show gemelref6_Holder_F p0 p1 p2 w R = _ by kernel_rfl) h

/-- gemel/gemellaw6.bad -/
def gemellaw6_bad_F  (w : World) (R : KV) : Prop :=
 Go.CW.Spec Try.prog 8 #[(.slice none 0 0)] w fun v0 w1 =>
  ∃ n2 : Int, ∃ n3 : Int, ∃ n4 : Int, ∃ n5 : Int, ∃ n6 : Int, ∃ v7 : Value, ∃ n8 : Int, ∃ b9 : Bool, ((v0 : Value) = (.tuple #[(.int .u64 n2), (.int .u64 n3), (.agg #[(.int .i64 n4), (.int .i64 n5), (.int .i64 n6), v7, (.int .i64 n8)]), (.bool b9)])) ∧
          (StRow (World.alloc w1 (.cells #[(.int .i64 (0 : Int)), (.int .i64 (0 : Int)), (.int .i64 (0 : Int)), (.slice none 0 0), (.int .i64 (0 : Int))] 26)) ⟨(Array.size (World.heap w1)), 0, none⟩ #[(.int .i64 n4), (.int .i64 n5), (.int .i64 n6), v7, (.int .i64 n8)]) ∧
          JoinP [.int .u64, .bool]
            (fun (n10 : Int) => fun (b11 : Bool) => fun (w12 : World) =>
             R (.tuple #[(.int .u64 n10), (.bool b11)]) w12)
            (fun j13 =>
             cond (!b9)
               (∃ n14 : Int, ((Go.World.cell? (World.drew (stRow (World.alloc w1 (.cells #[(.int .i64 (0 : Int)), (.int .i64 (0 : Int)), (.int .i64 (0 : Int)), (.slice none 0 0), (.int .i64 (0 : Int))] 26)) ⟨(Array.size (World.heap w1)), 0, none⟩ #[(.int .i64 n4), (.int .i64 n5), (.int .i64 n6), v7, (.int .i64 n8)])) (Addr.add ⟨(Array.size (World.heap w1)), 0, none⟩ 2)) = (some (.int .i64 n14))) ∧
                 cond (n14 == (9728 : Int))
                   (∃ n15 : Int, ((Go.World.cell? (World.drew (stRow (World.alloc w1 (.cells #[(.int .i64 (0 : Int)), (.int .i64 (0 : Int)), (.int .i64 (0 : Int)), (.slice none 0 0), (.int .i64 (0 : Int))] 26)) ⟨(Array.size (World.heap w1)), 0, none⟩ #[(.int .i64 n4), (.int .i64 n5), (.int .i64 n6), v7, (.int .i64 n8)])) (Addr.add ⟨(Array.size (World.heap w1)), 0, none⟩ 0)) = (some (.int .i64 n15))) ∧
                     cond (n15 == (2 : Int))
                       (∃ n16 : Int, ((Go.World.cell? (World.drew (stRow (World.alloc w1 (.cells #[(.int .i64 (0 : Int)), (.int .i64 (0 : Int)), (.int .i64 (0 : Int)), (.slice none 0 0), (.int .i64 (0 : Int))] 26)) ⟨(Array.size (World.heap w1)), 0, none⟩ #[(.int .i64 n4), (.int .i64 n5), (.int .i64 n6), v7, (.int .i64 n8)])) (Addr.add ⟨(Array.size (World.heap w1)), 0, none⟩ 1)) = (some (.int .i64 n16))) ∧
                         j13 n2 (n16 == (5 : Int)) (World.drew (stRow (World.alloc w1 (.cells #[(.int .i64 (0 : Int)), (.int .i64 (0 : Int)), (.int .i64 (0 : Int)), (.slice none 0 0), (.int .i64 (0 : Int))] 26)) ⟨(Array.size (World.heap w1)), 0, none⟩ #[(.int .i64 n4), (.int .i64 n5), (.int .i64 n6), v7, (.int .i64 n8)])))
                       (j13 n2 false (World.drew (stRow (World.alloc w1 (.cells #[(.int .i64 (0 : Int)), (.int .i64 (0 : Int)), (.int .i64 (0 : Int)), (.slice none 0 0), (.int .i64 (0 : Int))] 26)) ⟨(Array.size (World.heap w1)), 0, none⟩ #[(.int .i64 n4), (.int .i64 n5), (.int .i64 n6), v7, (.int .i64 n8)]))))
                   (j13 n2 false (World.drew (stRow (World.alloc w1 (.cells #[(.int .i64 (0 : Int)), (.int .i64 (0 : Int)), (.int .i64 (0 : Int)), (.slice none 0 0), (.int .i64 (0 : Int))] 26)) ⟨(Array.size (World.heap w1)), 0, none⟩ #[(.int .i64 n4), (.int .i64 n5), (.int .i64 n6), v7, (.int .i64 n8)]))))
               (j13 n2 false (World.drew (stRow (World.alloc w1 (.cells #[(.int .i64 (0 : Int)), (.int .i64 (0 : Int)), (.int .i64 (0 : Int)), (.slice none 0 0), (.int .i64 (0 : Int))] 26)) ⟨(Array.size (World.heap w1)), 0, none⟩ #[(.int .i64 n4), (.int .i64 n5), (.int .i64 n6), v7, (.int .i64 n8)]))))

theorem gemellaw6_bad_wp  (w : World) (R : KV) (h : gemellaw6_bad_F  w R) : Go.CW.Spec Try.prog 20 #[] w R :=
  spec_of Try.func20 (by kernel_rfl) (show gemellaw6_bad_F  w R = _ by kernel_rfl) h

/-- gemel/sense.Wrong -/
def sense_Wrong_F (p0 : Int) (p1 : Int) (w : World) (R : KV) : Prop :=
 (StRow (World.alloc w (.cells #[(.int .i64 (0 : Int)), (.int .i64 (0 : Int)), (.int .i64 (0 : Int)), (.slice none 0 0), (.int .i64 (0 : Int))] 26)) ⟨(Array.size (World.heap w)), 0, none⟩ #[(.int .i64 (2 : Int)), (.int .i64 p0), (.int .i64 p1), (.slice none 0 0), (.int .i64 (0 : Int))]) ∧
 ∃ n0 : Int, ∃ n1 : Int, ∃ n2 : Int, ∃ v3 : Value, ∃ n4 : Int, (ldCells (stRow (World.alloc w (.cells #[(.int .i64 (0 : Int)), (.int .i64 (0 : Int)), (.int .i64 (0 : Int)), (.slice none 0 0), (.int .i64 (0 : Int))] 26)) ⟨(Array.size (World.heap w)), 0, none⟩ #[(.int .i64 (2 : Int)), (.int .i64 p0), (.int .i64 p1), (.slice none 0 0), (.int .i64 (0 : Int))]) ⟨(Array.size (World.heap w)), 0, none⟩ 5 #[(.int .i64 n0), (.int .i64 n1), (.int .i64 n2), v3, (.int .i64 n4)]) ∧
      R (.agg #[(.int .i64 n0), (.int .i64 n1), (.int .i64 n2), v3, (.int .i64 n4)]) (stRow (World.alloc w (.cells #[(.int .i64 (0 : Int)), (.int .i64 (0 : Int)), (.int .i64 (0 : Int)), (.slice none 0 0), (.int .i64 (0 : Int))] 26)) ⟨(Array.size (World.heap w)), 0, none⟩ #[(.int .i64 (2 : Int)), (.int .i64 p0), (.int .i64 p1), (.slice none 0 0), (.int .i64 (0 : Int))])

theorem sense_Wrong_wp (p0 : Int) (p1 : Int) (w : World) (R : KV) (h : sense_Wrong_F p0 p1 w R) : Go.CW.Spec Try.prog 21 #[(.int .i64 p0), (.int .i64 p1)] w R :=
  spec_of Try.func21 (by kernel_rfl) (show sense_Wrong_F p0 p1 w R = _ by kernel_rfl) h

/-- gemel/bin.Get -/
def bin_Get_F (p0 : Value) (p1 : Int) (p2 : Int) (w : World) (R : KV) : Prop :=
 JoinP [.bool]
   (fun (b0 : Bool) => fun (w1 : World) =>
    cond b0
      (R (.tuple #[(.int .u64 (0 : Int)), (.bool false)]) w1)
      (∃ v2 : Value, ((Go.CW.subSlice p0 1 (some (.int .i64 p1)) (some (.int .i64 (IntKind.wrap .i64 (p1 + p2)))) none) = (some v2)) ∧
        ∃ m3 : Nat, ((Go.CW.sliceLen v2) = (some m3)) ∧
         LoopP [.int .u64, .int .i64]
           (fun j4 => fun (n5 : Int) => fun (n6 : Int) => fun (w7 : World) =>
            cond (decide (n6 < ((m3 : Nat) : Int)))
              (∃ a8 : Addr, ((Go.CW.sliceAt v2 n6 1) = (some a8)) ∧
                ∃ n9 : Int, ((Go.World.cell? w7 a8) = (some (.int .u8 n9))) ∧
                 j4 (bitsI .or .u64 (IntKind.wrap .u64 (n5 * (256 : Int))) (IntKind.wrap .u64 n9)) (IntKind.wrap .i64 (n6 + (1 : Int))) w7)
              (R (.tuple #[(.int .u64 n5), (.bool true)]) w7))
           (fun s10 => s10 (0 : Int) (0 : Int) w1)))
   (fun j11 =>
    cond (decide (p2 < (1 : Int)))
      (j11 true w)
      (cond (decide (p2 > (8 : Int)))
         (j11 true w)
         (cond (decide (p1 < (0 : Int)))
            (j11 true w)
            (∃ m12 : Nat, ((Go.CW.sliceLen p0) = (some m12)) ∧
              cond (decide (p1 > ((m12 : Nat) : Int)))
                (j11 true w)
                (∃ m13 : Nat, ((Go.CW.sliceLen p0) = (some m13)) ∧
                  j11 (decide (p2 > (IntKind.wrap .i64 (((m13 : Nat) : Int) - p1)))) w)))))

theorem bin_Get_wp (p0 : Value) (p1 : Int) (p2 : Int) (w : World) (R : KV) (h : bin_Get_F p0 p1 p2 w R) : Go.CW.Spec Try.prog 22 #[p0, (.int .i64 p1), (.int .i64 p2)] w R :=
  spec_of Try.func22 (by kernel_rfl) (show bin_Get_F p0 p1 p2 w R = _ by kernel_rfl) h

/-- gemel/gemelref1.Get -/
def gemelref1_Get_F (p0 : Value) (p1 : Int) (p2 : Int) (w : World) (R : KV) : Prop :=
 JoinP [.bool]
   (fun (b0 : Bool) => fun (w1 : World) =>
    cond b0
      (R (.tuple #[(.int .u64 (0 : Int)), (.bool false)]) w1)
      (LoopP [.int .u64, .int .i64]
         (fun j2 => fun (n3 : Int) => fun (n4 : Int) => fun (w5 : World) =>
          cond (decide (n4 < p2))
            (∃ a6 : Addr, ((Go.CW.sliceAt p0 (IntKind.wrap .i64 (p1 + n4)) 1) = (some a6)) ∧
              ∃ n7 : Int, ((Go.World.cell? w5 a6) = (some (.int .u8 n7))) ∧
               j2 (bitsI .or .u64 (IntKind.wrap .u64 (n3 * (256 : Int))) (IntKind.wrap .u64 n7)) (IntKind.wrap .i64 (n4 + (1 : Int))) w5)
            (R (.tuple #[(.int .u64 n3), (.bool true)]) w5))
         (fun s8 => s8 (0 : Int) (0 : Int) w1)))
   (fun j9 =>
    cond (decide (p2 < (1 : Int)))
      (j9 true w)
      (cond (decide (p2 > (8 : Int)))
         (j9 true w)
         (cond (decide (p1 < (0 : Int)))
            (j9 true w)
            (∃ m10 : Nat, ((Go.CW.sliceLen p0) = (some m10)) ∧
              cond (decide (p1 > ((m10 : Nat) : Int)))
                (j9 true w)
                (∃ m11 : Nat, ((Go.CW.sliceLen p0) = (some m11)) ∧
                  j9 (decide ((IntKind.wrap .i64 (((m11 : Nat) : Int) - p1)) < p2)) w)))))

theorem gemelref1_Get_wp (p0 : Value) (p1 : Int) (p2 : Int) (w : World) (R : KV) (h : gemelref1_Get_F p0 p1 p2 w R) : Go.CW.Spec Try.prog 23 #[p0, (.int .i64 p1), (.int .i64 p2)] w R :=
  spec_of Try.func23 (by kernel_rfl) (show gemelref1_Get_F p0 p1 p2 w R = _ by kernel_rfl) h

/-- gemel/prlist.heads -/
def prlist_heads_F (p0 : Value) (w : World) (R : KV) : Prop :=
 Go.CW.Spec Try.prog 22 #[p0, (.int .i64 (0 : Int)), (.int .i64 (4 : Int))] w fun v0 w1 =>
  ∃ n2 : Int, ∃ b3 : Bool, ((v0 : Value) = (.tuple #[(.int .u64 n2), (.bool b3)])) ∧
    Go.CW.Spec Try.prog 22 #[p0, (.int .i64 (4 : Int)), (.int .i64 (4 : Int))] w1 fun v4 w5 =>
     ∃ n6 : Int, ∃ b7 : Bool, ((v4 : Value) = (.tuple #[(.int .u64 n6), (.bool b7)])) ∧
       JoinP [.bool]
         (fun (b8 : Bool) => fun (w9 : World) =>
          cond b8
            (R (.tuple #[(.int .u32 (0 : Int)), (.int .i64 (0 : Int)), (.int .i64 (3 : Int))]) w9)
            (R (.tuple #[(.int .u32 (IntKind.wrap .u32 n2)), (.int .i64 (IntKind.wrap .i64 n6)), (.int .i64 (0 : Int))]) w9))
         (fun j10 =>
          cond (!b7)
            (j10 true w5)
            (∃ m11 : Nat, ((Go.CW.sliceLen p0) = (some m11)) ∧
              j10 (decide (n6 > (IntKind.wrap .u64 (IntKind.wrap .i64 (((m11 : Nat) : Int) - (8 : Int)))))) w5))

theorem prlist_heads_wp (p0 : Value) (w : World) (R : KV) (h : prlist_heads_F p0 w R) : Go.CW.Spec Try.prog 24 #[p0] w R :=
  spec_of Try.func24 (by kernel_rfl) (show prlist_heads_F p0 w R = _ by kernel_rfl) h

/-- bytes.Equal -/
def bytes_Equal_F (p0 : Value) (p1 : Value) (w : World) (R : KV) : Prop :=
 ∃ s0 : ByteArray, ((Sem.run @Go.Proofs.Try.prog (Go.convert 22 9 p0) w) = (.ok (.string s0) w)) ∧
  ∃ s1 : ByteArray, ((Sem.run @Go.Proofs.Try.prog (Go.convert 22 9 p1) w) = (.ok (.string s1) w)) ∧
   R (.bool (ByteArray.toList s0 == ByteArray.toList s1)) w

theorem bytes_Equal_wp (p0 : Value) (p1 : Value) (w : World) (R : KV) (h : bytes_Equal_F p0 p1 w R) : Go.CW.Spec Try.prog 25 #[p0, p1] w R :=
  spec_of Try.func25 (by kernel_rfl) (show bytes_Equal_F p0 p1 w R = _ by kernel_rfl) h

/-- gemel/bin.Put -/
def bin_Put_F (p0 : Value) (p1 : Int) (p2 : Int) (w : World) (R : KV) : Prop :=
 Go.CW.Spec Try.prog 28 #[p0] w fun v0 w1 =>
  JoinP [.bool]
    (fun (b2 : Bool) => fun (w3 : World) =>
     cond b2
       (R v0 w3)
       (LoopP [.val, .int .i64]
          (fun j4 => fun (v5 : Value) => fun (n6 : Int) => fun (w7 : World) =>
           cond (decide (n6 ≥ (0 : Int)))
             (leK (IntKind.wrap .i64 ((8 : Int) * n6)) (∃ v8 : Value, ∃ w9 : World, ((Sem.run @Go.Proofs.Try.prog (Go.Builtin.append_ #[22, 22] 22 #[v5, (.slice (some ⟨(Array.size (World.heap w7)), 0, none⟩) 1 1)]) (World.alloc w7 (.cells #[(.int .u8 (IntKind.wrap .u8 (Int.fdiv p1 ((2 : Int) ^ (min (Int.toNat (IntKind.wrap .i64 ((8 : Int) * n6))) 64)))))] 5))) = (.ok v8 w9)) ∧
                 j4 v8 (IntKind.wrap .i64 (n6 - (1 : Int))) w9))
             (Go.CW.Spec Try.prog 29 #[v5] w7 fun v10 w11 =>
               R v10 w11))
          (fun s12 => s12 v0 (IntKind.wrap .i64 (p2 - (1 : Int))) w3)))
    (fun j13 =>
     cond (decide (p2 < (1 : Int)))
       (j13 true w1)
       (j13 (decide (p2 > (8 : Int))) w1))

theorem bin_Put_wp (p0 : Value) (p1 : Int) (p2 : Int) (w : World) (R : KV) (h : bin_Put_F p0 p1 p2 w R) : Go.CW.Spec Try.prog 26 #[p0, (.int .u64 p1), (.int .i64 p2)] w R :=
  spec_of Try.func26 (by kernel_rfl) (show bin_Put_F p0 p1 p2 w R = _ by kernel_rfl) h

/-- gemel/gemelref1.Put -/
def gemelref1_Put_F (p0 : Value) (p1 : Int) (p2 : Int) (w : World) (R : KV) : Prop :=
 JoinP [.bool]
   (fun (b0 : Bool) => fun (w1 : World) =>
    cond b0
      (R p0 w1)
      (LoopP [.val, .int .i64]
         (fun j2 => fun (v3 : Value) => fun (n4 : Int) => fun (w5 : World) =>
          cond (decide (n4 ≥ (0 : Int)))
            (leK (IntKind.wrap .u64 ((8 : Int) * (IntKind.wrap .u64 n4))) (∃ v6 : Value, ∃ w7 : World, ((Sem.run @Go.Proofs.Try.prog (Go.Builtin.append_ #[22, 22] 22 #[v3, (.slice (some ⟨(Array.size (World.heap w5)), 0, none⟩) 1 1)]) (World.alloc w5 (.cells #[(.int .u8 (IntKind.wrap .u8 (Int.fdiv p1 ((2 : Int) ^ (min (Int.toNat (IntKind.wrap .u64 ((8 : Int) * (IntKind.wrap .u64 n4)))) 64)))))] 5))) = (.ok v6 w7)) ∧
                j2 v6 (IntKind.wrap .i64 (n4 - (1 : Int))) w7))
            (R v3 w5))
         (fun s8 => s8 p0 (IntKind.wrap .i64 (p2 - (1 : Int))) w1)))
   (fun j9 =>
    cond (decide (p2 < (1 : Int)))
      (j9 true w)
      (j9 (decide (p2 > (8 : Int))) w))

theorem gemelref1_Put_wp (p0 : Value) (p1 : Int) (p2 : Int) (w : World) (R : KV) (h : gemelref1_Put_F p0 p1 p2 w R) : Go.CW.Spec Try.prog 27 #[p0, (.int .u64 p1), (.int .i64 p2)] w R :=
  spec_of Try.func27 (by kernel_rfl) (show gemelref1_Put_F p0 p1 p2 w R = _ by kernel_rfl) h

/-- slices.Clone[[]byte,byte] -/
def slices_Clone___F (p0 : Value) (w : World) (R : KV) : Prop :=
 ∃ b0 : Bool, ((Go.CW.isNilS p0) = (some b0)) ∧
  cond b0
    (R (.slice none 0 0) w)
    (∃ v1 : Value, ∃ w2 : World, ((Sem.run @Go.Proofs.Try.prog (Go.Builtin.append_ #[22, 22] 22 #[(.slice (some ⟨(Array.size (World.heap w)), 0, none⟩) 0 0), p0]) (World.alloc w (.cells #[] 5))) = (.ok v1 w2)) ∧
       R v1 w2)

theorem slices_Clone___wp (p0 : Value) (w : World) (R : KV) (h : slices_Clone___F p0 w R) : Go.CW.Spec Try.prog 28 #[p0] w R :=
  spec_of Try.func28 (by kernel_rfl) (show slices_Clone___F p0 w R = _ by kernel_rfl) h

/-- slices.Clip[[]byte,byte] -/
def slices_Clip___F (p0 : Value) (w : World) (R : KV) : Prop :=
 ∃ m0 : Nat, ((Go.CW.sliceLen p0) = (some m0)) ∧
  ∃ m1 : Nat, ((Go.CW.sliceLen p0) = (some m1)) ∧
   ∃ v2 : Value, ((Go.CW.subSlice p0 1 none (some (.int .i64 ((m0 : Nat) : Int))) (some (.int .i64 ((m1 : Nat) : Int)))) = (some v2)) ∧
    R v2 w

theorem slices_Clip___wp (p0 : Value) (w : World) (R : KV) (h : slices_Clip___F p0 w R) : Go.CW.Spec Try.prog 29 #[p0] w R :=
  spec_of Try.func29 (by kernel_rfl) (show slices_Clip___F p0 w R = _ by kernel_rfl) h

end Go.Proofs.Ytpbcdhpajjkldaa
