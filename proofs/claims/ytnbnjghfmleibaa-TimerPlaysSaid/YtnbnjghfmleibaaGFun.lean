/- The formulas of some functions, printed by a program (wip/cw/CwGen). -/
import Derived.Test.YtnbnjghfmleibaaFacts
set_option linter.unusedVariables false
set_option maxRecDepth 100000
namespace Go.Proofs.Ytnbnjghfmleibaa
open Go Go.CW

/-- gemel/gemellaw10.TimerOrder -/
def gemellaw10_TimerOrder_F (p0 : Value) (w : World) (R : KV) : Prop :=
 Go.CW.Spec Try.prog 8 #[] w fun v0 w1 =>
  ∃ b2 : Bool, ((v0 : Value) = (.bool b2)) ∧
   cond (!b2)
     (R (.bool false) w1)
     (∃ m3 : Nat, ((Go.CW.sliceLen p0) = (some m3)) ∧
       cond (decide (((m3 : Nat) : Int) > (60 : Int)))
         (R (.bool true) w1)
         (Go.CW.Spec Try.prog 9 #[] w1 fun v4 w5 =>
           ∃ o6 : Option Addr, ((v4 : Value) = (.pointer o6)) ∧
            LoopP [.int .i64]
              (fun j7 => fun (n8 : Int) => fun (w9 : World) =>
               ∃ m10 : Nat, ((Go.CW.sliceLen p0) = (some m10)) ∧
                cond (decide (n8 < ((m10 : Nat) : Int)))
                  (∃ a11 : Addr, ((Go.CW.sliceAt p0 n8 1) = (some a11)) ∧
                    ∃ n12 : Int, ((Go.World.cell? w9 a11) = (some (.int .u8 n12))) ∧
                     Go.CW.Spec Try.prog 10 #[(.pointer o6), (.int .i64 n8), (.int .i64 (IntKind.wrap .i64 ((1 : Int) + (IntKind.wrap .i64 n12))))] w9 fun v13 w14 =>
                      ∃ n15 : Int, ((v13 : Value) = (.int .i64 n15)) ∧
                       cond (n15 != (0 : Int))
                         (R (.bool false) w14)
                         (j7 (IntKind.wrap .i64 (n8 + (1 : Int))) w14))
                  (LoopP [.int .i64, .int .i64]
                     (fun j16 => fun (n17 : Int) => fun (n18 : Int) => fun (w19 : World) =>
                      cond (decide (n18 ≤ (256 : Int)))
                        (Go.CW.Spec Try.prog 11 #[(.pointer o6)] w19 fun v20 w21 =>
                          LoopP [.int .i64]
                            (fun j22 => fun (n23 : Int) => fun (w24 : World) =>
                             ∃ m25 : Nat, ((Go.CW.sliceLen v20) = (some m25)) ∧
                              cond (decide (n23 < ((m25 : Nat) : Int)))
                                (JoinP [.bool]
                                   (fun (b26 : Bool) => fun (w27 : World) =>
                                    cond b26
                                      (R (.bool false) w27)
                                      (j22 (IntKind.wrap .i64 (n23 + (1 : Int))) w27))
                                   (fun j28 =>
                                    ∃ a29 : Addr, ((Go.CW.sliceAt v20 n23 1) = (some a29)) ∧
                                     ∃ n30 : Int, ((Go.World.cell? (World.drew w24) a29) = (some (.int .i64 n30))) ∧
                                      cond (decide (n30 < (0 : Int)))
                                        (j28 true (World.drew w24))
                                        (∃ a31 : Addr, ((Go.CW.sliceAt v20 n23 1) = (some a31)) ∧
                                          ∃ n32 : Int, ((Go.World.cell? (World.drew w24) a31) = (some (.int .i64 n32))) ∧
                                           ∃ m33 : Nat, ((Go.CW.sliceLen p0) = (some m33)) ∧
                                            cond (decide (n32 ≥ ((m33 : Nat) : Int)))
                                              (j28 true (World.drew w24))
                                              (∃ a34 : Addr, ((Go.CW.sliceAt v20 n23 1) = (some a34)) ∧
                                                ∃ n35 : Int, ((Go.World.cell? (World.drew w24) a34) = (some (.int .i64 n35))) ∧
                                                 ∃ a36 : Addr, ((Go.CW.sliceAt p0 n35 1) = (some a36)) ∧
                                                  ∃ n37 : Int, ((Go.World.cell? (World.drew w24) a36) = (some (.int .u8 n37))) ∧
                                                   cond ((IntKind.wrap .i64 ((1 : Int) + (IntKind.wrap .i64 n37))) != n18)
                                                     (j28 true (World.drew w24))
                                                     (cond (decide (n23 > (0 : Int)))
                                                        (∃ a38 : Addr, ((Go.CW.sliceAt v20 n23 1) = (some a38)) ∧
                                                          ∃ n39 : Int, ((Go.World.cell? (World.drew w24) a38) = (some (.int .i64 n39))) ∧
                                                           ∃ a40 : Addr, ((Go.CW.sliceAt v20 (IntKind.wrap .i64 (n23 - (1 : Int))) 1) = (some a40)) ∧
                                                            ∃ n41 : Int, ((Go.World.cell? (World.drew w24) a40) = (some (.int .i64 n41))) ∧
                                                             j28 (decide (n39 ≤ n41)) (World.drew w24))
                                                        (j28 false (World.drew w24)))))))
                                (∃ m42 : Nat, ((Go.CW.sliceLen v20) = (some m42)) ∧
                                  j16 (IntKind.wrap .i64 (n17 + ((m42 : Nat) : Int))) (IntKind.wrap .i64 (n18 + (1 : Int))) w24))
                            (fun s43 => s43 (0 : Int) w21))
                        (JoinP [.bool]
                           (fun (b44 : Bool) => fun (w45 : World) =>
                            R (.bool b44) w45)
                           (fun j46 =>
                            ∃ m47 : Nat, ((Go.CW.sliceLen p0) = (some m47)) ∧
                             cond (n17 == ((m47 : Nat) : Int))
                               (Go.CW.Spec Try.prog 12 #[(.pointer o6)] w19 fun v48 w49 =>
                                 ∃ n50 : Int, ((v48 : Value) = (.int .i64 n50)) ∧
                                  j46 (n50 == (0 : Int)) w49)
                               (j46 false w19))))
                     (fun s51 => s51 (0 : Int) (1 : Int) w9)))
              (fun s52 => s52 (0 : Int) w5)))

theorem gemellaw10_TimerOrder_wp (p0 : Value) (w : World) (R : KV) (h : gemellaw10_TimerOrder_F p0 w R) : Go.CW.Spec Try.prog 3 #[p0] w R :=
  spec_of Try.func3 (by kernel_rfl) (show gemellaw10_TimerOrder_F p0 w R = _ by kernel_rfl) h

/-- gemel/gemellaw10.TimerFull -/
def gemellaw10_TimerFull_F (p0 : Int) (p1 : Int) (w : World) (R : KV) : Prop :=
 Go.CW.Spec Try.prog 8 #[] w fun v0 w1 =>
  ∃ b2 : Bool, ((v0 : Value) = (.bool b2)) ∧
   cond (!b2)
     (R (.bool false) w1)
     (JoinP [.bool]
        (fun (b3 : Bool) => fun (w4 : World) =>
         cond b3
           (R (.bool true) w4)
           (Go.CW.Spec Try.prog 9 #[] w4 fun v5 w6 =>
             ∃ o7 : Option Addr, ((v5 : Value) = (.pointer o7)) ∧
              LoopP [.int .i64]
                (fun j8 => fun (n9 : Int) => fun (w10 : World) =>
                 cond (decide (n9 < p0))
                   (Go.CW.Spec Try.prog 10 #[(.pointer o7), (.int .i64 n9), (.int .i64 (5 : Int))] w10 fun v11 w12 =>
                     ∃ n13 : Int, ((v11 : Value) = (.int .i64 n13)) ∧
                      cond (!((n13 == (7 : Int)) == (decide (n9 ≥ (256 : Int)))))
                        (R (.bool false) w12)
                        (j8 (IntKind.wrap .i64 (n9 + (1 : Int))) w12))
                   (Go.CW.Spec Try.prog 10 #[(.pointer o7), (.int .i64 p1), (.int .i64 (1 : Int))] w10 fun v14 w15 =>
                     ∃ n16 : Int, ((v14 : Value) = (.int .i64 n16)) ∧
                      Go.CW.Spec Try.prog 11 #[(.pointer o7)] w15 fun v17 w18 =>
                       JoinP [.bool]
                         (fun (b19 : Bool) => fun (w20 : World) =>
                          R (.bool b19) w20)
                         (fun j21 =>
                          cond (n16 == (0 : Int))
                            (∃ m22 : Nat, ((Go.CW.sliceLen v17) = (some m22)) ∧
                              cond (((m22 : Nat) : Int) == (1 : Int))
                                (∃ a23 : Addr, ((Go.CW.sliceAt v17 (0 : Int) 1) = (some a23)) ∧
                                  ∃ n24 : Int, ((Go.World.cell? w18 a23) = (some (.int .i64 n24))) ∧
                                   j21 (n24 == p1) w18)
                                (j21 false w18))
                            (j21 false w18))))
                (fun s25 => s25 (0 : Int) w6)))
        (fun j26 =>
         cond (decide (p0 < (250 : Int)))
           (j26 true w1)
           (cond (decide (p0 > (260 : Int)))
              (j26 true w1)
              (cond (decide (p1 < (0 : Int)))
                 (j26 true w1)
                 (j26 (decide (p1 ≥ (250 : Int))) w1)))))

theorem gemellaw10_TimerFull_wp (p0 : Int) (p1 : Int) (w : World) (R : KV) (h : gemellaw10_TimerFull_F p0 p1 w R) : Go.CW.Spec Try.prog 4 #[(.int .i64 p0), (.int .i64 p1)] w R :=
  spec_of Try.func4 (by kernel_rfl) (show gemellaw10_TimerFull_F p0 p1 w R = _ by kernel_rfl) h

/-- gemel/gemellaw10.TimerNexts -/
def gemellaw10_TimerNexts_F (p0 : Value) (w : World) (R : KV) : Prop :=
 Go.CW.Spec Try.prog 8 #[] w fun v0 w1 =>
  ∃ b2 : Bool, ((v0 : Value) = (.bool b2)) ∧
   cond (!b2)
     (R (.bool false) w1)
     (∃ m3 : Nat, ((Go.CW.sliceLen p0) = (some m3)) ∧
       cond (decide (((m3 : Nat) : Int) > (30 : Int)))
         (R (.bool true) w1)
         (Go.CW.Spec Try.prog 9 #[] w1 fun v4 w5 =>
           ∃ o6 : Option Addr, ((v4 : Value) = (.pointer o6)) ∧
            LoopP [.int .i64]
              (fun j7 => fun (n8 : Int) => fun (w9 : World) =>
               ∃ m10 : Nat, ((Go.CW.sliceLen p0) = (some m10)) ∧
                cond (decide (n8 < ((m10 : Nat) : Int)))
                  (∃ a11 : Addr, ((Go.CW.sliceAt p0 n8 1) = (some a11)) ∧
                    ∃ n12 : Int, ((Go.World.cell? w9 a11) = (some (.int .u8 n12))) ∧
                     Go.CW.Spec Try.prog 10 #[(.pointer o6), (.int .i64 n8), (.int .i64 (IntKind.wrap .i64 ((1 : Int) + (IntKind.wrap .i64 n12))))] w9 fun v13 w14 =>
                      ∃ n15 : Int, ((v13 : Value) = (.int .i64 n15)) ∧
                       j7 (IntKind.wrap .i64 (n8 + (1 : Int))) w14)
                  (LoopP [.int .i64, .int .i64]
                     (fun j16 => fun (n17 : Int) => fun (n18 : Int) => fun (w19 : World) =>
                      JoinP [.bool]
                        (fun (b20 : Bool) => fun (w21 : World) =>
                         cond b20
                           (Go.CW.Spec Try.prog 13 #[(.pointer o6)] w21 fun v22 w23 =>
                             ∃ n24 : Int, ∃ b25 : Bool, ((v22 : Value) = (.tuple #[(.int .i64 n24), (.bool b25)])) ∧
                               JoinP [.bool]
                                 (fun (b26 : Bool) => fun (w27 : World) =>
                                  cond b26
                                    (R (.bool false) w27)
                                    (LoopP [.int .i64]
                                       (fun j28 => fun (n29 : Int) => fun (w30 : World) =>
                                        cond (decide (n29 < n24))
                                          (Go.CW.Spec Try.prog 11 #[(.pointer o6)] w30 fun v31 w32 =>
                                            ∃ m33 : Nat, ((Go.CW.sliceLen v31) = (some m33)) ∧
                                             cond (((m33 : Nat) : Int) != (0 : Int))
                                               (R (.bool false) w32)
                                               (j28 (IntKind.wrap .i64 (n29 + (1 : Int))) w32))
                                          (Go.CW.Spec Try.prog 11 #[(.pointer o6)] w30 fun v34 w35 =>
                                            ∃ m36 : Nat, ((Go.CW.sliceLen v34) = (some m36)) ∧
                                             cond (((m36 : Nat) : Int) == (0 : Int))
                                               (R (.bool false) w35)
                                               (∃ m37 : Nat, ((Go.CW.sliceLen v34) = (some m37)) ∧
                                                 j16 (IntKind.wrap .i64 (n17 + ((m37 : Nat) : Int))) (IntKind.wrap .i64 (n18 + (1 : Int))) w35)))
                                       (fun s38 => s38 (1 : Int) w27)))
                                 (fun j39 =>
                                  cond (!b25)
                                    (j39 true w23)
                                    (j39 (decide (n24 < (1 : Int))) w23)))
                           (Go.CW.Spec Try.prog 13 #[(.pointer o6)] w21 fun v40 w41 =>
                             ∃ n42 : Int, ∃ b43 : Bool, ((v40 : Value) = (.tuple #[(.int .i64 n42), (.bool b43)])) ∧
                               JoinP [.bool]
                                 (fun (b44 : Bool) => fun (w45 : World) =>
                                  R (.bool b44) w45)
                                 (fun j46 =>
                                  ∃ m47 : Nat, ((Go.CW.sliceLen p0) = (some m47)) ∧
                                   cond (n17 == ((m47 : Nat) : Int))
                                     (j46 (!b43) w41)
                                     (j46 false w41))))
                        (fun j48 =>
                         cond (decide (n18 < (300 : Int)))
                           (Go.CW.Spec Try.prog 12 #[(.pointer o6)] w19 fun v49 w50 =>
                             ∃ n51 : Int, ((v49 : Value) = (.int .i64 n51)) ∧
                              j48 (decide (n51 > (0 : Int))) w50)
                           (j48 false w19)))
                     (fun s52 => s52 (0 : Int) (0 : Int) w9)))
              (fun s53 => s53 (0 : Int) w5)))

theorem gemellaw10_TimerNexts_wp (p0 : Value) (w : World) (R : KV) (h : gemellaw10_TimerNexts_F p0 w R) : Go.CW.Spec Try.prog 5 #[p0] w R :=
  spec_of Try.func5 (by kernel_rfl) (show gemellaw10_TimerNexts_F p0 w R = _ by kernel_rfl) h

/-- gemel/gemellaw10.TimerTurns -/
def gemellaw10_TimerTurns_F (p0 : Int) (p1 : Int) (p2 : Int) (p3 : Bool) (w : World) (R : KV) : Prop :=
 Go.CW.Spec Try.prog 8 #[] w fun v0 w1 =>
  ∃ b2 : Bool, ((v0 : Value) = (.bool b2)) ∧
   cond (!b2)
     (R (.bool false) w1)
     (JoinP [.bool]
        (fun (b3 : Bool) => fun (w4 : World) =>
         cond b3
           (R (.bool true) w4)
           (Go.CW.Spec Try.prog 9 #[] w4 fun v5 w6 =>
             ∃ o7 : Option Addr, ((v5 : Value) = (.pointer o7)) ∧
              Go.CW.Spec Try.prog 10 #[(.pointer o7), (.int .i64 (7 : Int)), (.int .i64 p0)] w6 fun v8 w9 =>
               ∃ n10 : Int, ((v8 : Value) = (.int .i64 n10)) ∧
                Go.CW.Spec Try.prog 10 #[(.pointer o7), (.int .i64 (9 : Int)), (.int .i64 (100 : Int))] w9 fun v11 w12 =>
                 ∃ n13 : Int, ((v11 : Value) = (.int .i64 n13)) ∧
                  LoopP [.int .i64]
                    (fun j14 => fun (n15 : Int) => fun (w16 : World) =>
                     cond (decide (n15 < p2))
                       (Go.CW.Spec Try.prog 11 #[(.pointer o7)] w16 fun v17 w18 =>
                         ∃ m19 : Nat, ((Go.CW.sliceLen v17) = (some m19)) ∧
                          cond (((m19 : Nat) : Int) != (0 : Int))
                            (R (.bool false) w18)
                            (j14 (IntKind.wrap .i64 (n15 + (1 : Int))) w18))
                       (JoinP [.bool]
                          (fun (b20 : Bool) => fun (w21 : World) =>
                           cond b20
                             (R (.bool false) w21)
                             (JoinP [.bool]
                                (fun (b22 : Bool) => fun (w23 : World) =>
                                 cond b22
                                   (R (.bool false) w23)
                                   (LoopP [.int .i64, .int .i64]
                                      (fun j24 => fun (n25 : Int) => fun (n26 : Int) => fun (w27 : World) =>
                                       cond (decide (n26 ≤ (61 : Int)))
                                         (Go.CW.Spec Try.prog 11 #[(.pointer o7)] w27 fun v28 w29 =>
                                           LoopP [.int .i64, .int .i64]
                                             (fun j30 => fun (n31 : Int) => fun (n32 : Int) => fun (w33 : World) =>
                                              ∃ m34 : Nat, ((Go.CW.sliceLen v28) = (some m34)) ∧
                                               cond (decide (n32 < ((m34 : Nat) : Int)))
                                                 (JoinP [.int .i64]
                                                    (fun (n35 : Int) => fun (w36 : World) =>
                                                     j30 n35 (IntKind.wrap .i64 (n32 + (1 : Int))) w36)
                                                    (fun j37 =>
                                                     ∃ a38 : Addr, ((Go.CW.sliceAt v28 n32 1) = (some a38)) ∧
                                                      ∃ n39 : Int, ((Go.World.cell? w33 a38) = (some (.int .i64 n39))) ∧
                                                       cond (n39 == (7 : Int))
                                                         (cond (decide (n31 > (0 : Int)))
                                                            (R (.bool false) w33)
                                                            (j37 n26 w33))
                                                         (j37 n31 w33)))
                                                 (j24 n31 (IntKind.wrap .i64 (n26 + (1 : Int))) w33))
                                             (fun s40 => s40 n25 (0 : Int) w29))
                                         (JoinP [.bool]
                                            (fun (b41 : Bool) => fun (w42 : World) =>
                                             R (.bool b41) w42)
                                            (fun j43 =>
                                             cond p3
                                               (cond (n25 == (0 : Int))
                                                  (j43 true w27)
                                                  (cond (!p3)
                                                     (j43 (n25 == p1) w27)
                                                     (j43 false w27)))
                                               (cond (!p3)
                                                  (j43 (n25 == p1) w27)
                                                  (j43 false w27)))))
                                      (fun s44 => s44 (0 : Int) (1 : Int) w23)))
                                (fun j45 =>
                                 cond p3
                                   (Go.CW.Spec Try.prog 14 #[(.pointer o7), (.int .i64 (7 : Int))] w21 fun v46 w47 =>
                                     ∃ b48 : Bool, ((v46 : Value) = (.bool b48)) ∧
                                      cond (!b48)
                                        (j45 true w47)
                                        (Go.CW.Spec Try.prog 14 #[(.pointer o7), (.int .i64 (7 : Int))] w47 fun v49 w50 =>
                                          ∃ b51 : Bool, ((v49 : Value) = (.bool b51)) ∧
                                           j45 b51 w50))
                                   (j45 false w21))))
                          (fun j52 =>
                           Go.CW.Spec Try.prog 10 #[(.pointer o7), (.int .i64 (7 : Int)), (.int .i64 p1)] w16 fun v53 w54 =>
                            ∃ n55 : Int, ((v53 : Value) = (.int .i64 n55)) ∧
                             cond (n55 != (0 : Int))
                               (j52 true w54)
                               (Go.CW.Spec Try.prog 12 #[(.pointer o7)] w54 fun v56 w57 =>
                                 ∃ n58 : Int, ((v56 : Value) = (.int .i64 n58)) ∧
                                  j52 (n58 != (2 : Int)) w57))))
                    (fun s59 => s59 (0 : Int) w12)))
        (fun j60 =>
         cond (decide (p0 < (1 : Int)))
           (j60 true w1)
           (cond (decide (p0 > (60 : Int)))
              (j60 true w1)
              (cond (decide (p1 < (1 : Int)))
                 (j60 true w1)
                 (cond (decide (p1 > (60 : Int)))
                    (j60 true w1)
                    (cond (decide (p2 < (0 : Int)))
                       (j60 true w1)
                       (j60 (decide (p2 ≥ p0)) w1)))))))

theorem gemellaw10_TimerTurns_wp (p0 : Int) (p1 : Int) (p2 : Int) (p3 : Bool) (w : World) (R : KV) (h : gemellaw10_TimerTurns_F p0 p1 p2 p3 w R) : Go.CW.Spec Try.prog 6 #[(.int .i64 p0), (.int .i64 p1), (.int .i64 p2), (.bool p3)] w R :=
  spec_of Try.func6 (by kernel_rfl) (show gemellaw10_TimerTurns_F p0 p1 p2 p3 w R = _ by kernel_rfl) h

/-- gemel/gemellaw10.TimerPlays -/
def gemellaw10_TimerPlays_F (p0 : Value) (w : World) (R : KV) : Prop :=
 Go.CW.Spec Try.prog 8 #[] w fun v0 w1 =>
  ∃ b2 : Bool, ((v0 : Value) = (.bool b2)) ∧
   cond (!b2)
     (R (.bool false) w1)
     (∃ m3 : Nat, ((Go.CW.sliceLen p0) = (some m3)) ∧
       cond (decide (((m3 : Nat) : Int) > (300 : Int)))
         (R (.bool true) w1)
         (Go.CW.Spec Try.prog 9 #[] w1 fun v4 w5 =>
           ∃ o6 : Option Addr, ((v4 : Value) = (.pointer o6)) ∧
            LoopP [.int .i64]
              (fun j7 => fun (n8 : Int) => fun (w9 : World) =>
               ∃ m10 : Nat, ((Go.CW.sliceLen p0) = (some m10)) ∧
                cond (decide (n8 < ((m10 : Nat) : Int)))
                  (∃ a11 : Addr, ((Go.CW.sliceAt p0 n8 3) = (some a11)) ∧
                    ∃ n12 : Int, ∃ n13 : Int, ∃ n14 : Int, (ldCells w9 a11 3 #[(.int .i64 n12), (.int .i64 n13), (.int .i64 n14)]) ∧
                       (StRow (World.alloc w9 (.cells #[(.int .i64 (0 : Int)), (.int .i64 (0 : Int)), (.int .i64 (0 : Int))] 43)) ⟨(Array.size (World.heap w9)), 0, none⟩ #[(.int .i64 n12), (.int .i64 n13), (.int .i64 n14)]) ∧
                       ∃ n15 : Int, ((Go.World.cell? (stRow (World.alloc w9 (.cells #[(.int .i64 (0 : Int)), (.int .i64 (0 : Int)), (.int .i64 (0 : Int))] 43)) ⟨(Array.size (World.heap w9)), 0, none⟩ #[(.int .i64 n12), (.int .i64 n13), (.int .i64 n14)]) (Addr.add ⟨(Array.size (World.heap w9)), 0, none⟩ 0)) = (some (.int .i64 n15))) ∧
                        JoinP []
                          (fun (w16 : World) =>
                           ∃ n17 : Int, ((Go.World.cell? w16 (Addr.add ⟨(Array.size (World.heap w9)), 0, none⟩ 1)) = (some (.int .i64 n17))) ∧
                            Go.CW.Spec Try.prog 19 #[(.pointer o6), (.int .i64 n17)] w16 fun v18 w19 =>
                             ∃ n20 : Int, ∃ b21 : Bool, ((v18 : Value) = (.tuple #[(.int .i64 n20), (.bool b21)])) ∧
                               ∃ n22 : Int, ((Go.World.cell? w19 (Addr.add ⟨(Array.size (World.heap w9)), 0, none⟩ 1)) = (some (.int .i64 n22))) ∧
                                Go.CW.Spec Try.prog 20 #[(.pointer (some ⟨(Array.size (World.heap w5)), 0, none⟩)), (.int .i64 n22)] w19 fun v23 w24 =>
                                 ∃ n25 : Int, ∃ b26 : Bool, ((v23 : Value) = (.tuple #[(.int .i64 n25), (.bool b26)])) ∧
                                   Go.CW.Spec Try.prog 13 #[(.pointer o6)] w24 fun v27 w28 =>
                                    ∃ n29 : Int, ∃ b30 : Bool, ((v27 : Value) = (.tuple #[(.int .i64 n29), (.bool b30)])) ∧
                                      Go.CW.Spec Try.prog 21 #[(.pointer (some ⟨(Array.size (World.heap w5)), 0, none⟩))] w28 fun v31 w32 =>
                                       ∃ n33 : Int, ∃ b34 : Bool, ((v31 : Value) = (.tuple #[(.int .i64 n33), (.bool b34)])) ∧
                                         JoinP [.bool]
                                           (fun (b35 : Bool) => fun (w36 : World) =>
                                            cond b35
                                              (R (.bool false) w36)
                                              (j7 (IntKind.wrap .i64 (n8 + (1 : Int))) w36))
                                           (fun j37 =>
                                            cond (n20 != n25)
                                              (j37 true (World.drew w32))
                                              (cond (!(b21 == b26))
                                                 (j37 true (World.drew w32))
                                                 (cond (n29 != n33)
                                                    (j37 true (World.drew w32))
                                                    (cond (!(b30 == b34))
                                                       (j37 true (World.drew w32))
                                                       (∃ n38 : Int, ((Go.World.cell? (World.drew w32) (Addr.add ⟨(Array.size (World.heap w5)), 0, none⟩ 1)) = (some (.int .i64 n38))) ∧
                                                         Go.CW.Spec Try.prog 22 #[(.pointer o6)] (World.drew w32) fun v39 w40 =>
                                                          ∃ n41 : Int, ((v39 : Value) = (.int .i64 n41)) ∧
                                                           (∃ n42 : Int, ((Go.World.cell? w40 (Addr.add ⟨(Array.size (World.heap w5)), 0, none⟩ 1)) = (some (.int .i64 n42))) ∧
                                                            ((.int .i64 n42) : Value) = (.int .i64 n38)) ∧
                                                           cond (n41 != n38)
                                                             (j37 true w40)
                                                             (∃ v43 : Value, ((Go.World.cell? w40 (Addr.add ⟨(Array.size (World.heap w5)), 0, none⟩ 0)) = (some v43)) ∧
                                                               ∃ m44 : Nat, ((Go.CW.sliceLen v43) = (some m44)) ∧
                                                                Go.CW.Spec Try.prog 12 #[(.pointer o6)] w40 fun v45 w46 =>
                                                                 ∃ n47 : Int, ((v45 : Value) = (.int .i64 n47)) ∧
                                                                  (∃ v48 : Value, ((Go.World.cell? w46 (Addr.add ⟨(Array.size (World.heap w5)), 0, none⟩ 0)) = (some v48)) ∧
                                                                   (v48 : Value) = v43) ∧
                                                                  j37 (n47 != ((m44 : Nat) : Int)) w46)))))))
                          (fun j49 =>
                           cond (n15 == (1 : Int))
                             (∃ n50 : Int, ((Go.World.cell? (World.drew (stRow (World.alloc w9 (.cells #[(.int .i64 (0 : Int)), (.int .i64 (0 : Int)), (.int .i64 (0 : Int))] 43)) ⟨(Array.size (World.heap w9)), 0, none⟩ #[(.int .i64 n12), (.int .i64 n13), (.int .i64 n14)])) (Addr.add ⟨(Array.size (World.heap w9)), 0, none⟩ 1)) = (some (.int .i64 n50))) ∧
                               ∃ n51 : Int, ((Go.World.cell? (World.drew (stRow (World.alloc w9 (.cells #[(.int .i64 (0 : Int)), (.int .i64 (0 : Int)), (.int .i64 (0 : Int))] 43)) ⟨(Array.size (World.heap w9)), 0, none⟩ #[(.int .i64 n12), (.int .i64 n13), (.int .i64 n14)])) (Addr.add ⟨(Array.size (World.heap w9)), 0, none⟩ 2)) = (some (.int .i64 n51))) ∧
                                ∃ n52 : Int, ((Go.World.cell? (World.drew (stRow (World.alloc w9 (.cells #[(.int .i64 (0 : Int)), (.int .i64 (0 : Int)), (.int .i64 (0 : Int))] 43)) ⟨(Array.size (World.heap w9)), 0, none⟩ #[(.int .i64 n12), (.int .i64 n13), (.int .i64 n14)])) (Addr.add ⟨(Array.size (World.heap w9)), 0, none⟩ 1)) = (some (.int .i64 n52))) ∧
                                 ∃ n53 : Int, ((Go.World.cell? (World.drew (stRow (World.alloc w9 (.cells #[(.int .i64 (0 : Int)), (.int .i64 (0 : Int)), (.int .i64 (0 : Int))] 43)) ⟨(Array.size (World.heap w9)), 0, none⟩ #[(.int .i64 n12), (.int .i64 n13), (.int .i64 n14)])) (Addr.add ⟨(Array.size (World.heap w9)), 0, none⟩ 2)) = (some (.int .i64 n53))) ∧
                                  Go.CW.Spec Try.prog 10 #[(.pointer o6), (.int .i64 n50), (.int .i64 n51)] (World.drew (stRow (World.alloc w9 (.cells #[(.int .i64 (0 : Int)), (.int .i64 (0 : Int)), (.int .i64 (0 : Int))] 43)) ⟨(Array.size (World.heap w9)), 0, none⟩ #[(.int .i64 n12), (.int .i64 n13), (.int .i64 n14)])) fun v54 w55 =>
                                   ∃ n56 : Int, ((v54 : Value) = (.int .i64 n56)) ∧
                                    (∃ n57 : Int, ((Go.World.cell? w55 (Addr.add ⟨(Array.size (World.heap w9)), 0, none⟩ 1)) = (some (.int .i64 n57))) ∧
                                     ((.int .i64 n57) : Value) = (.int .i64 n52)) ∧
                                    (∃ n58 : Int, ((Go.World.cell? w55 (Addr.add ⟨(Array.size (World.heap w9)), 0, none⟩ 2)) = (some (.int .i64 n58))) ∧
                                     ((.int .i64 n58) : Value) = (.int .i64 n53)) ∧
                                    Go.CW.Spec Try.prog 15 #[(.pointer (some ⟨(Array.size (World.heap w5)), 0, none⟩)), (.int .i64 n52), (.int .i64 n53)] w55 fun v59 w60 =>
                                     ∃ n61 : Int, ((v59 : Value) = (.int .i64 n61)) ∧
                                      cond (n56 != n61)
                                        (R (.bool false) w60)
                                        (j49 w60))
                             (cond (n15 == (2 : Int))
                                (∃ n62 : Int, ((Go.World.cell? (World.drew (stRow (World.alloc w9 (.cells #[(.int .i64 (0 : Int)), (.int .i64 (0 : Int)), (.int .i64 (0 : Int))] 43)) ⟨(Array.size (World.heap w9)), 0, none⟩ #[(.int .i64 n12), (.int .i64 n13), (.int .i64 n14)])) (Addr.add ⟨(Array.size (World.heap w9)), 0, none⟩ 1)) = (some (.int .i64 n62))) ∧
                                  ∃ n63 : Int, ((Go.World.cell? (World.drew (stRow (World.alloc w9 (.cells #[(.int .i64 (0 : Int)), (.int .i64 (0 : Int)), (.int .i64 (0 : Int))] 43)) ⟨(Array.size (World.heap w9)), 0, none⟩ #[(.int .i64 n12), (.int .i64 n13), (.int .i64 n14)])) (Addr.add ⟨(Array.size (World.heap w9)), 0, none⟩ 1)) = (some (.int .i64 n63))) ∧
                                   Go.CW.Spec Try.prog 14 #[(.pointer o6), (.int .i64 n62)] (World.drew (stRow (World.alloc w9 (.cells #[(.int .i64 (0 : Int)), (.int .i64 (0 : Int)), (.int .i64 (0 : Int))] 43)) ⟨(Array.size (World.heap w9)), 0, none⟩ #[(.int .i64 n12), (.int .i64 n13), (.int .i64 n14)])) fun v64 w65 =>
                                    ∃ b66 : Bool, ((v64 : Value) = (.bool b66)) ∧
                                     (∃ n67 : Int, ((Go.World.cell? w65 (Addr.add ⟨(Array.size (World.heap w9)), 0, none⟩ 1)) = (some (.int .i64 n67))) ∧
                                      ((.int .i64 n67) : Value) = (.int .i64 n63)) ∧
                                     Go.CW.Spec Try.prog 16 #[(.pointer (some ⟨(Array.size (World.heap w5)), 0, none⟩)), (.int .i64 n63)] w65 fun v68 w69 =>
                                      ∃ b70 : Bool, ((v68 : Value) = (.bool b70)) ∧
                                       cond (!(b66 == b70))
                                         (R (.bool false) w69)
                                         (j49 w69))
                                (cond (n15 == (3 : Int))
                                   (LoopP [.int .i64]
                                      (fun j71 => fun (n72 : Int) => fun (w73 : World) =>
                                       JoinP [.bool]
                                         (fun (b74 : Bool) => fun (w75 : World) =>
                                          cond b74
                                            (Go.CW.Spec Try.prog 11 #[(.pointer o6)] w75 fun v76 w77 =>
                                              Go.CW.Spec Try.prog 18 #[(.pointer (some ⟨(Array.size (World.heap w5)), 0, none⟩))] w77 fun v78 w79 =>
                                               Go.CW.Spec Try.prog 17 #[v76, v78] w79 fun v80 w81 =>
                                                ∃ b82 : Bool, ((v80 : Value) = (.bool b82)) ∧
                                                 cond (!b82)
                                                   (R (.bool false) w81)
                                                   (j71 (IntKind.wrap .i64 (n72 + (1 : Int))) w81))
                                            (j49 w75))
                                         (fun j83 =>
                                          ∃ n84 : Int, ((Go.World.cell? w73 (Addr.add ⟨(Array.size (World.heap w9)), 0, none⟩ 2)) = (some (.int .i64 n84))) ∧
                                           cond (decide (n72 < n84))
                                             (j83 (decide (n72 < (20 : Int))) w73)
                                             (j83 false w73)))
                                      (fun s85 => s85 (0 : Int) (stRow (World.alloc w9 (.cells #[(.int .i64 (0 : Int)), (.int .i64 (0 : Int)), (.int .i64 (0 : Int))] 43)) ⟨(Array.size (World.heap w9)), 0, none⟩ #[(.int .i64 n12), (.int .i64 n13), (.int .i64 n14)])))
                                   (j49 (stRow (World.alloc w9 (.cells #[(.int .i64 (0 : Int)), (.int .i64 (0 : Int)), (.int .i64 (0 : Int))] 43)) ⟨(Array.size (World.heap w9)), 0, none⟩ #[(.int .i64 n12), (.int .i64 n13), (.int .i64 n14)]))))))
                  (R (.bool true) w9))
              (fun s86 => s86 (0 : Int) (World.alloc w5 (.cells #[(.slice none 0 0), (.int .i64 (0 : Int))] 41)))))

theorem gemellaw10_TimerPlays_wp (p0 : Value) (w : World) (R : KV) (h : gemellaw10_TimerPlays_F p0 w R) : Go.CW.Spec Try.prog 7 #[p0] w R :=
  spec_of Try.func7 (by kernel_rfl) (show gemellaw10_TimerPlays_F p0 w R = _ by kernel_rfl) h

/-- gemel/gemellaw10.known -/
def gemellaw10_known_F  (w : World) (R : KV) : Prop :=
 Go.CW.Spec Try.prog 9 #[] w fun v0 w1 =>
  ∃ o2 : Option Addr, ((v0 : Value) = (.pointer o2)) ∧
   ∃ b3 : Bool, ((Go.CW.isNilP (.pointer o2)) = (some b3)) ∧
    cond b3
      (R (.bool false) w1)
      (Go.CW.Spec Try.prog 10 #[(.pointer o2), (.int .i64 (5 : Int)), (.int .i64 (2 : Int))] w1 fun v4 w5 =>
        ∃ n6 : Int, ((v4 : Value) = (.int .i64 n6)) ∧
         Go.CW.Spec Try.prog 19 #[(.pointer o2), (.int .i64 (5 : Int))] w5 fun v7 w8 =>
          ∃ n9 : Int, ∃ b10 : Bool, ((v7 : Value) = (.tuple #[(.int .i64 n9), (.bool b10)])) ∧
            Go.CW.Spec Try.prog 11 #[(.pointer o2)] w8 fun v11 w12 =>
             Go.CW.Spec Try.prog 11 #[(.pointer o2)] w12 fun v13 w14 =>
              JoinP [.bool]
                (fun (b15 : Bool) => fun (w16 : World) =>
                 R (.bool b15) w16)
                (fun j17 =>
                 cond (n6 == (0 : Int))
                   (cond (n9 == (2 : Int))
                      (cond b10
                         (∃ m18 : Nat, ((Go.CW.sliceLen v11) = (some m18)) ∧
                           cond (((m18 : Nat) : Int) == (0 : Int))
                             (∃ m19 : Nat, ((Go.CW.sliceLen v13) = (some m19)) ∧
                               cond (((m19 : Nat) : Int) == (1 : Int))
                                 (∃ a20 : Addr, ((Go.CW.sliceAt v13 (0 : Int) 1) = (some a20)) ∧
                                   ∃ n21 : Int, ((Go.World.cell? w14 a20) = (some (.int .i64 n21))) ∧
                                    cond (n21 == (5 : Int))
                                      (Go.CW.Spec Try.prog 22 #[(.pointer o2)] w14 fun v22 w23 =>
                                        ∃ n24 : Int, ((v22 : Value) = (.int .i64 n24)) ∧
                                         cond (n24 == (2 : Int))
                                           (Go.CW.Spec Try.prog 12 #[(.pointer o2)] w23 fun v25 w26 =>
                                             ∃ n27 : Int, ((v25 : Value) = (.int .i64 n27)) ∧
                                              j17 (n27 == (0 : Int)) w26)
                                           (j17 false w23))
                                      (j17 false w14))
                                 (j17 false w14))
                             (j17 false w14))
                         (j17 false w14))
                      (j17 false w14))
                   (j17 false w14)))

theorem gemellaw10_known_wp  (w : World) (R : KV) (h : gemellaw10_known_F  w R) : Go.CW.Spec Try.prog 8 #[] w R :=
  spec_of Try.func8 (by kernel_rfl) (show gemellaw10_known_F  w R = _ by kernel_rfl) h

/-- gemel/timer.New -/
def timer_New_F  (w : World) (R : KV) : Prop :=
 R (.pointer (some ⟨(Array.size (World.heap w)), 0, none⟩)) (World.alloc w (.cells #[(.slice none 0 0), (.int .i64 (0 : Int))] 50))

theorem timer_New_wp  (w : World) (R : KV) (h : timer_New_F  w R) : Go.CW.Spec Try.prog 9 #[] w R :=
  spec_of Try.func9 (by kernel_rfl) (show timer_New_F  w R = _ by kernel_rfl) h

/-- (*gemel/timer.Timers).Set -/
def timer_Timers_Set_m_F (p0 : Option Addr) (p1 : Int) (p2 : Int) (w : World) (R : KV) : Prop :=
 JoinP [.bool]
   (fun (b0 : Bool) => fun (w1 : World) =>
    cond b0
      (R (.int .i64 (1 : Int)) w1)
      (Go.CW.Spec Try.prog 23 #[(.pointer p0), (.int .i64 p1)] w1 fun v2 w3 =>
        ∃ n4 : Int, ((v2 : Value) = (.int .i64 n4)) ∧
         JoinP []
           (fun (w5 : World) =>
            withAddr (.pointer p0) fun a6 =>
             ∃ v7 : Value, ((Go.World.cell? (World.drew w5) (Addr.add a6 0)) = (some v7)) ∧
              withAddr (.pointer p0) fun a8 =>
               ∃ n9 : Int, ((Go.World.cell? (World.drew w5) (Addr.add a8 1)) = (some (.int .i64 n9))) ∧
                (∃ v10 : Value, ((Go.World.cell? (World.alloc (World.drew w5) (.cells #[(.int .i64 p1), (.int .i64 (IntKind.wrap .i64 (n9 + p2)))] 54)) (Addr.add a6 0)) = (some v10)) ∧
                 (v10 : Value) = v7) ∧
                ∃ v11 : Value, ∃ w12 : World, ((Sem.run @Go.Proofs.Try.prog (Go.Builtin.append_ #[48, 48] 48 #[v7, (.slice (some ⟨(Array.size (World.heap (World.drew w5))), 0, none⟩) 1 1)]) (World.alloc (World.drew w5) (.cells #[(.int .i64 p1), (.int .i64 (IntKind.wrap .i64 (n9 + p2)))] 54))) = (.ok v11 w12)) ∧
                  withAddr (.pointer p0) fun a13 =>
                   oneK v11 ((St1 w12 (Addr.add a13 0)) ∧
                    withAddr (.pointer p0) fun a14 =>
                     ∃ v15 : Value, ((Go.World.cell? (World.setCell w12 (Addr.add a13 0) v11) (Addr.add a14 0)) = (some v15)) ∧
                      ∃ m16 : Nat, ((Go.CW.sliceLen v15) = (some m16)) ∧
                       Go.CW.Spec Try.prog 25 #[(.pointer p0), (.int .i64 (IntKind.wrap .i64 (((m16 : Nat) : Int) - (1 : Int))))] (World.setCell w12 (Addr.add a13 0) v11) fun v17 w18 =>
                        ((v17 : Value) = (.tuple #[])) ∧
                        R (.int .i64 (0 : Int)) w18))
           (fun j19 =>
            cond (decide (n4 ≥ (0 : Int)))
              (Go.CW.Spec Try.prog 24 #[(.pointer p0), (.int .i64 n4)] w3 fun v20 w21 =>
                ((v20 : Value) = (.tuple #[])) ∧
                j19 w21)
              (withAddr (.pointer p0) fun a22 =>
                ∃ v23 : Value, ((Go.World.cell? w3 (Addr.add a22 0)) = (some v23)) ∧
                 ∃ m24 : Nat, ((Go.CW.sliceLen v23) = (some m24)) ∧
                  cond (decide (((m24 : Nat) : Int) ≥ (256 : Int)))
                    (R (.int .i64 (7 : Int)) w3)
                    (j19 w3)))))
   (fun j25 =>
    cond (decide (p2 < (1 : Int)))
      (j25 true w)
      (j25 (decide (p2 > (1073741824 : Int))) w))

theorem timer_Timers_Set_m_wp (p0 : Option Addr) (p1 : Int) (p2 : Int) (w : World) (R : KV) (h : timer_Timers_Set_m_F p0 p1 p2 w R) : Go.CW.Spec Try.prog 10 #[(.pointer p0), (.int .i64 p1), (.int .i64 p2)] w R :=
  spec_of Try.func10 (by kernel_rfl) (show timer_Timers_Set_m_F p0 p1 p2 w R = _ by kernel_rfl) h

/-- (*gemel/timer.Timers).Tick -/
def timer_Timers_Tick_m_F (p0 : Option Addr) (w : World) (R : KV) : Prop :=
 withAddr (.pointer p0) fun a0 =>
  ∃ n1 : Int, ((Go.World.cell? w (Addr.add a0 1)) = (some (.int .i64 n1))) ∧
   withAddr (.pointer p0) fun a2 =>
    (St1 w (Addr.add a2 1)) ∧
    LoopP [.val]
      (fun j3 => fun (v4 : Value) => fun (w5 : World) =>
       JoinP [.bool]
         (fun (b6 : Bool) => fun (w7 : World) =>
          cond b6
            (withAddr (.pointer p0) fun a8 =>
              ∃ v9 : Value, ((Go.World.cell? w7 (Addr.add a8 0)) = (some v9)) ∧
               ∃ a10 : Addr, ((Go.CW.sliceAt v9 (0 : Int) 2) = (some a10)) ∧
                ∃ n11 : Int, ((Go.World.cell? w7 (Addr.add a10 0)) = (some (.int .i64 n11))) ∧
                 ∃ v12 : Value, ∃ w13 : World, ((Sem.run @Go.Proofs.Try.prog (Go.Builtin.append_ #[28, 28] 28 #[v4, (.slice (some ⟨(Array.size (World.heap w7)), 0, none⟩) 1 1)]) (World.alloc w7 (.cells #[(.int .i64 n11)] 3))) = (.ok v12 w13)) ∧
                   Go.CW.Spec Try.prog 24 #[(.pointer p0), (.int .i64 (0 : Int))] w13 fun v14 w15 =>
                    ((v14 : Value) = (.tuple #[])) ∧
                    j3 v12 w15)
            (Go.CW.Spec Try.prog 26 #[v4] w7 fun v16 w17 =>
              R v16 w17))
         (fun j18 =>
          withAddr (.pointer p0) fun a19 =>
           ∃ v20 : Value, ((Go.World.cell? (World.drew w5) (Addr.add a19 0)) = (some v20)) ∧
            ∃ m21 : Nat, ((Go.CW.sliceLen v20) = (some m21)) ∧
             cond (decide (((m21 : Nat) : Int) > (0 : Int)))
               (withAddr (.pointer p0) fun a22 =>
                 ∃ v23 : Value, ((Go.World.cell? (World.drew w5) (Addr.add a22 0)) = (some v23)) ∧
                  ∃ a24 : Addr, ((Go.CW.sliceAt v23 (0 : Int) 2) = (some a24)) ∧
                   ∃ n25 : Int, ((Go.World.cell? (World.drew w5) (Addr.add a24 1)) = (some (.int .i64 n25))) ∧
                    withAddr (.pointer p0) fun a26 =>
                     ∃ n27 : Int, ((Go.World.cell? (World.drew w5) (Addr.add a26 1)) = (some (.int .i64 n27))) ∧
                      j18 (decide (n25 ≤ n27)) (World.drew w5))
               (j18 false (World.drew w5))))
      (fun s28 => s28 (.slice none 0 0) (World.setCell w (Addr.add a2 1) (.int .i64 (IntKind.wrap .i64 (n1 + (1 : Int))))))

theorem timer_Timers_Tick_m_wp (p0 : Option Addr) (w : World) (R : KV) (h : timer_Timers_Tick_m_F p0 w R) : Go.CW.Spec Try.prog 11 #[(.pointer p0)] w R :=
  spec_of Try.func11 (by kernel_rfl) (show timer_Timers_Tick_m_F p0 w R = _ by kernel_rfl) h

/-- (*gemel/timer.Timers).Len -/
def timer_Timers_Len_m_F (p0 : Option Addr) (w : World) (R : KV) : Prop :=
 withAddr (.pointer p0) fun a0 =>
  ∃ v1 : Value, ((Go.World.cell? w (Addr.add a0 0)) = (some v1)) ∧
   ∃ m2 : Nat, ((Go.CW.sliceLen v1) = (some m2)) ∧
    R (.int .i64 ((m2 : Nat) : Int)) w

theorem timer_Timers_Len_m_wp (p0 : Option Addr) (w : World) (R : KV) (h : timer_Timers_Len_m_F p0 w R) : Go.CW.Spec Try.prog 12 #[(.pointer p0)] w R :=
  spec_of Try.func12 (by kernel_rfl) (show timer_Timers_Len_m_F p0 w R = _ by kernel_rfl) h

/-- (*gemel/timer.Timers).Next -/
def timer_Timers_Next_m_F (p0 : Option Addr) (w : World) (R : KV) : Prop :=
 withAddr (.pointer p0) fun a0 =>
  ∃ v1 : Value, ((Go.World.cell? w (Addr.add a0 0)) = (some v1)) ∧
   ∃ m2 : Nat, ((Go.CW.sliceLen v1) = (some m2)) ∧
    cond (((m2 : Nat) : Int) == (0 : Int))
      (R (.tuple #[(.int .i64 (0 : Int)), (.bool false)]) w)
      (withAddr (.pointer p0) fun a3 =>
        ∃ v4 : Value, ((Go.World.cell? (World.drew w) (Addr.add a3 0)) = (some v4)) ∧
         ∃ a5 : Addr, ((Go.CW.sliceAt v4 (0 : Int) 2) = (some a5)) ∧
          ∃ n6 : Int, ((Go.World.cell? (World.drew w) (Addr.add a5 1)) = (some (.int .i64 n6))) ∧
           withAddr (.pointer p0) fun a7 =>
            ∃ n8 : Int, ((Go.World.cell? (World.drew w) (Addr.add a7 1)) = (some (.int .i64 n8))) ∧
             R (.tuple #[(.int .i64 (IntKind.wrap .i64 (n6 - n8))), (.bool true)]) (World.drew w))

theorem timer_Timers_Next_m_wp (p0 : Option Addr) (w : World) (R : KV) (h : timer_Timers_Next_m_F p0 w R) : Go.CW.Spec Try.prog 13 #[(.pointer p0)] w R :=
  spec_of Try.func13 (by kernel_rfl) (show timer_Timers_Next_m_F p0 w R = _ by kernel_rfl) h

/-- (*gemel/timer.Timers).Stop -/
def timer_Timers_Stop_m_F (p0 : Option Addr) (p1 : Int) (w : World) (R : KV) : Prop :=
 Go.CW.Spec Try.prog 23 #[(.pointer p0), (.int .i64 p1)] w fun v0 w1 =>
  ∃ n2 : Int, ((v0 : Value) = (.int .i64 n2)) ∧
   JoinP []
     (fun (w3 : World) =>
      R (.bool (decide (n2 ≥ (0 : Int)))) w3)
     (fun j4 =>
      cond (decide (n2 ≥ (0 : Int)))
        (Go.CW.Spec Try.prog 24 #[(.pointer p0), (.int .i64 n2)] w1 fun v5 w6 =>
          ((v5 : Value) = (.tuple #[])) ∧
          j4 w6)
        (j4 w1))

theorem timer_Timers_Stop_m_wp (p0 : Option Addr) (p1 : Int) (w : World) (R : KV) (h : timer_Timers_Stop_m_F p0 p1 w R) : Go.CW.Spec Try.prog 14 #[(.pointer p0), (.int .i64 p1)] w R :=
  spec_of Try.func14 (by kernel_rfl) (show timer_Timers_Stop_m_F p0 p1 w R = _ by kernel_rfl) h

/-- (*gemel/gemelref10.Timers).Set -/
def gemelref10_Timers_Set_m_F (p0 : Option Addr) (p1 : Int) (p2 : Int) (w : World) (R : KV) : Prop :=
 JoinP [.bool]
   (fun (b0 : Bool) => fun (w1 : World) =>
    cond b0
      (R (.int .i64 (1 : Int)) w1)
      (Go.CW.Spec Try.prog 27 #[(.pointer p0), (.int .i64 p1)] w1 fun v2 w3 =>
        ∃ n4 : Int, ∃ b5 : Bool, ((v2 : Value) = (.tuple #[(.int .i64 n4), (.bool b5)])) ∧
          cond b5
            (withAddr (.pointer p0) fun a6 =>
              ∃ v7 : Value, ((Go.World.cell? w3 (Addr.add a6 0)) = (some v7)) ∧
               ∃ a8 : Addr, ((Go.CW.sliceAt v7 n4 2) = (some a8)) ∧
                (St1 w3 (Addr.add a8 1)) ∧
                R (.int .i64 (0 : Int)) (World.setCell w3 (Addr.add a8 1) (.int .i64 p2)))
            (withAddr (.pointer p0) fun a9 =>
              ∃ v10 : Value, ((Go.World.cell? w3 (Addr.add a9 0)) = (some v10)) ∧
               ∃ m11 : Nat, ((Go.CW.sliceLen v10) = (some m11)) ∧
                cond (decide (((m11 : Nat) : Int) ≥ (256 : Int)))
                  (R (.int .i64 (7 : Int)) w3)
                  (withAddr (.pointer p0) fun a12 =>
                    ∃ v13 : Value, ((Go.World.cell? (World.alloc w3 (.cells #[] 57)) (Addr.add a12 0)) = (some v13)) ∧
                     ∃ v14 : Value, ((Go.CW.subSlice v13 2 none (some (.int .i64 n4)) none) = (some v14)) ∧
                      ∃ v15 : Value, ∃ w16 : World, ((Sem.run @Go.Proofs.Try.prog (Go.Builtin.append_ #[39, 39] 39 #[(.slice (some ⟨(Array.size (World.heap w3)), 0, none⟩) 0 0), v14]) (World.alloc w3 (.cells #[] 57))) = (.ok v15 w16)) ∧
                        ∃ v17 : Value, ∃ w18 : World, ((Sem.run @Go.Proofs.Try.prog (Go.Builtin.append_ #[39, 39] 39 #[v15, (.slice (some ⟨(Array.size (World.heap w16)), 0, none⟩) 1 1)]) (World.alloc w16 (.cells #[(.int .i64 p1), (.int .i64 p2)] 57))) = (.ok v17 w18)) ∧
                          withAddr (.pointer p0) fun a19 =>
                           ∃ v20 : Value, ((Go.World.cell? w18 (Addr.add a19 0)) = (some v20)) ∧
                            ∃ v21 : Value, ((Go.CW.subSlice v20 2 (some (.int .i64 n4)) none none) = (some v21)) ∧
                             ∃ v22 : Value, ∃ w23 : World, ((Sem.run @Go.Proofs.Try.prog (Go.Builtin.append_ #[39, 39] 39 #[v17, v21]) w18) = (.ok v22 w23)) ∧
                               withAddr (.pointer p0) fun a24 =>
                                oneK v22 ((St1 w23 (Addr.add a24 0)) ∧
                                 R (.int .i64 (0 : Int)) (World.setCell w23 (Addr.add a24 0) v22))))))
   (fun j25 =>
    cond (decide (p2 < (1 : Int)))
      (j25 true w)
      (j25 (decide (p2 > (1073741824 : Int))) w))

theorem gemelref10_Timers_Set_m_wp (p0 : Option Addr) (p1 : Int) (p2 : Int) (w : World) (R : KV) (h : gemelref10_Timers_Set_m_F p0 p1 p2 w R) : Go.CW.Spec Try.prog 15 #[(.pointer p0), (.int .i64 p1), (.int .i64 p2)] w R :=
  spec_of Try.func15 (by kernel_rfl) (show gemelref10_Timers_Set_m_F p0 p1 p2 w R = _ by kernel_rfl) h

/-- (*gemel/gemelref10.Timers).Stop -/
def gemelref10_Timers_Stop_m_F (p0 : Option Addr) (p1 : Int) (w : World) (R : KV) : Prop :=
 Go.CW.Spec Try.prog 27 #[(.pointer p0), (.int .i64 p1)] w fun v0 w1 =>
  ∃ n2 : Int, ∃ b3 : Bool, ((v0 : Value) = (.tuple #[(.int .i64 n2), (.bool b3)])) ∧
    JoinP []
      (fun (w4 : World) =>
       R (.bool b3) w4)
      (fun j5 =>
       cond b3
         (withAddr (.pointer p0) fun a6 =>
           ∃ v7 : Value, ((Go.World.cell? (World.alloc w1 (.cells #[] 57)) (Addr.add a6 0)) = (some v7)) ∧
            ∃ v8 : Value, ((Go.CW.subSlice v7 2 none (some (.int .i64 n2)) none) = (some v8)) ∧
             ∃ v9 : Value, ∃ w10 : World, ((Sem.run @Go.Proofs.Try.prog (Go.Builtin.append_ #[39, 39] 39 #[(.slice (some ⟨(Array.size (World.heap w1)), 0, none⟩) 0 0), v8]) (World.alloc w1 (.cells #[] 57))) = (.ok v9 w10)) ∧
               withAddr (.pointer p0) fun a11 =>
                ∃ v12 : Value, ((Go.World.cell? w10 (Addr.add a11 0)) = (some v12)) ∧
                 ∃ v13 : Value, ((Go.CW.subSlice v12 2 (some (.int .i64 (IntKind.wrap .i64 (n2 + (1 : Int))))) none none) = (some v13)) ∧
                  ∃ v14 : Value, ∃ w15 : World, ((Sem.run @Go.Proofs.Try.prog (Go.Builtin.append_ #[39, 39] 39 #[v9, v13]) w10) = (.ok v14 w15)) ∧
                    withAddr (.pointer p0) fun a16 =>
                     oneK v14 ((St1 w15 (Addr.add a16 0)) ∧
                      j5 (World.setCell w15 (Addr.add a16 0) v14)))
         (j5 w1))

theorem gemelref10_Timers_Stop_m_wp (p0 : Option Addr) (p1 : Int) (w : World) (R : KV) (h : gemelref10_Timers_Stop_m_F p0 p1 w R) : Go.CW.Spec Try.prog 16 #[(.pointer p0), (.int .i64 p1)] w R :=
  spec_of Try.func16 (by kernel_rfl) (show gemelref10_Timers_Stop_m_F p0 p1 w R = _ by kernel_rfl) h

/-- gemel/gemellaw10.ints -/
def gemellaw10_ints_F (p0 : Value) (p1 : Value) (w : World) (R : KV) : Prop :=
 ∃ m0 : Nat, ((Go.CW.sliceLen p0) = (some m0)) ∧
  ∃ m1 : Nat, ((Go.CW.sliceLen p1) = (some m1)) ∧
   cond (((m0 : Nat) : Int) != ((m1 : Nat) : Int))
     (R (.bool false) w)
     (LoopP [.int .i64]
        (fun j2 => fun (n3 : Int) => fun (w4 : World) =>
         ∃ m5 : Nat, ((Go.CW.sliceLen p0) = (some m5)) ∧
          cond (decide (n3 < ((m5 : Nat) : Int)))
            (∃ a6 : Addr, ((Go.CW.sliceAt p0 n3 1) = (some a6)) ∧
              ∃ n7 : Int, ((Go.World.cell? (World.drew w4) a6) = (some (.int .i64 n7))) ∧
               ∃ a8 : Addr, ((Go.CW.sliceAt p1 n3 1) = (some a8)) ∧
                ∃ n9 : Int, ((Go.World.cell? (World.drew w4) a8) = (some (.int .i64 n9))) ∧
                 cond (n7 != n9)
                   (R (.bool false) (World.drew w4))
                   (j2 (IntKind.wrap .i64 (n3 + (1 : Int))) (World.drew w4)))
            (R (.bool true) w4))
        (fun s10 => s10 (0 : Int) w))

theorem gemellaw10_ints_wp (p0 : Value) (p1 : Value) (w : World) (R : KV) (h : gemellaw10_ints_F p0 p1 w R) : Go.CW.Spec Try.prog 17 #[p0, p1] w R :=
  spec_of Try.func17 (by kernel_rfl) (show gemellaw10_ints_F p0 p1 w R = _ by kernel_rfl) h

/-- (*gemel/gemelref10.Timers).Tick -/
def gemelref10_Timers_Tick_m_F (p0 : Option Addr) (w : World) (R : KV) : Prop :=
 withAddr (.pointer p0) fun a0 =>
  ∃ n1 : Int, ((Go.World.cell? w (Addr.add a0 1)) = (some (.int .i64 n1))) ∧
   withAddr (.pointer p0) fun a2 =>
    (St1 w (Addr.add a2 1)) ∧
    LoopP [.val, .val, .int .i64]
      (fun j3 => fun (v4 : Value) => fun (v5 : Value) => fun (n6 : Int) => fun (w7 : World) =>
       withAddr (.pointer p0) fun a8 =>
        ∃ v9 : Value, ((Go.World.cell? w7 (Addr.add a8 0)) = (some v9)) ∧
         ∃ m10 : Nat, ((Go.CW.sliceLen v9) = (some m10)) ∧
          cond (decide (n6 < ((m10 : Nat) : Int)))
            (JoinP [.val, .val]
               (fun (v11 : Value) => fun (v12 : Value) => fun (w13 : World) =>
                j3 v11 v12 (IntKind.wrap .i64 (n6 + (1 : Int))) w13)
               (fun j14 =>
                withAddr (.pointer p0) fun a15 =>
                 ∃ v16 : Value, ((Go.World.cell? w7 (Addr.add a15 0)) = (some v16)) ∧
                  ∃ a17 : Addr, ((Go.CW.sliceAt v16 n6 2) = (some a17)) ∧
                   ∃ n18 : Int, ∃ n19 : Int, (ldCells w7 a17 2 #[(.int .i64 n18), (.int .i64 n19)]) ∧
                     (StRow (World.alloc w7 (.cells #[(.int .i64 (0 : Int)), (.int .i64 (0 : Int))] 57)) ⟨(Array.size (World.heap w7)), 0, none⟩ #[(.int .i64 n18), (.int .i64 n19)]) ∧
                     ∃ n20 : Int, ((Go.World.cell? (stRow (World.alloc w7 (.cells #[(.int .i64 (0 : Int)), (.int .i64 (0 : Int))] 57)) ⟨(Array.size (World.heap w7)), 0, none⟩ #[(.int .i64 n18), (.int .i64 n19)]) (Addr.add ⟨(Array.size (World.heap w7)), 0, none⟩ 1)) = (some (.int .i64 n20))) ∧
                      (St1 (stRow (World.alloc w7 (.cells #[(.int .i64 (0 : Int)), (.int .i64 (0 : Int))] 57)) ⟨(Array.size (World.heap w7)), 0, none⟩ #[(.int .i64 n18), (.int .i64 n19)]) (Addr.add ⟨(Array.size (World.heap w7)), 0, none⟩ 1)) ∧
                      ∃ n21 : Int, ((Go.World.cell? (World.setCell (stRow (World.alloc w7 (.cells #[(.int .i64 (0 : Int)), (.int .i64 (0 : Int))] 57)) ⟨(Array.size (World.heap w7)), 0, none⟩ #[(.int .i64 n18), (.int .i64 n19)]) (Addr.add ⟨(Array.size (World.heap w7)), 0, none⟩ 1) (.int .i64 (IntKind.wrap .i64 (n20 - (1 : Int))))) (Addr.add ⟨(Array.size (World.heap w7)), 0, none⟩ 1)) = (some (.int .i64 n21))) ∧
                       cond (n21 == (0 : Int))
                         (∃ n22 : Int, ((Go.World.cell? (World.setCell (stRow (World.alloc w7 (.cells #[(.int .i64 (0 : Int)), (.int .i64 (0 : Int))] 57)) ⟨(Array.size (World.heap w7)), 0, none⟩ #[(.int .i64 n18), (.int .i64 n19)]) (Addr.add ⟨(Array.size (World.heap w7)), 0, none⟩ 1) (.int .i64 (IntKind.wrap .i64 (n20 - (1 : Int))))) (Addr.add ⟨(Array.size (World.heap w7)), 0, none⟩ 0)) = (some (.int .i64 n22))) ∧
                           ∃ v23 : Value, ∃ w24 : World, ((Sem.run @Go.Proofs.Try.prog (Go.Builtin.append_ #[28, 28] 28 #[v4, (.slice (some ⟨(Array.size (World.heap (World.setCell (stRow (World.alloc w7 (.cells #[(.int .i64 (0 : Int)), (.int .i64 (0 : Int))] 57)) ⟨(Array.size (World.heap w7)), 0, none⟩ #[(.int .i64 n18), (.int .i64 n19)]) (Addr.add ⟨(Array.size (World.heap w7)), 0, none⟩ 1) (.int .i64 (IntKind.wrap .i64 (n20 - (1 : Int))))))), 0, none⟩) 1 1)]) (World.alloc (World.setCell (stRow (World.alloc w7 (.cells #[(.int .i64 (0 : Int)), (.int .i64 (0 : Int))] 57)) ⟨(Array.size (World.heap w7)), 0, none⟩ #[(.int .i64 n18), (.int .i64 n19)]) (Addr.add ⟨(Array.size (World.heap w7)), 0, none⟩ 1) (.int .i64 (IntKind.wrap .i64 (n20 - (1 : Int))))) (.cells #[(.int .i64 n22)] 3))) = (.ok v23 w24)) ∧
                             j14 v23 v5 w24)
                         (∃ n25 : Int, ∃ n26 : Int, (ldCells (World.setCell (stRow (World.alloc w7 (.cells #[(.int .i64 (0 : Int)), (.int .i64 (0 : Int))] 57)) ⟨(Array.size (World.heap w7)), 0, none⟩ #[(.int .i64 n18), (.int .i64 n19)]) (Addr.add ⟨(Array.size (World.heap w7)), 0, none⟩ 1) (.int .i64 (IntKind.wrap .i64 (n20 - (1 : Int))))) ⟨(Array.size (World.heap w7)), 0, none⟩ 2 #[(.int .i64 n25), (.int .i64 n26)]) ∧
                            ∃ v27 : Value, ∃ w28 : World, ((Sem.run @Go.Proofs.Try.prog (Go.Builtin.append_ #[39, 39] 39 #[v5, (.slice (some ⟨(Array.size (World.heap (World.setCell (stRow (World.alloc w7 (.cells #[(.int .i64 (0 : Int)), (.int .i64 (0 : Int))] 57)) ⟨(Array.size (World.heap w7)), 0, none⟩ #[(.int .i64 n18), (.int .i64 n19)]) (Addr.add ⟨(Array.size (World.heap w7)), 0, none⟩ 1) (.int .i64 (IntKind.wrap .i64 (n20 - (1 : Int))))))), 0, none⟩) 1 1)]) (World.alloc (World.setCell (stRow (World.alloc w7 (.cells #[(.int .i64 (0 : Int)), (.int .i64 (0 : Int))] 57)) ⟨(Array.size (World.heap w7)), 0, none⟩ #[(.int .i64 n18), (.int .i64 n19)]) (Addr.add ⟨(Array.size (World.heap w7)), 0, none⟩ 1) (.int .i64 (IntKind.wrap .i64 (n20 - (1 : Int))))) (.cells #[(.int .i64 n25), (.int .i64 n26)] 57))) = (.ok v27 w28)) ∧
                              j14 v4 v27 w28)))
            (withAddr (.pointer p0) fun a29 =>
              oneK v5 ((St1 w7 (Addr.add a29 0)) ∧
               R v4 (World.setCell w7 (Addr.add a29 0) v5))))
      (fun s30 => s30 (.slice none 0 0) (.slice none 0 0) (0 : Int) (World.setCell w (Addr.add a2 1) (.int .i64 (IntKind.wrap .i64 (n1 + (1 : Int))))))

theorem gemelref10_Timers_Tick_m_wp (p0 : Option Addr) (w : World) (R : KV) (h : gemelref10_Timers_Tick_m_F p0 w R) : Go.CW.Spec Try.prog 18 #[(.pointer p0)] w R :=
  spec_of Try.func18 (by kernel_rfl) (show gemelref10_Timers_Tick_m_F p0 w R = _ by kernel_rfl) h

/-- (*gemel/timer.Timers).Left -/
def timer_Timers_Left_m_F (p0 : Option Addr) (p1 : Int) (w : World) (R : KV) : Prop :=
 Go.CW.Spec Try.prog 23 #[(.pointer p0), (.int .i64 p1)] w fun v0 w1 =>
  ∃ n2 : Int, ((v0 : Value) = (.int .i64 n2)) ∧
   cond (decide (n2 < (0 : Int)))
     (R (.tuple #[(.int .i64 (0 : Int)), (.bool false)]) w1)
     (withAddr (.pointer p0) fun a3 =>
       ∃ v4 : Value, ((Go.World.cell? (World.drew w1) (Addr.add a3 0)) = (some v4)) ∧
        ∃ a5 : Addr, ((Go.CW.sliceAt v4 n2 2) = (some a5)) ∧
         ∃ n6 : Int, ((Go.World.cell? (World.drew w1) (Addr.add a5 1)) = (some (.int .i64 n6))) ∧
          withAddr (.pointer p0) fun a7 =>
           ∃ n8 : Int, ((Go.World.cell? (World.drew w1) (Addr.add a7 1)) = (some (.int .i64 n8))) ∧
            R (.tuple #[(.int .i64 (IntKind.wrap .i64 (n6 - n8))), (.bool true)]) (World.drew w1))

theorem timer_Timers_Left_m_wp (p0 : Option Addr) (p1 : Int) (w : World) (R : KV) (h : timer_Timers_Left_m_F p0 p1 w R) : Go.CW.Spec Try.prog 19 #[(.pointer p0), (.int .i64 p1)] w R :=
  spec_of Try.func19 (by kernel_rfl) (show timer_Timers_Left_m_F p0 p1 w R = _ by kernel_rfl) h

/-- (*gemel/gemelref10.Timers).Left -/
def gemelref10_Timers_Left_m_F (p0 : Option Addr) (p1 : Int) (w : World) (R : KV) : Prop :=
 Go.CW.Spec Try.prog 27 #[(.pointer p0), (.int .i64 p1)] w fun v0 w1 =>
  ∃ n2 : Int, ∃ b3 : Bool, ((v0 : Value) = (.tuple #[(.int .i64 n2), (.bool b3)])) ∧
    cond (!b3)
      (R (.tuple #[(.int .i64 (0 : Int)), (.bool false)]) w1)
      (withAddr (.pointer p0) fun a4 =>
        ∃ v5 : Value, ((Go.World.cell? w1 (Addr.add a4 0)) = (some v5)) ∧
         ∃ a6 : Addr, ((Go.CW.sliceAt v5 n2 2) = (some a6)) ∧
          ∃ n7 : Int, ((Go.World.cell? w1 (Addr.add a6 1)) = (some (.int .i64 n7))) ∧
           R (.tuple #[(.int .i64 n7), (.bool true)]) w1)

theorem gemelref10_Timers_Left_m_wp (p0 : Option Addr) (p1 : Int) (w : World) (R : KV) (h : gemelref10_Timers_Left_m_F p0 p1 w R) : Go.CW.Spec Try.prog 20 #[(.pointer p0), (.int .i64 p1)] w R :=
  spec_of Try.func20 (by kernel_rfl) (show gemelref10_Timers_Left_m_F p0 p1 w R = _ by kernel_rfl) h

/-- (*gemel/gemelref10.Timers).Next -/
def gemelref10_Timers_Next_m_F (p0 : Option Addr) (w : World) (R : KV) : Prop :=
 withAddr (.pointer p0) fun a0 =>
  ∃ v1 : Value, ((Go.World.cell? w (Addr.add a0 0)) = (some v1)) ∧
   ∃ m2 : Nat, ((Go.CW.sliceLen v1) = (some m2)) ∧
    cond (((m2 : Nat) : Int) == (0 : Int))
      (R (.tuple #[(.int .i64 (0 : Int)), (.bool false)]) w)
      (withAddr (.pointer p0) fun a3 =>
        ∃ v4 : Value, ((Go.World.cell? w (Addr.add a3 0)) = (some v4)) ∧
         ∃ a5 : Addr, ((Go.CW.sliceAt v4 (0 : Int) 2) = (some a5)) ∧
          ∃ n6 : Int, ((Go.World.cell? w (Addr.add a5 1)) = (some (.int .i64 n6))) ∧
           LoopP [.int .i64, .int .i64]
             (fun j7 => fun (n8 : Int) => fun (n9 : Int) => fun (w10 : World) =>
              withAddr (.pointer p0) fun a11 =>
               ∃ v12 : Value, ((Go.World.cell? w10 (Addr.add a11 0)) = (some v12)) ∧
                ∃ m13 : Nat, ((Go.CW.sliceLen v12) = (some m13)) ∧
                 cond (decide (n9 < ((m13 : Nat) : Int)))
                   (JoinP [.int .i64]
                      (fun (n14 : Int) => fun (w15 : World) =>
                       j7 n14 (IntKind.wrap .i64 (n9 + (1 : Int))) w15)
                      (fun j16 =>
                       withAddr (.pointer p0) fun a17 =>
                        ∃ v18 : Value, ((Go.World.cell? w10 (Addr.add a17 0)) = (some v18)) ∧
                         ∃ a19 : Addr, ((Go.CW.sliceAt v18 n9 2) = (some a19)) ∧
                          ∃ n20 : Int, ((Go.World.cell? w10 (Addr.add a19 1)) = (some (.int .i64 n20))) ∧
                           cond (decide (n20 < n8))
                             (withAddr (.pointer p0) fun a21 =>
                               ∃ v22 : Value, ((Go.World.cell? w10 (Addr.add a21 0)) = (some v22)) ∧
                                ∃ a23 : Addr, ((Go.CW.sliceAt v22 n9 2) = (some a23)) ∧
                                 ∃ n24 : Int, ((Go.World.cell? w10 (Addr.add a23 1)) = (some (.int .i64 n24))) ∧
                                  j16 n24 w10)
                             (j16 n8 w10)))
                   (R (.tuple #[(.int .i64 n8), (.bool true)]) w10))
             (fun s25 => s25 n6 (1 : Int) w))

theorem gemelref10_Timers_Next_m_wp (p0 : Option Addr) (w : World) (R : KV) (h : gemelref10_Timers_Next_m_F p0 w R) : Go.CW.Spec Try.prog 21 #[(.pointer p0)] w R :=
  spec_of Try.func21 (by kernel_rfl) (show gemelref10_Timers_Next_m_F p0 w R = _ by kernel_rfl) h

/-- (*gemel/timer.Timers).Now -/
def timer_Timers_Now_m_F (p0 : Option Addr) (w : World) (R : KV) : Prop :=
 withAddr (.pointer p0) fun a0 =>
  ∃ n1 : Int, ((Go.World.cell? w (Addr.add a0 1)) = (some (.int .i64 n1))) ∧
   R (.int .i64 n1) w

theorem timer_Timers_Now_m_wp (p0 : Option Addr) (w : World) (R : KV) (h : timer_Timers_Now_m_F p0 w R) : Go.CW.Spec Try.prog 22 #[(.pointer p0)] w R :=
  spec_of Try.func22 (by kernel_rfl) (show timer_Timers_Now_m_F p0 w R = _ by kernel_rfl) h

/-- (*gemel/timer.Timers).find -/
def timer_Timers_find_m_F (p0 : Option Addr) (p1 : Int) (w : World) (R : KV) : Prop :=
 withAddr (.pointer p0) fun a0 =>
  ∃ v1 : Value, ((Go.World.cell? (World.alloc w (.cells #[(.int .i64 p1)] 3)) (Addr.add a0 0)) = (some v1)) ∧
   Go.CW.Spec Try.prog 28 #[v1, (.func (.func 29) #[] #[(.pointer (some ⟨(Array.size (World.heap w)), 0, none⟩))])] (World.alloc w (.cells #[(.int .i64 p1)] 3)) fun v2 w3 =>
    ∃ n4 : Int, ((v2 : Value) = (.int .i64 n4)) ∧
     R (.int .i64 n4) w3

theorem timer_Timers_find_m_wp (p0 : Option Addr) (p1 : Int) (w : World) (R : KV) (h : timer_Timers_find_m_F p0 p1 w R) : Go.CW.Spec Try.prog 23 #[(.pointer p0), (.int .i64 p1)] w R :=
  spec_of Try.func23 (by kernel_rfl) (show timer_Timers_find_m_F p0 p1 w R = _ by kernel_rfl) h

/-- (*gemel/timer.Timers).remove -/
def timer_Timers_remove_m_F (p0 : Option Addr) (p1 : Int) (w : World) (R : KV) : Prop :=
 withAddr (.pointer p0) fun a0 =>
  ∃ v1 : Value, ((Go.World.cell? w (Addr.add a0 0)) = (some v1)) ∧
   ∃ m2 : Nat, ((Go.CW.sliceLen v1) = (some m2)) ∧
    withAddr (.pointer p0) fun a3 =>
     ∃ v4 : Value, ((Go.World.cell? (World.drew w) (Addr.add a3 0)) = (some v4)) ∧
      withAddr (.pointer p0) fun a5 =>
       ∃ v6 : Value, ((Go.World.cell? (World.drew w) (Addr.add a5 0)) = (some v6)) ∧
        ∃ a7 : Addr, ((Go.CW.sliceAt v6 (IntKind.wrap .i64 (((m2 : Nat) : Int) - (1 : Int))) 2) = (some a7)) ∧
         ∃ n8 : Int, ∃ n9 : Int, (ldCells (World.drew w) a7 2 #[(.int .i64 n8), (.int .i64 n9)]) ∧
           ∃ a10 : Addr, ((Go.CW.sliceAt v4 p1 2) = (some a10)) ∧
            (StRow (World.drew w) a10 #[(.int .i64 n8), (.int .i64 n9)]) ∧
            withAddr (.pointer p0) fun a11 =>
             ∃ v12 : Value, ((Go.World.cell? (stRow (World.drew w) a10 #[(.int .i64 n8), (.int .i64 n9)]) (Addr.add a11 0)) = (some v12)) ∧
              ∃ v13 : Value, ((Go.CW.subSlice v12 2 none (some (.int .i64 (IntKind.wrap .i64 (((m2 : Nat) : Int) - (1 : Int))))) none) = (some v13)) ∧
               withAddr (.pointer p0) fun a14 =>
                oneK v13 ((St1 (stRow (World.drew w) a10 #[(.int .i64 n8), (.int .i64 n9)]) (Addr.add a14 0)) ∧
                 cond (decide (p1 < (IntKind.wrap .i64 (((m2 : Nat) : Int) - (1 : Int)))))
                   (Go.CW.Spec Try.prog 25 #[(.pointer p0), (.int .i64 p1)] (World.setCell (stRow (World.drew w) a10 #[(.int .i64 n8), (.int .i64 n9)]) (Addr.add a14 0) v13) fun v15 w16 =>
                     ((v15 : Value) = (.tuple #[])) ∧
                     Go.CW.Spec Try.prog 30 #[(.pointer p0), (.int .i64 p1)] w16 fun v17 w18 =>
                      ((v17 : Value) = (.tuple #[])) ∧
                      R (.tuple #[]) w18)
                   (R (.tuple #[]) (World.setCell (stRow (World.drew w) a10 #[(.int .i64 n8), (.int .i64 n9)]) (Addr.add a14 0) v13)))

theorem timer_Timers_remove_m_wp (p0 : Option Addr) (p1 : Int) (w : World) (R : KV) (h : timer_Timers_remove_m_F p0 p1 w R) : Go.CW.Spec Try.prog 24 #[(.pointer p0), (.int .i64 p1)] w R :=
  spec_of Try.func24 (by kernel_rfl) (show timer_Timers_remove_m_F p0 p1 w R = _ by kernel_rfl) h

/-- (*gemel/timer.Timers).up -/
def timer_Timers_up_m_F (p0 : Option Addr) (p1 : Int) (w : World) (R : KV) : Prop :=
 LoopP [.int .i64]
   (fun j0 => fun (n1 : Int) => fun (w2 : World) =>
    JoinP [.bool]
      (fun (b3 : Bool) => fun (w4 : World) =>
       cond b3
         (withAddr (.pointer p0) fun a5 =>
           ∃ v6 : Value, ((Go.World.cell? (World.drew w4) (Addr.add a5 0)) = (some v6)) ∧
            withAddr (.pointer p0) fun a7 =>
             ∃ v8 : Value, ((Go.World.cell? (World.drew w4) (Addr.add a7 0)) = (some v8)) ∧
              withAddr (.pointer p0) fun a9 =>
               ∃ v10 : Value, ((Go.World.cell? (World.drew w4) (Addr.add a9 0)) = (some v10)) ∧
                ∃ a11 : Addr, ((Go.CW.sliceAt v10 (IntKind.wrap .i64 (Int.tdiv (IntKind.wrap .i64 (n1 - (1 : Int))) (2 : Int))) 2) = (some a11)) ∧
                 ∃ n12 : Int, ∃ n13 : Int, (ldCells (World.drew w4) a11 2 #[(.int .i64 n12), (.int .i64 n13)]) ∧
                   withAddr (.pointer p0) fun a14 =>
                    ∃ v15 : Value, ((Go.World.cell? (World.drew w4) (Addr.add a14 0)) = (some v15)) ∧
                     ∃ a16 : Addr, ((Go.CW.sliceAt v15 n1 2) = (some a16)) ∧
                      ∃ n17 : Int, ∃ n18 : Int, (ldCells (World.drew w4) a16 2 #[(.int .i64 n17), (.int .i64 n18)]) ∧
                        ∃ a19 : Addr, ((Go.CW.sliceAt v6 n1 2) = (some a19)) ∧
                         (StRow (World.drew w4) a19 #[(.int .i64 n12), (.int .i64 n13)]) ∧
                         ∃ a20 : Addr, ((Go.CW.sliceAt v8 (IntKind.wrap .i64 (Int.tdiv (IntKind.wrap .i64 (n1 - (1 : Int))) (2 : Int))) 2) = (some a20)) ∧
                          (StRow (stRow (World.drew w4) a19 #[(.int .i64 n12), (.int .i64 n13)]) a20 #[(.int .i64 n17), (.int .i64 n18)]) ∧
                          j0 (IntKind.wrap .i64 (Int.tdiv (IntKind.wrap .i64 (n1 - (1 : Int))) (2 : Int))) (stRow (stRow (World.drew w4) a19 #[(.int .i64 n12), (.int .i64 n13)]) a20 #[(.int .i64 n17), (.int .i64 n18)]))
         (R (.tuple #[]) w4))
      (fun j21 =>
       cond (decide (n1 > (0 : Int)))
         (Go.CW.Spec Try.prog 31 #[(.pointer p0), (.int .i64 n1), (.int .i64 (IntKind.wrap .i64 (Int.tdiv (IntKind.wrap .i64 (n1 - (1 : Int))) (2 : Int))))] w2 fun v22 w23 =>
           ∃ b24 : Bool, ((v22 : Value) = (.bool b24)) ∧
            j21 b24 w23)
         (j21 false w2)))
   (fun s25 => s25 p1 w)

theorem timer_Timers_up_m_wp (p0 : Option Addr) (p1 : Int) (w : World) (R : KV) (h : timer_Timers_up_m_F p0 p1 w R) : Go.CW.Spec Try.prog 25 #[(.pointer p0), (.int .i64 p1)] w R :=
  spec_of Try.func25 (by kernel_rfl) (show timer_Timers_up_m_F p0 p1 w R = _ by kernel_rfl) h

/-- slices.Clip[[]int,int] -/
def slices_Clip___F (p0 : Value) (w : World) (R : KV) : Prop :=
 ∃ m0 : Nat, ((Go.CW.sliceLen p0) = (some m0)) ∧
  ∃ m1 : Nat, ((Go.CW.sliceLen p0) = (some m1)) ∧
   ∃ v2 : Value, ((Go.CW.subSlice p0 1 none (some (.int .i64 ((m0 : Nat) : Int))) (some (.int .i64 ((m1 : Nat) : Int)))) = (some v2)) ∧
    R v2 w

theorem slices_Clip___wp (p0 : Value) (w : World) (R : KV) (h : slices_Clip___F p0 w R) : Go.CW.Spec Try.prog 26 #[p0] w R :=
  spec_of Try.func26 (by kernel_rfl) (show slices_Clip___F p0 w R = _ by kernel_rfl) h

/-- (*gemel/gemelref10.Timers).at -/
def gemelref10_Timers_at_m_F (p0 : Option Addr) (p1 : Int) (w : World) (R : KV) : Prop :=
 LoopP [.int .i64]
   (fun j0 => fun (n1 : Int) => fun (w2 : World) =>
    JoinP [.bool]
      (fun (b3 : Bool) => fun (w4 : World) =>
       cond b3
         (j0 (IntKind.wrap .i64 (n1 + (1 : Int))) w4)
         (JoinP [.int .i64, .bool]
            (fun (n5 : Int) => fun (b6 : Bool) => fun (w7 : World) =>
             R (.tuple #[(.int .i64 n5), (.bool b6)]) w7)
            (fun j8 =>
             withAddr (.pointer p0) fun a9 =>
              ∃ v10 : Value, ((Go.World.cell? (World.drew w4) (Addr.add a9 0)) = (some v10)) ∧
               ∃ m11 : Nat, ((Go.CW.sliceLen v10) = (some m11)) ∧
                cond (decide (n1 < ((m11 : Nat) : Int)))
                  (withAddr (.pointer p0) fun a12 =>
                    ∃ v13 : Value, ((Go.World.cell? (World.drew w4) (Addr.add a12 0)) = (some v13)) ∧
                     ∃ a14 : Addr, ((Go.CW.sliceAt v13 n1 2) = (some a14)) ∧
                      ∃ n15 : Int, ((Go.World.cell? (World.drew w4) (Addr.add a14 0)) = (some (.int .i64 n15))) ∧
                       j8 n1 (n15 == p1) (World.drew w4))
                  (j8 n1 false (World.drew w4)))))
      (fun j16 =>
       withAddr (.pointer p0) fun a17 =>
        ∃ v18 : Value, ((Go.World.cell? w2 (Addr.add a17 0)) = (some v18)) ∧
         ∃ m19 : Nat, ((Go.CW.sliceLen v18) = (some m19)) ∧
          cond (decide (n1 < ((m19 : Nat) : Int)))
            (withAddr (.pointer p0) fun a20 =>
              ∃ v21 : Value, ((Go.World.cell? w2 (Addr.add a20 0)) = (some v21)) ∧
               ∃ a22 : Addr, ((Go.CW.sliceAt v21 n1 2) = (some a22)) ∧
                ∃ n23 : Int, ((Go.World.cell? w2 (Addr.add a22 0)) = (some (.int .i64 n23))) ∧
                 j16 (decide (n23 < p1)) w2)
            (j16 false w2)))
   (fun s24 => s24 (0 : Int) w)

theorem gemelref10_Timers_at_m_wp (p0 : Option Addr) (p1 : Int) (w : World) (R : KV) (h : gemelref10_Timers_at_m_F p0 p1 w R) : Go.CW.Spec Try.prog 27 #[(.pointer p0), (.int .i64 p1)] w R :=
  spec_of Try.func27 (by kernel_rfl) (show gemelref10_Timers_at_m_F p0 p1 w R = _ by kernel_rfl) h

/-- slices.IndexFunc[[]gemel/timer.alarm,gemel/timer.alarm] -/
def slices_IndexFunc___F (p0 : Value) (p1 : Value) (w : World) (R : KV) : Prop :=
 ∃ m0 : Nat, ((Go.CW.sliceLen p0) = (some m0)) ∧
  LoopP [.int .i64]
    (fun j1 => fun (n2 : Int) => fun (w3 : World) =>
     cond (decide (n2 < ((m0 : Nat) : Int)))
       (∃ a4 : Addr, ((Go.CW.sliceAt p0 n2 2) = (some a4)) ∧
         ∃ n5 : Int, ∃ n6 : Int, (ldCells w3 a4 2 #[(.int .i64 n5), (.int .i64 n6)]) ∧
           Go.CW.callU Try.prog p1 #[(.agg #[(.int .i64 n5), (.int .i64 n6)])] w3 fun v7 w8 =>
            ∃ b9 : Bool, ((v7 : Value) = (.bool b9)) ∧
             cond b9
               (R (.int .i64 n2) w8)
               (j1 (IntKind.wrap .i64 (n2 + (1 : Int))) w8))
       (R (.int .i64 (-1 : Int)) w3))
    (fun s10 => s10 (0 : Int) w)

theorem slices_IndexFunc___wp (p0 : Value) (p1 : Value) (w : World) (R : KV) (h : slices_IndexFunc___F p0 p1 w R) : Go.CW.Spec Try.prog 28 #[p0, p1] w R :=
  spec_of Try.func28 (by kernel_rfl) (show slices_IndexFunc___F p0 p1 w R = _ by kernel_rfl) h

/-- (*gemel/timer.Timers).find$1 -/
def timer_Timers_find_1_m_F (p0_0 : Int) (p0_1 : Int) (p1 : Value) (w : World) (R : KV) : Prop :=
 ∃ n0 : Int, ((Go.World.cell? (World.alloc w (.cells #[(.int .i64 p0_0), (.int .i64 p0_1)] 54)) (Addr.add ⟨(Array.size (World.heap w)), 0, none⟩ 0)) = (some (.int .i64 n0))) ∧
  withAddr p1 fun a1 =>
   ∃ n2 : Int, ((Go.World.cell? (World.alloc w (.cells #[(.int .i64 p0_0), (.int .i64 p0_1)] 54)) a1) = (some (.int .i64 n2))) ∧
    R (.bool (n0 == n2)) (World.alloc w (.cells #[(.int .i64 p0_0), (.int .i64 p0_1)] 54))

theorem timer_Timers_find_1_m_wp (p0_0 : Int) (p0_1 : Int) (p1 : Value) (w : World) (R : KV) (h : timer_Timers_find_1_m_F p0_0 p0_1 p1 w R) : Go.CW.Spec Try.prog 29 #[(.agg #[(.int .i64 p0_0), (.int .i64 p0_1)]), p1] w R :=
  spec_of Try.func29 (by kernel_rfl) (show timer_Timers_find_1_m_F p0_0 p0_1 p1 w R = _ by kernel_rfl) h

/-- (*gemel/timer.Timers).down -/
def timer_Timers_down_m_F (p0 : Option Addr) (p1 : Int) (w : World) (R : KV) : Prop :=
 LoopP [.int .i64]
   (fun j0 => fun (n1 : Int) => fun (w2 : World) =>
    JoinP [.int .i64]
      (fun (n3 : Int) => fun (w4 : World) =>
       JoinP [.bool]
         (fun (b5 : Bool) => fun (w6 : World) =>
          cond b5
            (R (.tuple #[]) w6)
            (withAddr (.pointer p0) fun a7 =>
              ∃ v8 : Value, ((Go.World.cell? (World.drew w6) (Addr.add a7 0)) = (some v8)) ∧
               withAddr (.pointer p0) fun a9 =>
                ∃ v10 : Value, ((Go.World.cell? (World.drew w6) (Addr.add a9 0)) = (some v10)) ∧
                 withAddr (.pointer p0) fun a11 =>
                  ∃ v12 : Value, ((Go.World.cell? (World.drew w6) (Addr.add a11 0)) = (some v12)) ∧
                   ∃ a13 : Addr, ((Go.CW.sliceAt v12 n3 2) = (some a13)) ∧
                    ∃ n14 : Int, ∃ n15 : Int, (ldCells (World.drew w6) a13 2 #[(.int .i64 n14), (.int .i64 n15)]) ∧
                      withAddr (.pointer p0) fun a16 =>
                       ∃ v17 : Value, ((Go.World.cell? (World.drew w6) (Addr.add a16 0)) = (some v17)) ∧
                        ∃ a18 : Addr, ((Go.CW.sliceAt v17 n1 2) = (some a18)) ∧
                         ∃ n19 : Int, ∃ n20 : Int, (ldCells (World.drew w6) a18 2 #[(.int .i64 n19), (.int .i64 n20)]) ∧
                           ∃ a21 : Addr, ((Go.CW.sliceAt v8 n1 2) = (some a21)) ∧
                            (StRow (World.drew w6) a21 #[(.int .i64 n14), (.int .i64 n15)]) ∧
                            ∃ a22 : Addr, ((Go.CW.sliceAt v10 n3 2) = (some a22)) ∧
                             (StRow (stRow (World.drew w6) a21 #[(.int .i64 n14), (.int .i64 n15)]) a22 #[(.int .i64 n19), (.int .i64 n20)]) ∧
                             j0 n3 (stRow (stRow (World.drew w6) a21 #[(.int .i64 n14), (.int .i64 n15)]) a22 #[(.int .i64 n19), (.int .i64 n20)])))
         (fun j23 =>
          withAddr (.pointer p0) fun a24 =>
           ∃ v25 : Value, ((Go.World.cell? w4 (Addr.add a24 0)) = (some v25)) ∧
            ∃ m26 : Nat, ((Go.CW.sliceLen v25) = (some m26)) ∧
             cond (decide (n3 ≥ ((m26 : Nat) : Int)))
               (j23 true w4)
               (Go.CW.Spec Try.prog 31 #[(.pointer p0), (.int .i64 n3), (.int .i64 n1)] w4 fun v27 w28 =>
                 ∃ b29 : Bool, ((v27 : Value) = (.bool b29)) ∧
                  j23 (!b29) w28)))
      (fun j30 =>
       JoinP [.bool]
         (fun (b31 : Bool) => fun (w32 : World) =>
          cond b31
            (j30 (IntKind.wrap .i64 ((IntKind.wrap .i64 ((IntKind.wrap .i64 ((2 : Int) * n1)) + (1 : Int))) + (1 : Int))) w32)
            (j30 (IntKind.wrap .i64 ((IntKind.wrap .i64 ((2 : Int) * n1)) + (1 : Int))) w32))
         (fun j33 =>
          withAddr (.pointer p0) fun a34 =>
           ∃ v35 : Value, ((Go.World.cell? w2 (Addr.add a34 0)) = (some v35)) ∧
            ∃ m36 : Nat, ((Go.CW.sliceLen v35) = (some m36)) ∧
             cond (decide ((IntKind.wrap .i64 ((IntKind.wrap .i64 ((IntKind.wrap .i64 ((2 : Int) * n1)) + (1 : Int))) + (1 : Int))) < ((m36 : Nat) : Int)))
               (Go.CW.Spec Try.prog 31 #[(.pointer p0), (.int .i64 (IntKind.wrap .i64 ((IntKind.wrap .i64 ((IntKind.wrap .i64 ((2 : Int) * n1)) + (1 : Int))) + (1 : Int)))), (.int .i64 (IntKind.wrap .i64 ((IntKind.wrap .i64 ((2 : Int) * n1)) + (1 : Int))))] w2 fun v37 w38 =>
                 ∃ b39 : Bool, ((v37 : Value) = (.bool b39)) ∧
                  j33 b39 w38)
               (j33 false w2))))
   (fun s40 => s40 p1 w)

theorem timer_Timers_down_m_wp (p0 : Option Addr) (p1 : Int) (w : World) (R : KV) (h : timer_Timers_down_m_F p0 p1 w R) : Go.CW.Spec Try.prog 30 #[(.pointer p0), (.int .i64 p1)] w R :=
  spec_of Try.func30 (by kernel_rfl) (show timer_Timers_down_m_F p0 p1 w R = _ by kernel_rfl) h

/-- (*gemel/timer.Timers).less -/
def timer_Timers_less_m_F (p0 : Option Addr) (p1 : Int) (p2 : Int) (w : World) (R : KV) : Prop :=
 JoinP [.val, .val]
   (fun (v0 : Value) => fun (v1 : Value) => fun (w2 : World) =>
    JoinP [.bool]
      (fun (b3 : Bool) => fun (w4 : World) =>
       R (.bool b3) w4)
      (fun j5 =>
       withAddr v0 fun a6 =>
        ∃ n7 : Int, ((Go.World.cell? w2 (Addr.add a6 1)) = (some (.int .i64 n7))) ∧
         withAddr v1 fun a8 =>
          ∃ n9 : Int, ((Go.World.cell? w2 (Addr.add a8 1)) = (some (.int .i64 n9))) ∧
           cond (decide (n7 < n9))
             (j5 true w2)
             (withAddr v0 fun a10 =>
               ∃ n11 : Int, ((Go.World.cell? w2 (Addr.add a10 1)) = (some (.int .i64 n11))) ∧
                withAddr v1 fun a12 =>
                 ∃ n13 : Int, ((Go.World.cell? w2 (Addr.add a12 1)) = (some (.int .i64 n13))) ∧
                  cond (n11 == n13)
                    (withAddr v0 fun a14 =>
                      ∃ n15 : Int, ((Go.World.cell? w2 (Addr.add a14 0)) = (some (.int .i64 n15))) ∧
                       withAddr v1 fun a16 =>
                        ∃ n17 : Int, ((Go.World.cell? w2 (Addr.add a16 0)) = (some (.int .i64 n17))) ∧
                         j5 (decide (n15 < n17)) w2)
                    (j5 false w2))))
   (fun j18 =>
    withAddr (.pointer p0) fun a19 =>
     ∃ v20 : Value, ((Go.World.cell? (World.drew w) (Addr.add a19 0)) = (some v20)) ∧
      ∃ a21 : Addr, ((Go.CW.sliceAt v20 p1 2) = (some a21)) ∧
       ∃ n22 : Int, ∃ n23 : Int, (ldCells (World.drew w) a21 2 #[(.int .i64 n22), (.int .i64 n23)]) ∧
         withAddr (.pointer p0) fun a24 =>
          ∃ v25 : Value, ((Go.World.cell? (World.drew w) (Addr.add a24 0)) = (some v25)) ∧
           ∃ a26 : Addr, ((Go.CW.sliceAt v25 p2 2) = (some a26)) ∧
            ∃ n27 : Int, ∃ n28 : Int, (ldCells (World.drew w) a26 2 #[(.int .i64 n27), (.int .i64 n28)]) ∧
              ((∃ v29 : Value, ((Go.World.cell? (World.alloc (World.drew w) (.cells #[(.int .i64 (0 : Int)), (.int .i64 (0 : Int))] 54)) (Addr.add a19 0)) = (some v29)) ∧
               (v29 : Value) = v20) ∧
              (∃ n30 : Int, ∃ n31 : Int, (ldCells (World.alloc (World.drew w) (.cells #[(.int .i64 (0 : Int)), (.int .i64 (0 : Int))] 54)) a21 2 #[(.int .i64 n30), (.int .i64 n31)]) ∧
                ((.agg #[(.int .i64 n30), (.int .i64 n31)]) : Value) = (.agg #[(.int .i64 n22), (.int .i64 n23)])) ∧
              (∃ v32 : Value, ((Go.World.cell? (World.alloc (World.drew w) (.cells #[(.int .i64 (0 : Int)), (.int .i64 (0 : Int))] 54)) (Addr.add a24 0)) = (some v32)) ∧
               (v32 : Value) = v25) ∧
              (∃ n33 : Int, ∃ n34 : Int, (ldCells (World.alloc (World.drew w) (.cells #[(.int .i64 (0 : Int)), (.int .i64 (0 : Int))] 54)) a26 2 #[(.int .i64 n33), (.int .i64 n34)]) ∧
                ((.agg #[(.int .i64 n33), (.int .i64 n34)]) : Value) = (.agg #[(.int .i64 n27), (.int .i64 n28)])) ∧
              (∃ v35 : Value, ((Go.World.cell? (World.alloc (World.alloc (World.drew w) (.cells #[(.int .i64 (0 : Int)), (.int .i64 (0 : Int))] 54)) (.cells #[(.int .i64 (0 : Int)), (.int .i64 (0 : Int))] 54)) (Addr.add a19 0)) = (some v35)) ∧
               (v35 : Value) = v20) ∧
              (∃ n36 : Int, ∃ n37 : Int, (ldCells (World.alloc (World.alloc (World.drew w) (.cells #[(.int .i64 (0 : Int)), (.int .i64 (0 : Int))] 54)) (.cells #[(.int .i64 (0 : Int)), (.int .i64 (0 : Int))] 54)) a21 2 #[(.int .i64 n36), (.int .i64 n37)]) ∧
                ((.agg #[(.int .i64 n36), (.int .i64 n37)]) : Value) = (.agg #[(.int .i64 n22), (.int .i64 n23)])) ∧
              (∃ v38 : Value, ((Go.World.cell? (World.alloc (World.alloc (World.drew w) (.cells #[(.int .i64 (0 : Int)), (.int .i64 (0 : Int))] 54)) (.cells #[(.int .i64 (0 : Int)), (.int .i64 (0 : Int))] 54)) (Addr.add a24 0)) = (some v38)) ∧
               (v38 : Value) = v25) ∧
              (∃ n39 : Int, ∃ n40 : Int, (ldCells (World.alloc (World.alloc (World.drew w) (.cells #[(.int .i64 (0 : Int)), (.int .i64 (0 : Int))] 54)) (.cells #[(.int .i64 (0 : Int)), (.int .i64 (0 : Int))] 54)) a26 2 #[(.int .i64 n39), (.int .i64 n40)]) ∧
                ((.agg #[(.int .i64 n39), (.int .i64 n40)]) : Value) = (.agg #[(.int .i64 n27), (.int .i64 n28)])) ∧
              (StRow (World.alloc (World.alloc (World.drew w) (.cells #[(.int .i64 (0 : Int)), (.int .i64 (0 : Int))] 54)) (.cells #[(.int .i64 (0 : Int)), (.int .i64 (0 : Int))] 54)) ⟨(Array.size (World.heap (World.drew w))), 0, none⟩ #[(.int .i64 n22), (.int .i64 n23)]) ∧
              (∃ v41 : Value, ((Go.World.cell? (stRow (World.alloc (World.alloc (World.drew w) (.cells #[(.int .i64 (0 : Int)), (.int .i64 (0 : Int))] 54)) (.cells #[(.int .i64 (0 : Int)), (.int .i64 (0 : Int))] 54)) ⟨(Array.size (World.heap (World.drew w))), 0, none⟩ #[(.int .i64 n22), (.int .i64 n23)]) (Addr.add a24 0)) = (some v41)) ∧
               (v41 : Value) = v25) ∧
              (∃ n42 : Int, ∃ n43 : Int, (ldCells (stRow (World.alloc (World.alloc (World.drew w) (.cells #[(.int .i64 (0 : Int)), (.int .i64 (0 : Int))] 54)) (.cells #[(.int .i64 (0 : Int)), (.int .i64 (0 : Int))] 54)) ⟨(Array.size (World.heap (World.drew w))), 0, none⟩ #[(.int .i64 n22), (.int .i64 n23)]) a26 2 #[(.int .i64 n42), (.int .i64 n43)]) ∧
                ((.agg #[(.int .i64 n42), (.int .i64 n43)]) : Value) = (.agg #[(.int .i64 n27), (.int .i64 n28)])) ∧
              (StRow (stRow (World.alloc (World.alloc (World.drew w) (.cells #[(.int .i64 (0 : Int)), (.int .i64 (0 : Int))] 54)) (.cells #[(.int .i64 (0 : Int)), (.int .i64 (0 : Int))] 54)) ⟨(Array.size (World.heap (World.drew w))), 0, none⟩ #[(.int .i64 n22), (.int .i64 n23)]) ⟨(Array.size (World.heap (World.alloc (World.drew w) (.cells #[(.int .i64 (0 : Int)), (.int .i64 (0 : Int))] 54)))), 0, none⟩ #[(.int .i64 n27), (.int .i64 n28)]) ∧
              j18 (.pointer (some ⟨(Array.size (World.heap (World.drew w))), 0, none⟩)) (.pointer (some ⟨(Array.size (World.heap (World.alloc (World.drew w) (.cells #[(.int .i64 (0 : Int)), (.int .i64 (0 : Int))] 54)))), 0, none⟩)) (stRow (stRow (World.alloc (World.alloc (World.drew w) (.cells #[(.int .i64 (0 : Int)), (.int .i64 (0 : Int))] 54)) (.cells #[(.int .i64 (0 : Int)), (.int .i64 (0 : Int))] 54)) ⟨(Array.size (World.heap (World.drew w))), 0, none⟩ #[(.int .i64 n22), (.int .i64 n23)]) ⟨(Array.size (World.heap (World.alloc (World.drew w) (.cells #[(.int .i64 (0 : Int)), (.int .i64 (0 : Int))] 54)))), 0, none⟩ #[(.int .i64 n27), (.int .i64 n28)])) ∧
              (∃ v44 : Value, ((Go.World.cell? (World.alloc (World.drew w) (.cells #[(.int .i64 (0 : Int)), (.int .i64 (0 : Int))] 54)) (Addr.add a19 0)) = (some v44)) ∧
               (v44 : Value) = v20) ∧
              (∃ n45 : Int, ∃ n46 : Int, (ldCells (World.alloc (World.drew w) (.cells #[(.int .i64 (0 : Int)), (.int .i64 (0 : Int))] 54)) a21 2 #[(.int .i64 n45), (.int .i64 n46)]) ∧
                ((.agg #[(.int .i64 n45), (.int .i64 n46)]) : Value) = (.agg #[(.int .i64 n22), (.int .i64 n23)])) ∧
              (∃ v47 : Value, ((Go.World.cell? (World.alloc (World.drew w) (.cells #[(.int .i64 (0 : Int)), (.int .i64 (0 : Int))] 54)) (Addr.add a24 0)) = (some v47)) ∧
               (v47 : Value) = v25) ∧
              (∃ n48 : Int, ∃ n49 : Int, (ldCells (World.alloc (World.drew w) (.cells #[(.int .i64 (0 : Int)), (.int .i64 (0 : Int))] 54)) a26 2 #[(.int .i64 n48), (.int .i64 n49)]) ∧
                ((.agg #[(.int .i64 n48), (.int .i64 n49)]) : Value) = (.agg #[(.int .i64 n27), (.int .i64 n28)])) ∧
              (∃ v50 : Value, ((Go.World.cell? (World.alloc (World.alloc (World.drew w) (.cells #[(.int .i64 (0 : Int)), (.int .i64 (0 : Int))] 54)) (.cells #[(.int .i64 (0 : Int)), (.int .i64 (0 : Int))] 54)) (Addr.add a19 0)) = (some v50)) ∧
               (v50 : Value) = v20) ∧
              (∃ n51 : Int, ∃ n52 : Int, (ldCells (World.alloc (World.alloc (World.drew w) (.cells #[(.int .i64 (0 : Int)), (.int .i64 (0 : Int))] 54)) (.cells #[(.int .i64 (0 : Int)), (.int .i64 (0 : Int))] 54)) a21 2 #[(.int .i64 n51), (.int .i64 n52)]) ∧
                ((.agg #[(.int .i64 n51), (.int .i64 n52)]) : Value) = (.agg #[(.int .i64 n22), (.int .i64 n23)])) ∧
              (∃ v53 : Value, ((Go.World.cell? (World.alloc (World.alloc (World.drew w) (.cells #[(.int .i64 (0 : Int)), (.int .i64 (0 : Int))] 54)) (.cells #[(.int .i64 (0 : Int)), (.int .i64 (0 : Int))] 54)) (Addr.add a24 0)) = (some v53)) ∧
               (v53 : Value) = v25) ∧
              (∃ n54 : Int, ∃ n55 : Int, (ldCells (World.alloc (World.alloc (World.drew w) (.cells #[(.int .i64 (0 : Int)), (.int .i64 (0 : Int))] 54)) (.cells #[(.int .i64 (0 : Int)), (.int .i64 (0 : Int))] 54)) a26 2 #[(.int .i64 n54), (.int .i64 n55)]) ∧
                ((.agg #[(.int .i64 n54), (.int .i64 n55)]) : Value) = (.agg #[(.int .i64 n27), (.int .i64 n28)])) ∧
              (StRow (World.alloc (World.alloc (World.drew w) (.cells #[(.int .i64 (0 : Int)), (.int .i64 (0 : Int))] 54)) (.cells #[(.int .i64 (0 : Int)), (.int .i64 (0 : Int))] 54)) ⟨(Array.size (World.heap (World.alloc (World.drew w) (.cells #[(.int .i64 (0 : Int)), (.int .i64 (0 : Int))] 54)))), 0, none⟩ #[(.int .i64 n22), (.int .i64 n23)]) ∧
              (∃ v56 : Value, ((Go.World.cell? (stRow (World.alloc (World.alloc (World.drew w) (.cells #[(.int .i64 (0 : Int)), (.int .i64 (0 : Int))] 54)) (.cells #[(.int .i64 (0 : Int)), (.int .i64 (0 : Int))] 54)) ⟨(Array.size (World.heap (World.alloc (World.drew w) (.cells #[(.int .i64 (0 : Int)), (.int .i64 (0 : Int))] 54)))), 0, none⟩ #[(.int .i64 n22), (.int .i64 n23)]) (Addr.add a24 0)) = (some v56)) ∧
               (v56 : Value) = v25) ∧
              (∃ n57 : Int, ∃ n58 : Int, (ldCells (stRow (World.alloc (World.alloc (World.drew w) (.cells #[(.int .i64 (0 : Int)), (.int .i64 (0 : Int))] 54)) (.cells #[(.int .i64 (0 : Int)), (.int .i64 (0 : Int))] 54)) ⟨(Array.size (World.heap (World.alloc (World.drew w) (.cells #[(.int .i64 (0 : Int)), (.int .i64 (0 : Int))] 54)))), 0, none⟩ #[(.int .i64 n22), (.int .i64 n23)]) a26 2 #[(.int .i64 n57), (.int .i64 n58)]) ∧
                ((.agg #[(.int .i64 n57), (.int .i64 n58)]) : Value) = (.agg #[(.int .i64 n27), (.int .i64 n28)])) ∧
              (StRow (stRow (World.alloc (World.alloc (World.drew w) (.cells #[(.int .i64 (0 : Int)), (.int .i64 (0 : Int))] 54)) (.cells #[(.int .i64 (0 : Int)), (.int .i64 (0 : Int))] 54)) ⟨(Array.size (World.heap (World.alloc (World.drew w) (.cells #[(.int .i64 (0 : Int)), (.int .i64 (0 : Int))] 54)))), 0, none⟩ #[(.int .i64 n22), (.int .i64 n23)]) ⟨(Array.size (World.heap (World.drew w))), 0, none⟩ #[(.int .i64 n27), (.int .i64 n28)]) ∧
              j18 (.pointer (some ⟨(Array.size (World.heap (World.alloc (World.drew w) (.cells #[(.int .i64 (0 : Int)), (.int .i64 (0 : Int))] 54)))), 0, none⟩)) (.pointer (some ⟨(Array.size (World.heap (World.drew w))), 0, none⟩)) (stRow (stRow (World.alloc (World.alloc (World.drew w) (.cells #[(.int .i64 (0 : Int)), (.int .i64 (0 : Int))] 54)) (.cells #[(.int .i64 (0 : Int)), (.int .i64 (0 : Int))] 54)) ⟨(Array.size (World.heap (World.alloc (World.drew w) (.cells #[(.int .i64 (0 : Int)), (.int .i64 (0 : Int))] 54)))), 0, none⟩ #[(.int .i64 n22), (.int .i64 n23)]) ⟨(Array.size (World.heap (World.drew w))), 0, none⟩ #[(.int .i64 n27), (.int .i64 n28)]))

theorem timer_Timers_less_m_wp (p0 : Option Addr) (p1 : Int) (p2 : Int) (w : World) (R : KV) (h : timer_Timers_less_m_F p0 p1 p2 w R) : Go.CW.Spec Try.prog 31 #[(.pointer p0), (.int .i64 p1), (.int .i64 p2)] w R :=
  spec_of Try.func31 (by kernel_rfl) (show timer_Timers_less_m_F p0 p1 p2 w R = _ by kernel_rfl) h

end Go.Proofs.Ytnbnjghfmleibaa
