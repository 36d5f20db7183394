/- The formulas of some functions, printed by a program (wip/cw/CwGen). -/
import Derived.Test.YtdkknncpmkajnaaFacts
set_option linter.unusedVariables false
set_option maxRecDepth 100000
namespace Go.Proofs.Ytdkknncpmkajnaa
open Go Go.CW

/-- gemel/gemellaw4.CdbSizes -/
def gemellaw4_CdbSizes_F (p0 : Int) (w : World) (R : KV) : Prop :=
 Go.CW.Spec Try.prog 5 #[] w fun v0 w1 =>
  ∃ b2 : Bool, ((v0 : Value) = (.bool b2)) ∧
   cond (!b2)
     (R (.bool false) w1)
     (JoinP [.bool]
        (fun (b3 : Bool) => fun (w4 : World) =>
         Go.CW.Spec Try.prog 6 #[(.agg #[(.int .i64 (3 : Int)), (.int .i64 (0 : Int)), (.int .i64 p0), (.slice none 0 0), (.int .u64 (0 : Int)), (.int .u64 (0 : Int)), (.int .i64 (0 : Int)), (.bool false)])] w4 fun v5 w6 =>
          ∃ n7 : Int, ((v5 : Value) = (.int .i64 n7)) ∧
           Go.CW.Spec Try.prog 6 #[(.agg #[(.int .i64 (6 : Int)), (.int .i64 (0 : Int)), (.int .i64 p0), (.slice none 0 0), (.int .u64 (0 : Int)), (.int .u64 (0 : Int)), (.int .i64 (0 : Int)), (.bool false)])] w6 fun v8 w9 =>
            ∃ n10 : Int, ((v8 : Value) = (.int .i64 n10)) ∧
             Go.CW.Spec Try.prog 7 #[(.agg #[(.int .i64 (2 : Int)), (.int .i64 (0 : Int)), (.int .i64 p0), (.slice none 0 0), (.int .u64 (0 : Int)), (.int .u64 (0 : Int)), (.int .i64 (0 : Int)), (.bool false)])] w9 fun v11 w12 =>
              ∃ n13 : Int, ((v11 : Value) = (.int .i64 n13)) ∧
               JoinP [.bool]
                 (fun (b14 : Bool) => fun (w15 : World) =>
                  cond b14
                    (R (.bool false) w15)
                    (LoopP [.int .i64]
                       (fun j16 => fun (n17 : Int) => fun (w18 : World) =>
                        cond (decide (n17 ≤ (20 : Int)))
                          ((StRow (World.alloc w18 (.cells #[(.int .i64 (0 : Int)), (.int .i64 (0 : Int)), (.int .i64 (0 : Int)), (.slice none 0 0), (.int .u64 (0 : Int)), (.int .u64 (0 : Int)), (.int .i64 (0 : Int)), (.bool false)] 27)) ⟨(Array.size (World.heap w18)), 0, none⟩ #[(.int .i64 n17), (.int .i64 (0 : Int)), (.int .i64 p0), (.slice none 0 0), (.int .u64 (0 : Int)), (.int .u64 (0 : Int)), (.int .i64 (0 : Int)), (.bool false)]) ∧
                           JoinP [.bool]
                             (fun (b19 : Bool) => fun (w20 : World) =>
                              cond b19
                                (R (.bool false) w20)
                                (j16 (IntKind.wrap .i64 (n17 + (1 : Int))) w20))
                             (fun j21 =>
                              ∃ n22 : Int, ∃ n23 : Int, ∃ n24 : Int, ∃ v25 : Value, ∃ n26 : Int, ∃ n27 : Int, ∃ n28 : Int, ∃ b29 : Bool, (ldCells (stRow (World.alloc w18 (.cells #[(.int .i64 (0 : Int)), (.int .i64 (0 : Int)), (.int .i64 (0 : Int)), (.slice none 0 0), (.int .u64 (0 : Int)), (.int .u64 (0 : Int)), (.int .i64 (0 : Int)), (.bool false)] 27)) ⟨(Array.size (World.heap w18)), 0, none⟩ #[(.int .i64 n17), (.int .i64 (0 : Int)), (.int .i64 p0), (.slice none 0 0), (.int .u64 (0 : Int)), (.int .u64 (0 : Int)), (.int .i64 (0 : Int)), (.bool false)]) ⟨(Array.size (World.heap w18)), 0, none⟩ 8 #[(.int .i64 n22), (.int .i64 n23), (.int .i64 n24), v25, (.int .u64 n26), (.int .u64 n27), (.int .i64 n28), (.bool b29)]) ∧
                                      Go.CW.Spec Try.prog 7 #[(.agg #[(.int .i64 n22), (.int .i64 n23), (.int .i64 n24), v25, (.int .u64 n26), (.int .u64 n27), (.int .i64 n28), (.bool b29)])] (stRow (World.alloc w18 (.cells #[(.int .i64 (0 : Int)), (.int .i64 (0 : Int)), (.int .i64 (0 : Int)), (.slice none 0 0), (.int .u64 (0 : Int)), (.int .u64 (0 : Int)), (.int .i64 (0 : Int)), (.bool false)] 27)) ⟨(Array.size (World.heap w18)), 0, none⟩ #[(.int .i64 n17), (.int .i64 (0 : Int)), (.int .i64 p0), (.slice none 0 0), (.int .u64 (0 : Int)), (.int .u64 (0 : Int)), (.int .i64 (0 : Int)), (.bool false)]) fun v30 w31 =>
                                       ∃ n32 : Int, ((v30 : Value) = (.int .i64 n32)) ∧
                                        cond (decide (n32 > (0 : Int)))
                                          (∃ n33 : Int, ∃ n34 : Int, ∃ n35 : Int, ∃ v36 : Value, ∃ n37 : Int, ∃ n38 : Int, ∃ n39 : Int, ∃ b40 : Bool, (ldCells w31 ⟨(Array.size (World.heap w18)), 0, none⟩ 8 #[(.int .i64 n33), (.int .i64 n34), (.int .i64 n35), v36, (.int .u64 n37), (.int .u64 n38), (.int .i64 n39), (.bool b40)]) ∧
                                                   Go.CW.Spec Try.prog 6 #[(.agg #[(.int .i64 n33), (.int .i64 n34), (.int .i64 n35), v36, (.int .u64 n37), (.int .u64 n38), (.int .i64 n39), (.bool b40)])] w31 fun v41 w42 =>
                                                    ∃ n43 : Int, ((v41 : Value) = (.int .i64 n43)) ∧
                                                     cond (decide (n43 > (0 : Int)))
                                                       (j21 true w42)
                                                       (∃ n44 : Int, ∃ n45 : Int, ∃ n46 : Int, ∃ v47 : Value, ∃ n48 : Int, ∃ n49 : Int, ∃ n50 : Int, ∃ b51 : Bool, (ldCells w42 ⟨(Array.size (World.heap w18)), 0, none⟩ 8 #[(.int .i64 n44), (.int .i64 n45), (.int .i64 n46), v47, (.int .u64 n48), (.int .u64 n49), (.int .i64 n50), (.bool b51)]) ∧
                                                                Go.CW.Spec Try.prog 7 #[(.agg #[(.int .i64 n44), (.int .i64 n45), (.int .i64 n46), v47, (.int .u64 n48), (.int .u64 n49), (.int .i64 n50), (.bool b51)])] w42 fun v52 w53 =>
                                                                 ∃ n54 : Int, ((v52 : Value) = (.int .i64 n54)) ∧
                                                                  cond (decide (n54 < (0 : Int)))
                                                                    (j21 true w53)
                                                                    (∃ n55 : Int, ∃ n56 : Int, ∃ n57 : Int, ∃ v58 : Value, ∃ n59 : Int, ∃ n60 : Int, ∃ n61 : Int, ∃ b62 : Bool, (ldCells w53 ⟨(Array.size (World.heap w18)), 0, none⟩ 8 #[(.int .i64 n55), (.int .i64 n56), (.int .i64 n57), v58, (.int .u64 n59), (.int .u64 n60), (.int .i64 n61), (.bool b62)]) ∧
                                                                             Go.CW.Spec Try.prog 6 #[(.agg #[(.int .i64 n55), (.int .i64 n56), (.int .i64 n57), v58, (.int .u64 n59), (.int .u64 n60), (.int .i64 n61), (.bool b62)])] w53 fun v63 w64 =>
                                                                              ∃ n65 : Int, ((v63 : Value) = (.int .i64 n65)) ∧
                                                                               cond (decide (n65 < (0 : Int)))
                                                                                 (j21 true w64)
                                                                                 (∃ n66 : Int, ∃ n67 : Int, ∃ n68 : Int, ∃ v69 : Value, ∃ n70 : Int, ∃ n71 : Int, ∃ n72 : Int, ∃ b73 : Bool, (ldCells w64 ⟨(Array.size (World.heap w18)), 0, none⟩ 8 #[(.int .i64 n66), (.int .i64 n67), (.int .i64 n68), v69, (.int .u64 n70), (.int .u64 n71), (.int .i64 n72), (.bool b73)]) ∧
                                                                                          Go.CW.Spec Try.prog 7 #[(.agg #[(.int .i64 n66), (.int .i64 n67), (.int .i64 n68), v69, (.int .u64 n70), (.int .u64 n71), (.int .i64 n72), (.bool b73)])] w64 fun v74 w75 =>
                                                                                           ∃ n76 : Int, ((v74 : Value) = (.int .i64 n76)) ∧
                                                                                            cond (decide (n76 > (256 : Int)))
                                                                                              (j21 true w75)
                                                                                              (∃ n77 : Int, ∃ n78 : Int, ∃ n79 : Int, ∃ v80 : Value, ∃ n81 : Int, ∃ n82 : Int, ∃ n83 : Int, ∃ b84 : Bool, (ldCells w75 ⟨(Array.size (World.heap w18)), 0, none⟩ 8 #[(.int .i64 n77), (.int .i64 n78), (.int .i64 n79), v80, (.int .u64 n81), (.int .u64 n82), (.int .i64 n83), (.bool b84)]) ∧
                                                                                                       Go.CW.Spec Try.prog 6 #[(.agg #[(.int .i64 n77), (.int .i64 n78), (.int .i64 n79), v80, (.int .u64 n81), (.int .u64 n82), (.int .i64 n83), (.bool b84)])] w75 fun v85 w86 =>
                                                                                                        ∃ n87 : Int, ((v85 : Value) = (.int .i64 n87)) ∧
                                                                                                         j21 (decide (n87 > (512 : Int))) w86)))))
                                          (∃ n88 : Int, ∃ n89 : Int, ∃ n90 : Int, ∃ v91 : Value, ∃ n92 : Int, ∃ n93 : Int, ∃ n94 : Int, ∃ b95 : Bool, (ldCells w31 ⟨(Array.size (World.heap w18)), 0, none⟩ 8 #[(.int .i64 n88), (.int .i64 n89), (.int .i64 n90), v91, (.int .u64 n92), (.int .u64 n93), (.int .i64 n94), (.bool b95)]) ∧
                                                   Go.CW.Spec Try.prog 7 #[(.agg #[(.int .i64 n88), (.int .i64 n89), (.int .i64 n90), v91, (.int .u64 n92), (.int .u64 n93), (.int .i64 n94), (.bool b95)])] w31 fun v96 w97 =>
                                                    ∃ n98 : Int, ((v96 : Value) = (.int .i64 n98)) ∧
                                                     cond (decide (n98 < (0 : Int)))
                                                       (j21 true w97)
                                                       (∃ n99 : Int, ∃ n100 : Int, ∃ n101 : Int, ∃ v102 : Value, ∃ n103 : Int, ∃ n104 : Int, ∃ n105 : Int, ∃ b106 : Bool, (ldCells w97 ⟨(Array.size (World.heap w18)), 0, none⟩ 8 #[(.int .i64 n99), (.int .i64 n100), (.int .i64 n101), v102, (.int .u64 n103), (.int .u64 n104), (.int .i64 n105), (.bool b106)]) ∧
                                                                Go.CW.Spec Try.prog 6 #[(.agg #[(.int .i64 n99), (.int .i64 n100), (.int .i64 n101), v102, (.int .u64 n103), (.int .u64 n104), (.int .i64 n105), (.bool b106)])] w97 fun v107 w108 =>
                                                                 ∃ n109 : Int, ((v107 : Value) = (.int .i64 n109)) ∧
                                                                  cond (decide (n109 < (0 : Int)))
                                                                    (j21 true w108)
                                                                    (∃ n110 : Int, ∃ n111 : Int, ∃ n112 : Int, ∃ v113 : Value, ∃ n114 : Int, ∃ n115 : Int, ∃ n116 : Int, ∃ b117 : Bool, (ldCells w108 ⟨(Array.size (World.heap w18)), 0, none⟩ 8 #[(.int .i64 n110), (.int .i64 n111), (.int .i64 n112), v113, (.int .u64 n114), (.int .u64 n115), (.int .i64 n116), (.bool b117)]) ∧
                                                                             Go.CW.Spec Try.prog 7 #[(.agg #[(.int .i64 n110), (.int .i64 n111), (.int .i64 n112), v113, (.int .u64 n114), (.int .u64 n115), (.int .i64 n116), (.bool b117)])] w108 fun v118 w119 =>
                                                                              ∃ n120 : Int, ((v118 : Value) = (.int .i64 n120)) ∧
                                                                               cond (decide (n120 > (256 : Int)))
                                                                                 (j21 true w119)
                                                                                 (∃ n121 : Int, ∃ n122 : Int, ∃ n123 : Int, ∃ v124 : Value, ∃ n125 : Int, ∃ n126 : Int, ∃ n127 : Int, ∃ b128 : Bool, (ldCells w119 ⟨(Array.size (World.heap w18)), 0, none⟩ 8 #[(.int .i64 n121), (.int .i64 n122), (.int .i64 n123), v124, (.int .u64 n125), (.int .u64 n126), (.int .i64 n127), (.bool b128)]) ∧
                                                                                          Go.CW.Spec Try.prog 6 #[(.agg #[(.int .i64 n121), (.int .i64 n122), (.int .i64 n123), v124, (.int .u64 n125), (.int .u64 n126), (.int .i64 n127), (.bool b128)])] w119 fun v129 w130 =>
                                                                                           ∃ n131 : Int, ((v129 : Value) = (.int .i64 n131)) ∧
                                                                                            j21 (decide (n131 > (512 : Int))) w130))))))
                          (R (.bool true) w18))
                       (fun s132 => s132 (0 : Int) w15)))
                 (fun j133 =>
                  cond b3
                    (cond (n7 != (IntKind.wrap .i64 ((8 : Int) * p0)))
                       (j133 true w12)
                       (cond (n10 != (IntKind.wrap .i64 ((16 : Int) * p0)))
                          (j133 true w12)
                          (cond (n13 != (IntKind.wrap .i64 ((8 : Int) * p0)))
                             (j133 true w12)
                             (cond (!b3)
                                (j133 ((IntKind.wrap .i64 ((IntKind.wrap .i64 (n7 + n10)) + n13)) != (0 : Int)) w12)
                                (j133 false w12)))))
                    (cond (!b3)
                       (j133 ((IntKind.wrap .i64 ((IntKind.wrap .i64 (n7 + n10)) + n13)) != (0 : Int)) w12)
                       (j133 false w12))))
        (fun j134 =>
         cond (decide (p0 ≥ (0 : Int)))
           (j134 (decide (p0 ≤ (32 : Int))) w1)
           (j134 false w1)))

theorem gemellaw4_CdbSizes_wp (p0 : Int) (w : World) (R : KV) (h : gemellaw4_CdbSizes_F p0 w R) : Go.CW.Spec Try.prog 3 #[(.int .i64 p0)] w R :=
  spec_of Try.func3 (by kernel_rfl) (show gemellaw4_CdbSizes_F p0 w R = _ by kernel_rfl) h



/-- gemel/gemellaw4.CdbKinds -/
def gemellaw4_CdbKinds_F (p0 : Int) (p1 : Int) (p2 : Int) (p3 : Bool) (w : World) (R : KV) : Prop :=
 Go.CW.Spec Try.prog 5 #[] w fun v0 w1 =>
  ∃ b2 : Bool, ((v0 : Value) = (.bool b2)) ∧
   cond (!b2)
     (R (.bool false) w1)
     (LoopP [.val, .int .i64]
        (fun j3 => fun (v4 : Value) => fun (n5 : Int) => fun (w6 : World) =>
         cond (decide (n5 ≤ (17 : Int)))
           (Go.CW.Spec Try.prog 8 #[(.agg #[(.int .i64 n5), (.int .i64 (IntKind.wrap .i64 p0)), (.int .i64 (IntKind.wrap .i64 p1)), (.slice none 0 0), (.int .u64 (0 : Int)), (.int .u64 (0 : Int)), (.int .i64 (IntKind.wrap .i64 (bitsI .and .u8 p2 (15 : Int)))), (.bool p3)])] w6 fun v7 w8 =>
             ∃ v9 : Value, ∃ n10 : Int, ((v7 : Value) = (.tuple #[v9, (.int .i64 n10)])) ∧
               JoinP [.bool]
                 (fun (b11 : Bool) => fun (w12 : World) =>
                  cond b11
                    (R (.bool false) w12)
                    (LoopP [.int .i64]
                       (fun j13 => fun (n14 : Int) => fun (w15 : World) =>
                        ∃ m16 : Nat, ((Go.CW.sliceLen v4) = (some m16)) ∧
                         cond (decide (n14 < ((m16 : Nat) : Int)))
                           (∃ a17 : Addr, ((Go.CW.sliceAt v4 n14 1) = (some a17)) ∧
                             ∃ s18 : ByteArray, ((Go.World.cell? (World.drew w15) a17) = (some (.string s18))) ∧
                              ∃ s19 : ByteArray, ((Sem.run @Go.Proofs.Try.prog (Go.convert 24 9 v9) (World.drew w15)) = (.ok (.string s19) (World.drew w15))) ∧
                               cond (ByteArray.toList s18 == ByteArray.toList s19)
                                 (R (.bool false) (World.drew w15))
                                 (j13 (IntKind.wrap .i64 (n14 + (1 : Int))) (World.drew w15)))
                           (∃ s20 : ByteArray, ((Sem.run @Go.Proofs.Try.prog (Go.convert 24 9 v9) w15) = (.ok (.string s20) w15)) ∧
                             ∃ v21 : Value, ∃ w22 : World, ((Sem.run @Go.Proofs.Try.prog (Go.Builtin.append_ #[30, 30] 30 #[v4, (.slice (some ⟨(Array.size (World.heap w15)), 0, none⟩) 1 1)]) (World.alloc w15 (.cells #[(.string s20)] 9))) = (.ok v21 w22)) ∧
                               Go.CW.Spec Try.prog 9 #[v9] w22 fun v23 w24 =>
                                ∃ n25 : Int, ∃ n26 : Int, ∃ n27 : Int, ∃ v28 : Value, ∃ n29 : Int, ∃ n30 : Int, ∃ n31 : Int, ∃ b32 : Bool, ∃ n33 : Int, ∃ n34 : Int, ∃ n35 : Int, ∃ v36 : Value, ∃ n37 : Int, ∃ b38 : Bool, ((v23 : Value) = (.tuple #[(.agg #[(.int .i64 n25), (.int .i64 n26), (.int .i64 n27), v28, (.int .u64 n29), (.int .u64 n30), (.int .i64 n31), (.bool b32)]), (.agg #[(.int .i64 n33), (.int .i64 n34), (.int .i64 n35), v36, (.int .i64 n37)]), (.bool b38)])) ∧
                                              (StRow (World.alloc (World.alloc w24 (.cells #[(.int .i64 (0 : Int)), (.int .i64 (0 : Int)), (.int .i64 (0 : Int)), (.slice none 0 0), (.int .u64 (0 : Int)), (.int .u64 (0 : Int)), (.int .i64 (0 : Int)), (.bool false)] 27)) (.cells #[(.int .i64 (0 : Int)), (.int .i64 (0 : Int)), (.int .i64 (0 : Int)), (.slice none 0 0), (.int .i64 (0 : Int))] 35)) ⟨(Array.size (World.heap w24)), 0, none⟩ #[(.int .i64 n25), (.int .i64 n26), (.int .i64 n27), v28, (.int .u64 n29), (.int .u64 n30), (.int .i64 n31), (.bool b32)]) ∧
                                              (StRow (stRow (World.alloc (World.alloc w24 (.cells #[(.int .i64 (0 : Int)), (.int .i64 (0 : Int)), (.int .i64 (0 : Int)), (.slice none 0 0), (.int .u64 (0 : Int)), (.int .u64 (0 : Int)), (.int .i64 (0 : Int)), (.bool false)] 27)) (.cells #[(.int .i64 (0 : Int)), (.int .i64 (0 : Int)), (.int .i64 (0 : Int)), (.slice none 0 0), (.int .i64 (0 : Int))] 35)) ⟨(Array.size (World.heap w24)), 0, none⟩ #[(.int .i64 n25), (.int .i64 n26), (.int .i64 n27), v28, (.int .u64 n29), (.int .u64 n30), (.int .i64 n31), (.bool b32)]) ⟨(Array.size (World.heap (World.alloc w24 (.cells #[(.int .i64 (0 : Int)), (.int .i64 (0 : Int)), (.int .i64 (0 : Int)), (.slice none 0 0), (.int .u64 (0 : Int)), (.int .u64 (0 : Int)), (.int .i64 (0 : Int)), (.bool false)] 27)))), 0, none⟩ #[(.int .i64 n33), (.int .i64 n34), (.int .i64 n35), v36, (.int .i64 n37)]) ∧
                                              JoinP [.bool]
                                                (fun (b39 : Bool) => fun (w40 : World) =>
                                                 cond b39
                                                   (R (.bool false) w40)
                                                   (j3 v21 (IntKind.wrap .i64 (n5 + (1 : Int))) w40))
                                                (fun j41 =>
                                                 cond (!b38)
                                                   (j41 true (stRow (stRow (World.alloc (World.alloc w24 (.cells #[(.int .i64 (0 : Int)), (.int .i64 (0 : Int)), (.int .i64 (0 : Int)), (.slice none 0 0), (.int .u64 (0 : Int)), (.int .u64 (0 : Int)), (.int .i64 (0 : Int)), (.bool false)] 27)) (.cells #[(.int .i64 (0 : Int)), (.int .i64 (0 : Int)), (.int .i64 (0 : Int)), (.slice none 0 0), (.int .i64 (0 : Int))] 35)) ⟨(Array.size (World.heap w24)), 0, none⟩ #[(.int .i64 n25), (.int .i64 n26), (.int .i64 n27), v28, (.int .u64 n29), (.int .u64 n30), (.int .i64 n31), (.bool b32)]) ⟨(Array.size (World.heap (World.alloc w24 (.cells #[(.int .i64 (0 : Int)), (.int .i64 (0 : Int)), (.int .i64 (0 : Int)), (.slice none 0 0), (.int .u64 (0 : Int)), (.int .u64 (0 : Int)), (.int .i64 (0 : Int)), (.bool false)] 27)))), 0, none⟩ #[(.int .i64 n33), (.int .i64 n34), (.int .i64 n35), v36, (.int .i64 n37)]))
                                                   (∃ n42 : Int, ((Go.World.cell? (stRow (stRow (World.alloc (World.alloc w24 (.cells #[(.int .i64 (0 : Int)), (.int .i64 (0 : Int)), (.int .i64 (0 : Int)), (.slice none 0 0), (.int .u64 (0 : Int)), (.int .u64 (0 : Int)), (.int .i64 (0 : Int)), (.bool false)] 27)) (.cells #[(.int .i64 (0 : Int)), (.int .i64 (0 : Int)), (.int .i64 (0 : Int)), (.slice none 0 0), (.int .i64 (0 : Int))] 35)) ⟨(Array.size (World.heap w24)), 0, none⟩ #[(.int .i64 n25), (.int .i64 n26), (.int .i64 n27), v28, (.int .u64 n29), (.int .u64 n30), (.int .i64 n31), (.bool b32)]) ⟨(Array.size (World.heap (World.alloc w24 (.cells #[(.int .i64 (0 : Int)), (.int .i64 (0 : Int)), (.int .i64 (0 : Int)), (.slice none 0 0), (.int .u64 (0 : Int)), (.int .u64 (0 : Int)), (.int .i64 (0 : Int)), (.bool false)] 27)))), 0, none⟩ #[(.int .i64 n33), (.int .i64 n34), (.int .i64 n35), v36, (.int .i64 n37)]) (Addr.add ⟨(Array.size (World.heap w24)), 0, none⟩ 0)) = (some (.int .i64 n42))) ∧
                                                     j41 (n42 != n5) (stRow (stRow (World.alloc (World.alloc w24 (.cells #[(.int .i64 (0 : Int)), (.int .i64 (0 : Int)), (.int .i64 (0 : Int)), (.slice none 0 0), (.int .u64 (0 : Int)), (.int .u64 (0 : Int)), (.int .i64 (0 : Int)), (.bool false)] 27)) (.cells #[(.int .i64 (0 : Int)), (.int .i64 (0 : Int)), (.int .i64 (0 : Int)), (.slice none 0 0), (.int .i64 (0 : Int))] 35)) ⟨(Array.size (World.heap w24)), 0, none⟩ #[(.int .i64 n25), (.int .i64 n26), (.int .i64 n27), v28, (.int .u64 n29), (.int .u64 n30), (.int .i64 n31), (.bool b32)]) ⟨(Array.size (World.heap (World.alloc w24 (.cells #[(.int .i64 (0 : Int)), (.int .i64 (0 : Int)), (.int .i64 (0 : Int)), (.slice none 0 0), (.int .u64 (0 : Int)), (.int .u64 (0 : Int)), (.int .i64 (0 : Int)), (.bool false)] 27)))), 0, none⟩ #[(.int .i64 n33), (.int .i64 n34), (.int .i64 n35), v36, (.int .i64 n37)])))))
                       (fun s43 => s43 (0 : Int) w12)))
                 (fun j44 =>
                  cond (n10 != (0 : Int))
                    (j44 true w8)
                    (∃ m45 : Nat, ((Go.CW.sliceLen v9) = (some m45)) ∧
                      j44 (((m45 : Nat) : Int) != (16 : Int)) w8)))
           (Go.CW.Spec Try.prog 8 #[(.agg #[(.int .i64 (18 : Int)), (.int .i64 (0 : Int)), (.int .i64 (0 : Int)), (.slice none 0 0), (.int .u64 (0 : Int)), (.int .u64 (0 : Int)), (.int .i64 (0 : Int)), (.bool false)])] w6 fun v46 w47 =>
             ∃ v48 : Value, ∃ n49 : Int, ((v46 : Value) = (.tuple #[v48, (.int .i64 n49)])) ∧
               Go.CW.Spec Try.prog 8 #[(.agg #[(.int .i64 (0 : Int)), (.int .i64 (0 : Int)), (.int .i64 (0 : Int)), (.slice none 0 0), (.int .u64 (0 : Int)), (.int .u64 (0 : Int)), (.int .i64 (0 : Int)), (.bool false)])] w47 fun v50 w51 =>
                ∃ v52 : Value, ∃ n53 : Int, ((v50 : Value) = (.tuple #[v52, (.int .i64 n53)])) ∧
                  JoinP [.bool]
                    (fun (b54 : Bool) => fun (w55 : World) =>
                     R (.bool b54) w55)
                    (fun j56 =>
                     cond (n49 == (1 : Int))
                       (j56 (n53 == (1 : Int)) w51)
                       (j56 false w51))))
        (fun s57 => s57 (.slice none 0 0) (1 : Int) w1))

theorem gemellaw4_CdbKinds_wp (p0 : Int) (p1 : Int) (p2 : Int) (p3 : Bool) (w : World) (R : KV) (h : gemellaw4_CdbKinds_F p0 p1 p2 p3 w R) : Go.CW.Spec Try.prog 4 #[(.int .u32 p0), (.int .u8 p1), (.int .u8 p2), (.bool p3)] w R :=
  spec_of Try.func4 (by kernel_rfl) (show gemellaw4_CdbKinds_F p0 p1 p2 p3 w R = _ by kernel_rfl) h



/-- gemel/gemellaw4.known -/
def gemellaw4_known_F  (w : World) (R : KV) : Prop :=
 Go.CW.Spec Try.prog 8 #[(.agg #[(.int .i64 (2 : Int)), (.int .i64 (258 : Int)), (.int .i64 (3 : Int)), (.slice none 0 0), (.int .u64 (0 : Int)), (.int .u64 (0 : Int)), (.int .i64 (0 : Int)), (.bool false)])] w fun v0 w1 =>
  ∃ v2 : Value, ∃ n3 : Int, ((v0 : Value) = (.tuple #[v2, (.int .i64 n3)])) ∧
    Go.CW.Spec Try.prog 9 #[v2] w1 fun v4 w5 =>
     ∃ n6 : Int, ∃ n7 : Int, ∃ n8 : Int, ∃ v9 : Value, ∃ n10 : Int, ∃ n11 : Int, ∃ n12 : Int, ∃ b13 : Bool, ∃ n14 : Int, ∃ n15 : Int, ∃ n16 : Int, ∃ v17 : Value, ∃ n18 : Int, ∃ b19 : Bool, ((v4 : Value) = (.tuple #[(.agg #[(.int .i64 n6), (.int .i64 n7), (.int .i64 n8), v9, (.int .u64 n10), (.int .u64 n11), (.int .i64 n12), (.bool b13)]), (.agg #[(.int .i64 n14), (.int .i64 n15), (.int .i64 n16), v17, (.int .i64 n18)]), (.bool b19)])) ∧
                   (StRow (World.alloc (World.alloc w5 (.cells #[(.int .i64 (0 : Int)), (.int .i64 (0 : Int)), (.int .i64 (0 : Int)), (.slice none 0 0), (.int .u64 (0 : Int)), (.int .u64 (0 : Int)), (.int .i64 (0 : Int)), (.bool false)] 27)) (.cells #[(.int .i64 (0 : Int)), (.int .i64 (0 : Int)), (.int .i64 (0 : Int)), (.slice none 0 0), (.int .i64 (0 : Int))] 35)) ⟨(Array.size (World.heap w5)), 0, none⟩ #[(.int .i64 n6), (.int .i64 n7), (.int .i64 n8), v9, (.int .u64 n10), (.int .u64 n11), (.int .i64 n12), (.bool b13)]) ∧
                   (StRow (stRow (World.alloc (World.alloc w5 (.cells #[(.int .i64 (0 : Int)), (.int .i64 (0 : Int)), (.int .i64 (0 : Int)), (.slice none 0 0), (.int .u64 (0 : Int)), (.int .u64 (0 : Int)), (.int .i64 (0 : Int)), (.bool false)] 27)) (.cells #[(.int .i64 (0 : Int)), (.int .i64 (0 : Int)), (.int .i64 (0 : Int)), (.slice none 0 0), (.int .i64 (0 : Int))] 35)) ⟨(Array.size (World.heap w5)), 0, none⟩ #[(.int .i64 n6), (.int .i64 n7), (.int .i64 n8), v9, (.int .u64 n10), (.int .u64 n11), (.int .i64 n12), (.bool b13)]) ⟨(Array.size (World.heap (World.alloc w5 (.cells #[(.int .i64 (0 : Int)), (.int .i64 (0 : Int)), (.int .i64 (0 : Int)), (.slice none 0 0), (.int .u64 (0 : Int)), (.int .u64 (0 : Int)), (.int .i64 (0 : Int)), (.bool false)] 27)))), 0, none⟩ #[(.int .i64 n14), (.int .i64 n15), (.int .i64 n16), v17, (.int .i64 n18)]) ∧
                   Go.CW.Spec Try.prog 9 #[(.slice (some ⟨(Array.size (World.heap (stRow (stRow (World.alloc (World.alloc w5 (.cells #[(.int .i64 (0 : Int)), (.int .i64 (0 : Int)), (.int .i64 (0 : Int)), (.slice none 0 0), (.int .u64 (0 : Int)), (.int .u64 (0 : Int)), (.int .i64 (0 : Int)), (.bool false)] 27)) (.cells #[(.int .i64 (0 : Int)), (.int .i64 (0 : Int)), (.int .i64 (0 : Int)), (.slice none 0 0), (.int .i64 (0 : Int))] 35)) ⟨(Array.size (World.heap w5)), 0, none⟩ #[(.int .i64 n6), (.int .i64 n7), (.int .i64 n8), v9, (.int .u64 n10), (.int .u64 n11), (.int .i64 n12), (.bool b13)]) ⟨(Array.size (World.heap (World.alloc w5 (.cells #[(.int .i64 (0 : Int)), (.int .i64 (0 : Int)), (.int .i64 (0 : Int)), (.slice none 0 0), (.int .u64 (0 : Int)), (.int .u64 (0 : Int)), (.int .i64 (0 : Int)), (.bool false)] 27)))), 0, none⟩ #[(.int .i64 n14), (.int .i64 n15), (.int .i64 n16), v17, (.int .i64 n18)]))), 0, none⟩) 1 1)] (World.alloc (stRow (stRow (World.alloc (World.alloc w5 (.cells #[(.int .i64 (0 : Int)), (.int .i64 (0 : Int)), (.int .i64 (0 : Int)), (.slice none 0 0), (.int .u64 (0 : Int)), (.int .u64 (0 : Int)), (.int .i64 (0 : Int)), (.bool false)] 27)) (.cells #[(.int .i64 (0 : Int)), (.int .i64 (0 : Int)), (.int .i64 (0 : Int)), (.slice none 0 0), (.int .i64 (0 : Int))] 35)) ⟨(Array.size (World.heap w5)), 0, none⟩ #[(.int .i64 n6), (.int .i64 n7), (.int .i64 n8), v9, (.int .u64 n10), (.int .u64 n11), (.int .i64 n12), (.bool b13)]) ⟨(Array.size (World.heap (World.alloc w5 (.cells #[(.int .i64 (0 : Int)), (.int .i64 (0 : Int)), (.int .i64 (0 : Int)), (.slice none 0 0), (.int .u64 (0 : Int)), (.int .u64 (0 : Int)), (.int .i64 (0 : Int)), (.bool false)] 27)))), 0, none⟩ #[(.int .i64 n14), (.int .i64 n15), (.int .i64 n16), v17, (.int .i64 n18)]) (.cells #[(.int .u8 (1 : Int))] 5)) fun v20 w21 =>
                    ∃ n22 : Int, ∃ n23 : Int, ∃ n24 : Int, ∃ v25 : Value, ∃ n26 : Int, ∃ n27 : Int, ∃ n28 : Int, ∃ b29 : Bool, ∃ n30 : Int, ∃ n31 : Int, ∃ n32 : Int, ∃ v33 : Value, ∃ n34 : Int, ∃ b35 : Bool, ((v20 : Value) = (.tuple #[(.agg #[(.int .i64 n22), (.int .i64 n23), (.int .i64 n24), v25, (.int .u64 n26), (.int .u64 n27), (.int .i64 n28), (.bool b29)]), (.agg #[(.int .i64 n30), (.int .i64 n31), (.int .i64 n32), v33, (.int .i64 n34)]), (.bool b35)])) ∧
                                  (StRow (World.alloc (World.alloc w21 (.cells #[(.int .i64 (0 : Int)), (.int .i64 (0 : Int)), (.int .i64 (0 : Int)), (.slice none 0 0), (.int .u64 (0 : Int)), (.int .u64 (0 : Int)), (.int .i64 (0 : Int)), (.bool false)] 27)) (.cells #[(.int .i64 (0 : Int)), (.int .i64 (0 : Int)), (.int .i64 (0 : Int)), (.slice none 0 0), (.int .i64 (0 : Int))] 35)) ⟨(Array.size (World.heap w21)), 0, none⟩ #[(.int .i64 n22), (.int .i64 n23), (.int .i64 n24), v25, (.int .u64 n26), (.int .u64 n27), (.int .i64 n28), (.bool b29)]) ∧
                                  (StRow (stRow (World.alloc (World.alloc w21 (.cells #[(.int .i64 (0 : Int)), (.int .i64 (0 : Int)), (.int .i64 (0 : Int)), (.slice none 0 0), (.int .u64 (0 : Int)), (.int .u64 (0 : Int)), (.int .i64 (0 : Int)), (.bool false)] 27)) (.cells #[(.int .i64 (0 : Int)), (.int .i64 (0 : Int)), (.int .i64 (0 : Int)), (.slice none 0 0), (.int .i64 (0 : Int))] 35)) ⟨(Array.size (World.heap w21)), 0, none⟩ #[(.int .i64 n22), (.int .i64 n23), (.int .i64 n24), v25, (.int .u64 n26), (.int .u64 n27), (.int .i64 n28), (.bool b29)]) ⟨(Array.size (World.heap (World.alloc w21 (.cells #[(.int .i64 (0 : Int)), (.int .i64 (0 : Int)), (.int .i64 (0 : Int)), (.slice none 0 0), (.int .u64 (0 : Int)), (.int .u64 (0 : Int)), (.int .i64 (0 : Int)), (.bool false)] 27)))), 0, none⟩ #[(.int .i64 n30), (.int .i64 n31), (.int .i64 n32), v33, (.int .i64 n34)]) ∧
                                  JoinP [.bool]
                                    (fun (b36 : Bool) => fun (w37 : World) =>
                                     R (.bool b36) w37)
                                    (fun j38 =>
                                     cond (n3 == (0 : Int))
                                       (∃ m39 : Nat, ((Go.CW.sliceLen v2) = (some m39)) ∧
                                         cond (((m39 : Nat) : Int) == (16 : Int))
                                           (∃ a40 : Addr, ((Go.CW.sliceAt v2 (0 : Int) 1) = (some a40)) ∧
                                             ∃ n41 : Int, ((Go.World.cell? (stRow (stRow (World.alloc (World.alloc w21 (.cells #[(.int .i64 (0 : Int)), (.int .i64 (0 : Int)), (.int .i64 (0 : Int)), (.slice none 0 0), (.int .u64 (0 : Int)), (.int .u64 (0 : Int)), (.int .i64 (0 : Int)), (.bool false)] 27)) (.cells #[(.int .i64 (0 : Int)), (.int .i64 (0 : Int)), (.int .i64 (0 : Int)), (.slice none 0 0), (.int .i64 (0 : Int))] 35)) ⟨(Array.size (World.heap w21)), 0, none⟩ #[(.int .i64 n22), (.int .i64 n23), (.int .i64 n24), v25, (.int .u64 n26), (.int .u64 n27), (.int .i64 n28), (.bool b29)]) ⟨(Array.size (World.heap (World.alloc w21 (.cells #[(.int .i64 (0 : Int)), (.int .i64 (0 : Int)), (.int .i64 (0 : Int)), (.slice none 0 0), (.int .u64 (0 : Int)), (.int .u64 (0 : Int)), (.int .i64 (0 : Int)), (.bool false)] 27)))), 0, none⟩ #[(.int .i64 n30), (.int .i64 n31), (.int .i64 n32), v33, (.int .i64 n34)]) a40) = (some (.int .u8 n41))) ∧
                                              cond (n41 == (136 : Int))
                                                (∃ a42 : Addr, ((Go.CW.sliceAt v2 (9 : Int) 1) = (some a42)) ∧
                                                  ∃ n43 : Int, ((Go.World.cell? (stRow (stRow (World.alloc (World.alloc w21 (.cells #[(.int .i64 (0 : Int)), (.int .i64 (0 : Int)), (.int .i64 (0 : Int)), (.slice none 0 0), (.int .u64 (0 : Int)), (.int .u64 (0 : Int)), (.int .i64 (0 : Int)), (.bool false)] 27)) (.cells #[(.int .i64 (0 : Int)), (.int .i64 (0 : Int)), (.int .i64 (0 : Int)), (.slice none 0 0), (.int .i64 (0 : Int))] 35)) ⟨(Array.size (World.heap w21)), 0, none⟩ #[(.int .i64 n22), (.int .i64 n23), (.int .i64 n24), v25, (.int .u64 n26), (.int .u64 n27), (.int .i64 n28), (.bool b29)]) ⟨(Array.size (World.heap (World.alloc w21 (.cells #[(.int .i64 (0 : Int)), (.int .i64 (0 : Int)), (.int .i64 (0 : Int)), (.slice none 0 0), (.int .u64 (0 : Int)), (.int .u64 (0 : Int)), (.int .i64 (0 : Int)), (.bool false)] 27)))), 0, none⟩ #[(.int .i64 n30), (.int .i64 n31), (.int .i64 n32), v33, (.int .i64 n34)]) a42) = (some (.int .u8 n43))) ∧
                                                   cond (n43 == (2 : Int))
                                                     (cond b19
                                                        (∃ n44 : Int, ((Go.World.cell? (stRow (stRow (World.alloc (World.alloc w21 (.cells #[(.int .i64 (0 : Int)), (.int .i64 (0 : Int)), (.int .i64 (0 : Int)), (.slice none 0 0), (.int .u64 (0 : Int)), (.int .u64 (0 : Int)), (.int .i64 (0 : Int)), (.bool false)] 27)) (.cells #[(.int .i64 (0 : Int)), (.int .i64 (0 : Int)), (.int .i64 (0 : Int)), (.slice none 0 0), (.int .i64 (0 : Int))] 35)) ⟨(Array.size (World.heap w21)), 0, none⟩ #[(.int .i64 n22), (.int .i64 n23), (.int .i64 n24), v25, (.int .u64 n26), (.int .u64 n27), (.int .i64 n28), (.bool b29)]) ⟨(Array.size (World.heap (World.alloc w21 (.cells #[(.int .i64 (0 : Int)), (.int .i64 (0 : Int)), (.int .i64 (0 : Int)), (.slice none 0 0), (.int .u64 (0 : Int)), (.int .u64 (0 : Int)), (.int .i64 (0 : Int)), (.bool false)] 27)))), 0, none⟩ #[(.int .i64 n30), (.int .i64 n31), (.int .i64 n32), v33, (.int .i64 n34)]) (Addr.add ⟨(Array.size (World.heap w5)), 0, none⟩ 0)) = (some (.int .i64 n44))) ∧
                                                          cond (n44 == (2 : Int))
                                                            (∃ n45 : Int, ((Go.World.cell? (stRow (stRow (World.alloc (World.alloc w21 (.cells #[(.int .i64 (0 : Int)), (.int .i64 (0 : Int)), (.int .i64 (0 : Int)), (.slice none 0 0), (.int .u64 (0 : Int)), (.int .u64 (0 : Int)), (.int .i64 (0 : Int)), (.bool false)] 27)) (.cells #[(.int .i64 (0 : Int)), (.int .i64 (0 : Int)), (.int .i64 (0 : Int)), (.slice none 0 0), (.int .i64 (0 : Int))] 35)) ⟨(Array.size (World.heap w21)), 0, none⟩ #[(.int .i64 n22), (.int .i64 n23), (.int .i64 n24), v25, (.int .u64 n26), (.int .u64 n27), (.int .i64 n28), (.bool b29)]) ⟨(Array.size (World.heap (World.alloc w21 (.cells #[(.int .i64 (0 : Int)), (.int .i64 (0 : Int)), (.int .i64 (0 : Int)), (.slice none 0 0), (.int .u64 (0 : Int)), (.int .u64 (0 : Int)), (.int .i64 (0 : Int)), (.bool false)] 27)))), 0, none⟩ #[(.int .i64 n30), (.int .i64 n31), (.int .i64 n32), v33, (.int .i64 n34)]) (Addr.add ⟨(Array.size (World.heap w5)), 0, none⟩ 1)) = (some (.int .i64 n45))) ∧
                                                              cond (n45 == (258 : Int))
                                                                (∃ n46 : Int, ((Go.World.cell? (stRow (stRow (World.alloc (World.alloc w21 (.cells #[(.int .i64 (0 : Int)), (.int .i64 (0 : Int)), (.int .i64 (0 : Int)), (.slice none 0 0), (.int .u64 (0 : Int)), (.int .u64 (0 : Int)), (.int .i64 (0 : Int)), (.bool false)] 27)) (.cells #[(.int .i64 (0 : Int)), (.int .i64 (0 : Int)), (.int .i64 (0 : Int)), (.slice none 0 0), (.int .i64 (0 : Int))] 35)) ⟨(Array.size (World.heap w21)), 0, none⟩ #[(.int .i64 n22), (.int .i64 n23), (.int .i64 n24), v25, (.int .u64 n26), (.int .u64 n27), (.int .i64 n28), (.bool b29)]) ⟨(Array.size (World.heap (World.alloc w21 (.cells #[(.int .i64 (0 : Int)), (.int .i64 (0 : Int)), (.int .i64 (0 : Int)), (.slice none 0 0), (.int .u64 (0 : Int)), (.int .u64 (0 : Int)), (.int .i64 (0 : Int)), (.bool false)] 27)))), 0, none⟩ #[(.int .i64 n30), (.int .i64 n31), (.int .i64 n32), v33, (.int .i64 n34)]) (Addr.add ⟨(Array.size (World.heap w5)), 0, none⟩ 2)) = (some (.int .i64 n46))) ∧
                                                                  cond (n46 == (3 : Int))
                                                                    (cond (!b35)
                                                                       (∃ n47 : Int, ((Go.World.cell? (stRow (stRow (World.alloc (World.alloc w21 (.cells #[(.int .i64 (0 : Int)), (.int .i64 (0 : Int)), (.int .i64 (0 : Int)), (.slice none 0 0), (.int .u64 (0 : Int)), (.int .u64 (0 : Int)), (.int .i64 (0 : Int)), (.bool false)] 27)) (.cells #[(.int .i64 (0 : Int)), (.int .i64 (0 : Int)), (.int .i64 (0 : Int)), (.slice none 0 0), (.int .i64 (0 : Int))] 35)) ⟨(Array.size (World.heap w21)), 0, none⟩ #[(.int .i64 n22), (.int .i64 n23), (.int .i64 n24), v25, (.int .u64 n26), (.int .u64 n27), (.int .i64 n28), (.bool b29)]) ⟨(Array.size (World.heap (World.alloc w21 (.cells #[(.int .i64 (0 : Int)), (.int .i64 (0 : Int)), (.int .i64 (0 : Int)), (.slice none 0 0), (.int .u64 (0 : Int)), (.int .u64 (0 : Int)), (.int .i64 (0 : Int)), (.bool false)] 27)))), 0, none⟩ #[(.int .i64 n30), (.int .i64 n31), (.int .i64 n32), v33, (.int .i64 n34)]) (Addr.add ⟨(Array.size (World.heap (World.alloc w21 (.cells #[(.int .i64 (0 : Int)), (.int .i64 (0 : Int)), (.int .i64 (0 : Int)), (.slice none 0 0), (.int .u64 (0 : Int)), (.int .u64 (0 : Int)), (.int .i64 (0 : Int)), (.bool false)] 27)))), 0, none⟩ 2)) = (some (.int .i64 n47))) ∧
                                                                         cond (n47 == (8192 : Int))
                                                                           (∃ n48 : Int, ∃ n49 : Int, ∃ n50 : Int, ∃ v51 : Value, ∃ n52 : Int, ∃ n53 : Int, ∃ n54 : Int, ∃ b55 : Bool, (ldCells (stRow (stRow (World.alloc (World.alloc w21 (.cells #[(.int .i64 (0 : Int)), (.int .i64 (0 : Int)), (.int .i64 (0 : Int)), (.slice none 0 0), (.int .u64 (0 : Int)), (.int .u64 (0 : Int)), (.int .i64 (0 : Int)), (.bool false)] 27)) (.cells #[(.int .i64 (0 : Int)), (.int .i64 (0 : Int)), (.int .i64 (0 : Int)), (.slice none 0 0), (.int .i64 (0 : Int))] 35)) ⟨(Array.size (World.heap w21)), 0, none⟩ #[(.int .i64 n22), (.int .i64 n23), (.int .i64 n24), v25, (.int .u64 n26), (.int .u64 n27), (.int .i64 n28), (.bool b29)]) ⟨(Array.size (World.heap (World.alloc w21 (.cells #[(.int .i64 (0 : Int)), (.int .i64 (0 : Int)), (.int .i64 (0 : Int)), (.slice none 0 0), (.int .u64 (0 : Int)), (.int .u64 (0 : Int)), (.int .i64 (0 : Int)), (.bool false)] 27)))), 0, none⟩ #[(.int .i64 n30), (.int .i64 n31), (.int .i64 n32), v33, (.int .i64 n34)]) ⟨(Array.size (World.heap w5)), 0, none⟩ 8 #[(.int .i64 n48), (.int .i64 n49), (.int .i64 n50), v51, (.int .u64 n52), (.int .u64 n53), (.int .i64 n54), (.bool b55)]) ∧
                                                                                    Go.CW.Spec Try.prog 7 #[(.agg #[(.int .i64 n48), (.int .i64 n49), (.int .i64 n50), v51, (.int .u64 n52), (.int .u64 n53), (.int .i64 n54), (.bool b55)])] (stRow (stRow (World.alloc (World.alloc w21 (.cells #[(.int .i64 (0 : Int)), (.int .i64 (0 : Int)), (.int .i64 (0 : Int)), (.slice none 0 0), (.int .u64 (0 : Int)), (.int .u64 (0 : Int)), (.int .i64 (0 : Int)), (.bool false)] 27)) (.cells #[(.int .i64 (0 : Int)), (.int .i64 (0 : Int)), (.int .i64 (0 : Int)), (.slice none 0 0), (.int .i64 (0 : Int))] 35)) ⟨(Array.size (World.heap w21)), 0, none⟩ #[(.int .i64 n22), (.int .i64 n23), (.int .i64 n24), v25, (.int .u64 n26), (.int .u64 n27), (.int .i64 n28), (.bool b29)]) ⟨(Array.size (World.heap (World.alloc w21 (.cells #[(.int .i64 (0 : Int)), (.int .i64 (0 : Int)), (.int .i64 (0 : Int)), (.slice none 0 0), (.int .u64 (0 : Int)), (.int .u64 (0 : Int)), (.int .i64 (0 : Int)), (.bool false)] 27)))), 0, none⟩ #[(.int .i64 n30), (.int .i64 n31), (.int .i64 n32), v33, (.int .i64 n34)]) fun v56 w57 =>
                                                                                     ∃ n58 : Int, ((v56 : Value) = (.int .i64 n58)) ∧
                                                                                      cond (n58 == (24 : Int))
                                                                                        (∃ n59 : Int, ∃ n60 : Int, ∃ n61 : Int, ∃ v62 : Value, ∃ n63 : Int, ∃ n64 : Int, ∃ n65 : Int, ∃ b66 : Bool, (ldCells w57 ⟨(Array.size (World.heap w5)), 0, none⟩ 8 #[(.int .i64 n59), (.int .i64 n60), (.int .i64 n61), v62, (.int .u64 n63), (.int .u64 n64), (.int .i64 n65), (.bool b66)]) ∧
                                                                                                 Go.CW.Spec Try.prog 6 #[(.agg #[(.int .i64 n59), (.int .i64 n60), (.int .i64 n61), v62, (.int .u64 n63), (.int .u64 n64), (.int .i64 n65), (.bool b66)])] w57 fun v67 w68 =>
                                                                                                  ∃ n69 : Int, ((v67 : Value) = (.int .i64 n69)) ∧
                                                                                                   j38 (n69 == (0 : Int)) w68)
                                                                                        (j38 false w57))
                                                                           (j38 false (stRow (stRow (World.alloc (World.alloc w21 (.cells #[(.int .i64 (0 : Int)), (.int .i64 (0 : Int)), (.int .i64 (0 : Int)), (.slice none 0 0), (.int .u64 (0 : Int)), (.int .u64 (0 : Int)), (.int .i64 (0 : Int)), (.bool false)] 27)) (.cells #[(.int .i64 (0 : Int)), (.int .i64 (0 : Int)), (.int .i64 (0 : Int)), (.slice none 0 0), (.int .i64 (0 : Int))] 35)) ⟨(Array.size (World.heap w21)), 0, none⟩ #[(.int .i64 n22), (.int .i64 n23), (.int .i64 n24), v25, (.int .u64 n26), (.int .u64 n27), (.int .i64 n28), (.bool b29)]) ⟨(Array.size (World.heap (World.alloc w21 (.cells #[(.int .i64 (0 : Int)), (.int .i64 (0 : Int)), (.int .i64 (0 : Int)), (.slice none 0 0), (.int .u64 (0 : Int)), (.int .u64 (0 : Int)), (.int .i64 (0 : Int)), (.bool false)] 27)))), 0, none⟩ #[(.int .i64 n30), (.int .i64 n31), (.int .i64 n32), v33, (.int .i64 n34)])))
                                                                       (j38 false (stRow (stRow (World.alloc (World.alloc w21 (.cells #[(.int .i64 (0 : Int)), (.int .i64 (0 : Int)), (.int .i64 (0 : Int)), (.slice none 0 0), (.int .u64 (0 : Int)), (.int .u64 (0 : Int)), (.int .i64 (0 : Int)), (.bool false)] 27)) (.cells #[(.int .i64 (0 : Int)), (.int .i64 (0 : Int)), (.int .i64 (0 : Int)), (.slice none 0 0), (.int .i64 (0 : Int))] 35)) ⟨(Array.size (World.heap w21)), 0, none⟩ #[(.int .i64 n22), (.int .i64 n23), (.int .i64 n24), v25, (.int .u64 n26), (.int .u64 n27), (.int .i64 n28), (.bool b29)]) ⟨(Array.size (World.heap (World.alloc w21 (.cells #[(.int .i64 (0 : Int)), (.int .i64 (0 : Int)), (.int .i64 (0 : Int)), (.slice none 0 0), (.int .u64 (0 : Int)), (.int .u64 (0 : Int)), (.int .i64 (0 : Int)), (.bool false)] 27)))), 0, none⟩ #[(.int .i64 n30), (.int .i64 n31), (.int .i64 n32), v33, (.int .i64 n34)])))
                                                                    (j38 false (stRow (stRow (World.alloc (World.alloc w21 (.cells #[(.int .i64 (0 : Int)), (.int .i64 (0 : Int)), (.int .i64 (0 : Int)), (.slice none 0 0), (.int .u64 (0 : Int)), (.int .u64 (0 : Int)), (.int .i64 (0 : Int)), (.bool false)] 27)) (.cells #[(.int .i64 (0 : Int)), (.int .i64 (0 : Int)), (.int .i64 (0 : Int)), (.slice none 0 0), (.int .i64 (0 : Int))] 35)) ⟨(Array.size (World.heap w21)), 0, none⟩ #[(.int .i64 n22), (.int .i64 n23), (.int .i64 n24), v25, (.int .u64 n26), (.int .u64 n27), (.int .i64 n28), (.bool b29)]) ⟨(Array.size (World.heap (World.alloc w21 (.cells #[(.int .i64 (0 : Int)), (.int .i64 (0 : Int)), (.int .i64 (0 : Int)), (.slice none 0 0), (.int .u64 (0 : Int)), (.int .u64 (0 : Int)), (.int .i64 (0 : Int)), (.bool false)] 27)))), 0, none⟩ #[(.int .i64 n30), (.int .i64 n31), (.int .i64 n32), v33, (.int .i64 n34)])))
                                                                (j38 false (stRow (stRow (World.alloc (World.alloc w21 (.cells #[(.int .i64 (0 : Int)), (.int .i64 (0 : Int)), (.int .i64 (0 : Int)), (.slice none 0 0), (.int .u64 (0 : Int)), (.int .u64 (0 : Int)), (.int .i64 (0 : Int)), (.bool false)] 27)) (.cells #[(.int .i64 (0 : Int)), (.int .i64 (0 : Int)), (.int .i64 (0 : Int)), (.slice none 0 0), (.int .i64 (0 : Int))] 35)) ⟨(Array.size (World.heap w21)), 0, none⟩ #[(.int .i64 n22), (.int .i64 n23), (.int .i64 n24), v25, (.int .u64 n26), (.int .u64 n27), (.int .i64 n28), (.bool b29)]) ⟨(Array.size (World.heap (World.alloc w21 (.cells #[(.int .i64 (0 : Int)), (.int .i64 (0 : Int)), (.int .i64 (0 : Int)), (.slice none 0 0), (.int .u64 (0 : Int)), (.int .u64 (0 : Int)), (.int .i64 (0 : Int)), (.bool false)] 27)))), 0, none⟩ #[(.int .i64 n30), (.int .i64 n31), (.int .i64 n32), v33, (.int .i64 n34)])))
                                                            (j38 false (stRow (stRow (World.alloc (World.alloc w21 (.cells #[(.int .i64 (0 : Int)), (.int .i64 (0 : Int)), (.int .i64 (0 : Int)), (.slice none 0 0), (.int .u64 (0 : Int)), (.int .u64 (0 : Int)), (.int .i64 (0 : Int)), (.bool false)] 27)) (.cells #[(.int .i64 (0 : Int)), (.int .i64 (0 : Int)), (.int .i64 (0 : Int)), (.slice none 0 0), (.int .i64 (0 : Int))] 35)) ⟨(Array.size (World.heap w21)), 0, none⟩ #[(.int .i64 n22), (.int .i64 n23), (.int .i64 n24), v25, (.int .u64 n26), (.int .u64 n27), (.int .i64 n28), (.bool b29)]) ⟨(Array.size (World.heap (World.alloc w21 (.cells #[(.int .i64 (0 : Int)), (.int .i64 (0 : Int)), (.int .i64 (0 : Int)), (.slice none 0 0), (.int .u64 (0 : Int)), (.int .u64 (0 : Int)), (.int .i64 (0 : Int)), (.bool false)] 27)))), 0, none⟩ #[(.int .i64 n30), (.int .i64 n31), (.int .i64 n32), v33, (.int .i64 n34)])))
                                                        (j38 false (stRow (stRow (World.alloc (World.alloc w21 (.cells #[(.int .i64 (0 : Int)), (.int .i64 (0 : Int)), (.int .i64 (0 : Int)), (.slice none 0 0), (.int .u64 (0 : Int)), (.int .u64 (0 : Int)), (.int .i64 (0 : Int)), (.bool false)] 27)) (.cells #[(.int .i64 (0 : Int)), (.int .i64 (0 : Int)), (.int .i64 (0 : Int)), (.slice none 0 0), (.int .i64 (0 : Int))] 35)) ⟨(Array.size (World.heap w21)), 0, none⟩ #[(.int .i64 n22), (.int .i64 n23), (.int .i64 n24), v25, (.int .u64 n26), (.int .u64 n27), (.int .i64 n28), (.bool b29)]) ⟨(Array.size (World.heap (World.alloc w21 (.cells #[(.int .i64 (0 : Int)), (.int .i64 (0 : Int)), (.int .i64 (0 : Int)), (.slice none 0 0), (.int .u64 (0 : Int)), (.int .u64 (0 : Int)), (.int .i64 (0 : Int)), (.bool false)] 27)))), 0, none⟩ #[(.int .i64 n30), (.int .i64 n31), (.int .i64 n32), v33, (.int .i64 n34)])))
                                                     (j38 false (stRow (stRow (World.alloc (World.alloc w21 (.cells #[(.int .i64 (0 : Int)), (.int .i64 (0 : Int)), (.int .i64 (0 : Int)), (.slice none 0 0), (.int .u64 (0 : Int)), (.int .u64 (0 : Int)), (.int .i64 (0 : Int)), (.bool false)] 27)) (.cells #[(.int .i64 (0 : Int)), (.int .i64 (0 : Int)), (.int .i64 (0 : Int)), (.slice none 0 0), (.int .i64 (0 : Int))] 35)) ⟨(Array.size (World.heap w21)), 0, none⟩ #[(.int .i64 n22), (.int .i64 n23), (.int .i64 n24), v25, (.int .u64 n26), (.int .u64 n27), (.int .i64 n28), (.bool b29)]) ⟨(Array.size (World.heap (World.alloc w21 (.cells #[(.int .i64 (0 : Int)), (.int .i64 (0 : Int)), (.int .i64 (0 : Int)), (.slice none 0 0), (.int .u64 (0 : Int)), (.int .u64 (0 : Int)), (.int .i64 (0 : Int)), (.bool false)] 27)))), 0, none⟩ #[(.int .i64 n30), (.int .i64 n31), (.int .i64 n32), v33, (.int .i64 n34)])))
                                                (j38 false (stRow (stRow (World.alloc (World.alloc w21 (.cells #[(.int .i64 (0 : Int)), (.int .i64 (0 : Int)), (.int .i64 (0 : Int)), (.slice none 0 0), (.int .u64 (0 : Int)), (.int .u64 (0 : Int)), (.int .i64 (0 : Int)), (.bool false)] 27)) (.cells #[(.int .i64 (0 : Int)), (.int .i64 (0 : Int)), (.int .i64 (0 : Int)), (.slice none 0 0), (.int .i64 (0 : Int))] 35)) ⟨(Array.size (World.heap w21)), 0, none⟩ #[(.int .i64 n22), (.int .i64 n23), (.int .i64 n24), v25, (.int .u64 n26), (.int .u64 n27), (.int .i64 n28), (.bool b29)]) ⟨(Array.size (World.heap (World.alloc w21 (.cells #[(.int .i64 (0 : Int)), (.int .i64 (0 : Int)), (.int .i64 (0 : Int)), (.slice none 0 0), (.int .u64 (0 : Int)), (.int .u64 (0 : Int)), (.int .i64 (0 : Int)), (.bool false)] 27)))), 0, none⟩ #[(.int .i64 n30), (.int .i64 n31), (.int .i64 n32), v33, (.int .i64 n34)])))
                                           (j38 false (stRow (stRow (World.alloc (World.alloc w21 (.cells #[(.int .i64 (0 : Int)), (.int .i64 (0 : Int)), (.int .i64 (0 : Int)), (.slice none 0 0), (.int .u64 (0 : Int)), (.int .u64 (0 : Int)), (.int .i64 (0 : Int)), (.bool false)] 27)) (.cells #[(.int .i64 (0 : Int)), (.int .i64 (0 : Int)), (.int .i64 (0 : Int)), (.slice none 0 0), (.int .i64 (0 : Int))] 35)) ⟨(Array.size (World.heap w21)), 0, none⟩ #[(.int .i64 n22), (.int .i64 n23), (.int .i64 n24), v25, (.int .u64 n26), (.int .u64 n27), (.int .i64 n28), (.bool b29)]) ⟨(Array.size (World.heap (World.alloc w21 (.cells #[(.int .i64 (0 : Int)), (.int .i64 (0 : Int)), (.int .i64 (0 : Int)), (.slice none 0 0), (.int .u64 (0 : Int)), (.int .u64 (0 : Int)), (.int .i64 (0 : Int)), (.bool false)] 27)))), 0, none⟩ #[(.int .i64 n30), (.int .i64 n31), (.int .i64 n32), v33, (.int .i64 n34)])))
                                       (j38 false (stRow (stRow (World.alloc (World.alloc w21 (.cells #[(.int .i64 (0 : Int)), (.int .i64 (0 : Int)), (.int .i64 (0 : Int)), (.slice none 0 0), (.int .u64 (0 : Int)), (.int .u64 (0 : Int)), (.int .i64 (0 : Int)), (.bool false)] 27)) (.cells #[(.int .i64 (0 : Int)), (.int .i64 (0 : Int)), (.int .i64 (0 : Int)), (.slice none 0 0), (.int .i64 (0 : Int))] 35)) ⟨(Array.size (World.heap w21)), 0, none⟩ #[(.int .i64 n22), (.int .i64 n23), (.int .i64 n24), v25, (.int .u64 n26), (.int .u64 n27), (.int .i64 n28), (.bool b29)]) ⟨(Array.size (World.heap (World.alloc w21 (.cells #[(.int .i64 (0 : Int)), (.int .i64 (0 : Int)), (.int .i64 (0 : Int)), (.slice none 0 0), (.int .u64 (0 : Int)), (.int .u64 (0 : Int)), (.int .i64 (0 : Int)), (.bool false)] 27)))), 0, none⟩ #[(.int .i64 n30), (.int .i64 n31), (.int .i64 n32), v33, (.int .i64 n34)])))

theorem gemellaw4_known_wp  (w : World) (R : KV) (h : gemellaw4_known_F  w R) : Go.CW.Spec Try.prog 5 #[] w R :=
  spec_of Try.func5 (by kernel_rfl) (show gemellaw4_known_F  w R = _ by kernel_rfl) h



/-- gemel/cdb.Out -/
def cdb_Out_F (p0_0 : Int) (p0_1 : Int) (p0_2 : Int) (p0_3 : Value) (p0_4 : Int) (p0_5 : Int) (p0_6 : Int) (p0_7 : Bool) (w : World) (R : KV) : Prop :=
 ∃ n0 : Int, ((Go.World.cell? (World.alloc w (.cells #[(.int .i64 p0_0), (.int .i64 p0_1), (.int .i64 p0_2), p0_3, (.int .u64 p0_4), (.int .u64 p0_5), (.int .i64 p0_6), (.bool p0_7)] 27)) (Addr.add ⟨(Array.size (World.heap w)), 0, none⟩ 0)) = (some (.int .i64 n0))) ∧
  cond (n0 == (3 : Int))
    (∃ n1 : Int, ((Go.World.cell? (World.alloc w (.cells #[(.int .i64 p0_0), (.int .i64 p0_1), (.int .i64 p0_2), p0_3, (.int .u64 p0_4), (.int .u64 p0_5), (.int .i64 p0_6), (.bool p0_7)] 27)) (Addr.add ⟨(Array.size (World.heap w)), 0, none⟩ 2)) = (some (.int .i64 n1))) ∧
      Go.CW.Spec Try.prog 10 #[(.int .i64 n1)] (World.alloc w (.cells #[(.int .i64 p0_0), (.int .i64 p0_1), (.int .i64 p0_2), p0_3, (.int .u64 p0_4), (.int .u64 p0_5), (.int .i64 p0_6), (.bool p0_7)] 27)) fun v2 w3 =>
       ∃ n4 : Int, ((v2 : Value) = (.int .i64 n4)) ∧
        R (.int .i64 n4) w3)
    (cond (n0 == (6 : Int))
       (∃ n5 : Int, ((Go.World.cell? (World.alloc w (.cells #[(.int .i64 p0_0), (.int .i64 p0_1), (.int .i64 p0_2), p0_3, (.int .u64 p0_4), (.int .u64 p0_5), (.int .i64 p0_6), (.bool p0_7)] 27)) (Addr.add ⟨(Array.size (World.heap w)), 0, none⟩ 2)) = (some (.int .i64 n5))) ∧
         Go.CW.Spec Try.prog 10 #[(.int .i64 n5)] (World.alloc w (.cells #[(.int .i64 p0_0), (.int .i64 p0_1), (.int .i64 p0_2), p0_3, (.int .u64 p0_4), (.int .u64 p0_5), (.int .i64 p0_6), (.bool p0_7)] 27)) fun v6 w7 =>
          ∃ n8 : Int, ((v6 : Value) = (.int .i64 n8)) ∧
           R (.int .i64 (IntKind.wrap .i64 ((2 : Int) * n8))) w7)
       (JoinP [.bool]
          (fun (b9 : Bool) => fun (w10 : World) =>
           cond b9
             (R (.int .i64 (24 : Int)) w10)
             (R (.int .i64 (0 : Int)) w10))
          (fun j11 =>
           cond (n0 == (10 : Int))
             (j11 (n0 == (10 : Int)) (World.alloc w (.cells #[(.int .i64 p0_0), (.int .i64 p0_1), (.int .i64 p0_2), p0_3, (.int .u64 p0_4), (.int .u64 p0_5), (.int .i64 p0_6), (.bool p0_7)] 27)))
             (cond (n0 == (11 : Int))
                (j11 (n0 == (11 : Int)) (World.alloc w (.cells #[(.int .i64 p0_0), (.int .i64 p0_1), (.int .i64 p0_2), p0_3, (.int .u64 p0_4), (.int .u64 p0_5), (.int .i64 p0_6), (.bool p0_7)] 27)))
                (cond (n0 == (12 : Int))
                   (j11 (n0 == (12 : Int)) (World.alloc w (.cells #[(.int .i64 p0_0), (.int .i64 p0_1), (.int .i64 p0_2), p0_3, (.int .u64 p0_4), (.int .u64 p0_5), (.int .i64 p0_6), (.bool p0_7)] 27)))
                   (cond (n0 == (13 : Int))
                      (j11 (n0 == (13 : Int)) (World.alloc w (.cells #[(.int .i64 p0_0), (.int .i64 p0_1), (.int .i64 p0_2), p0_3, (.int .u64 p0_4), (.int .u64 p0_5), (.int .i64 p0_6), (.bool p0_7)] 27)))
                      (cond (n0 == (14 : Int))
                         (j11 (n0 == (14 : Int)) (World.alloc w (.cells #[(.int .i64 p0_0), (.int .i64 p0_1), (.int .i64 p0_2), p0_3, (.int .u64 p0_4), (.int .u64 p0_5), (.int .i64 p0_6), (.bool p0_7)] 27)))
                         (j11 (n0 == (15 : Int)) (World.alloc w (.cells #[(.int .i64 p0_0), (.int .i64 p0_1), (.int .i64 p0_2), p0_3, (.int .u64 p0_4), (.int .u64 p0_5), (.int .i64 p0_6), (.bool p0_7)] 27))))))))))

theorem cdb_Out_wp (p0_0 : Int) (p0_1 : Int) (p0_2 : Int) (p0_3 : Value) (p0_4 : Int) (p0_5 : Int) (p0_6 : Int) (p0_7 : Bool) (w : World) (R : KV) (h : cdb_Out_F p0_0 p0_1 p0_2 p0_3 p0_4 p0_5 p0_6 p0_7 w R) : Go.CW.Spec Try.prog 6 #[(.agg #[(.int .i64 p0_0), (.int .i64 p0_1), (.int .i64 p0_2), p0_3, (.int .u64 p0_4), (.int .u64 p0_5), (.int .i64 p0_6), (.bool p0_7)])] w R :=
  spec_of Try.func6 (by kernel_rfl) (show cdb_Out_F p0_0 p0_1 p0_2 p0_3 p0_4 p0_5 p0_6 p0_7 w R = _ by kernel_rfl) h



/-- gemel/cdb.In -/
def cdb_In_F (p0_0 : Int) (p0_1 : Int) (p0_2 : Int) (p0_3 : Value) (p0_4 : Int) (p0_5 : Int) (p0_6 : Int) (p0_7 : Bool) (w : World) (R : KV) : Prop :=
 ∃ n0 : Int, ((Go.World.cell? (World.alloc w (.cells #[(.int .i64 p0_0), (.int .i64 p0_1), (.int .i64 p0_2), p0_3, (.int .u64 p0_4), (.int .u64 p0_5), (.int .i64 p0_6), (.bool p0_7)] 27)) (Addr.add ⟨(Array.size (World.heap w)), 0, none⟩ 0)) = (some (.int .i64 n0))) ∧
  cond (n0 == (2 : Int))
    (∃ n1 : Int, ((Go.World.cell? (World.alloc w (.cells #[(.int .i64 p0_0), (.int .i64 p0_1), (.int .i64 p0_2), p0_3, (.int .u64 p0_4), (.int .u64 p0_5), (.int .i64 p0_6), (.bool p0_7)] 27)) (Addr.add ⟨(Array.size (World.heap w)), 0, none⟩ 2)) = (some (.int .i64 n1))) ∧
      Go.CW.Spec Try.prog 10 #[(.int .i64 n1)] (World.alloc w (.cells #[(.int .i64 p0_0), (.int .i64 p0_1), (.int .i64 p0_2), p0_3, (.int .u64 p0_4), (.int .u64 p0_5), (.int .i64 p0_6), (.bool p0_7)] 27)) fun v2 w3 =>
       ∃ n4 : Int, ((v2 : Value) = (.int .i64 n4)) ∧
        R (.int .i64 n4) w3)
    (cond (n0 == (7 : Int))
       (R (.int .i64 (8 : Int)) (World.alloc w (.cells #[(.int .i64 p0_0), (.int .i64 p0_1), (.int .i64 p0_2), p0_3, (.int .u64 p0_4), (.int .u64 p0_5), (.int .i64 p0_6), (.bool p0_7)] 27)))
       (cond (n0 == (8 : Int))
          (R (.int .i64 (36 : Int)) (World.alloc w (.cells #[(.int .i64 p0_0), (.int .i64 p0_1), (.int .i64 p0_2), p0_3, (.int .u64 p0_4), (.int .u64 p0_5), (.int .i64 p0_6), (.bool p0_7)] 27)))
          (cond (n0 == (9 : Int))
             (R (.int .i64 (18 : Int)) (World.alloc w (.cells #[(.int .i64 p0_0), (.int .i64 p0_1), (.int .i64 p0_2), p0_3, (.int .u64 p0_4), (.int .u64 p0_5), (.int .i64 p0_6), (.bool p0_7)] 27)))
             (cond (n0 == (16 : Int))
                (R (.int .i64 (136 : Int)) (World.alloc w (.cells #[(.int .i64 p0_0), (.int .i64 p0_1), (.int .i64 p0_2), p0_3, (.int .u64 p0_4), (.int .u64 p0_5), (.int .i64 p0_6), (.bool p0_7)] 27)))
                (cond (n0 == (17 : Int))
                   (R (.int .i64 (24 : Int)) (World.alloc w (.cells #[(.int .i64 p0_0), (.int .i64 p0_1), (.int .i64 p0_2), p0_3, (.int .u64 p0_4), (.int .u64 p0_5), (.int .i64 p0_6), (.bool p0_7)] 27)))
                   (R (.int .i64 (0 : Int)) (World.alloc w (.cells #[(.int .i64 p0_0), (.int .i64 p0_1), (.int .i64 p0_2), p0_3, (.int .u64 p0_4), (.int .u64 p0_5), (.int .i64 p0_6), (.bool p0_7)] 27))))))))

theorem cdb_In_wp (p0_0 : Int) (p0_1 : Int) (p0_2 : Int) (p0_3 : Value) (p0_4 : Int) (p0_5 : Int) (p0_6 : Int) (p0_7 : Bool) (w : World) (R : KV) (h : cdb_In_F p0_0 p0_1 p0_2 p0_3 p0_4 p0_5 p0_6 p0_7 w R) : Go.CW.Spec Try.prog 7 #[(.agg #[(.int .i64 p0_0), (.int .i64 p0_1), (.int .i64 p0_2), p0_3, (.int .u64 p0_4), (.int .u64 p0_5), (.int .i64 p0_6), (.bool p0_7)])] w R :=
  spec_of Try.func7 (by kernel_rfl) (show cdb_In_F p0_0 p0_1 p0_2 p0_3 p0_4 p0_5 p0_6 p0_7 w R = _ by kernel_rfl) h



/-- gemel/cdb.Encode -/
def cdb_Encode_F (p0_0 : Int) (p0_1 : Int) (p0_2 : Int) (p0_3 : Value) (p0_4 : Int) (p0_5 : Int) (p0_6 : Int) (p0_7 : Bool) (w : World) (R : KV) : Prop :=
 Go.CW.Spec Try.prog 11 #[(.func (.func 12) #[] #[(.pointer (some ⟨(Array.size (World.heap w)), 0, none⟩))])] (World.alloc w (.cells #[(.int .i64 p0_0), (.int .i64 p0_1), (.int .i64 p0_2), p0_3, (.int .u64 p0_4), (.int .u64 p0_5), (.int .i64 p0_6), (.bool p0_7)] 27)) fun v0 w1 =>
  ∃ n2 : Int, ∃ n3 : Int, ∃ n4 : Int, ∃ b5 : Bool, ∃ b6 : Bool, ∃ b7 : Bool, ∃ b8 : Bool, ∃ b9 : Bool, ∃ b10 : Bool, ∃ b11 : Bool, ((v0 : Value) = (.tuple #[(.agg #[(.int .i64 n2), (.int .u8 n3), (.int .u8 n4), (.bool b5), (.bool b6), (.bool b7), (.bool b8), (.bool b9), (.bool b10)]), (.bool b11)])) ∧
            (StRow (World.alloc w1 (.cells #[(.int .i64 (0 : Int)), (.int .u8 (0 : Int)), (.int .u8 (0 : Int)), (.bool false), (.bool false), (.bool false), (.bool false), (.bool false), (.bool false)] 41)) ⟨(Array.size (World.heap w1)), 0, none⟩ #[(.int .i64 n2), (.int .u8 n3), (.int .u8 n4), (.bool b5), (.bool b6), (.bool b7), (.bool b8), (.bool b9), (.bool b10)]) ∧
            JoinP [.bool]
              (fun (b12 : Bool) => fun (w13 : World) =>
               cond b12
                 (R (.tuple #[(.slice none 0 0), (.int .i64 (1 : Int))]) w13)
                 (∃ v14 : Value, ∃ w15 : World, ((Sem.run @Go.Proofs.Try.prog (Go.Instr.makeSlice 24 (.int .i64 (16 : Int)) (.int .i64 (16 : Int))) w13) = (.ok v14 w15)) ∧
                    ∃ n16 : Int, ((Go.World.cell? (World.drew w15) (Addr.add ⟨(Array.size (World.heap w1)), 0, none⟩ 1)) = (some (.int .u8 n16))) ∧
                     ∃ n17 : Int, ((Go.World.cell? (World.drew w15) (Addr.add ⟨(Array.size (World.heap w1)), 0, none⟩ 2)) = (some (.int .u8 n17))) ∧
                      ∃ a18 : Addr, ((Go.CW.sliceAt v14 (0 : Int) 1) = (some a18)) ∧
                       (St1 (World.drew w15) a18) ∧
                       (∃ n19 : Int, ((Go.World.cell? (World.setCell (World.drew w15) a18 (.int .u8 n16)) (Addr.add ⟨(Array.size (World.heap w1)), 0, none⟩ 2)) = (some (.int .u8 n19))) ∧
                        ((.int .u8 n19) : Value) = (.int .u8 n17)) ∧
                       ∃ a20 : Addr, ((Go.CW.sliceAt v14 (1 : Int) 1) = (some a20)) ∧
                        (St1 (World.setCell (World.drew w15) a18 (.int .u8 n16)) a20) ∧
                        JoinP []
                          (fun (w21 : World) =>
                           JoinP []
                             (fun (w22 : World) =>
                              JoinP []
                                (fun (w23 : World) =>
                                 JoinP []
                                   (fun (w24 : World) =>
                                    R (.tuple #[v14, (.int .i64 (0 : Int))]) w24)
                                   (fun j25 =>
                                    ∃ b26 : Bool, ((Go.World.cell? w23 (Addr.add ⟨(Array.size (World.heap w1)), 0, none⟩ 4)) = (some (.bool b26))) ∧
                                     cond b26
                                       (∃ v27 : Value, ((Go.CW.subSlice v14 1 (some (.int .i64 (10 : Int))) none none) = (some v27)) ∧
                                         ∃ n28 : Int, ((Go.World.cell? (World.drew w23) (Addr.add ⟨(Array.size (World.heap w)), 0, none⟩ 2)) = (some (.int .i64 n28))) ∧
                                          Go.CW.Spec Try.prog 13 #[(.slice none 0 0), (.int .u64 (IntKind.wrap .u64 n28)), (.int .i64 (4 : Int))] (World.drew w23) fun v29 w30 =>
                                           ∃ n31 : Int, ∃ w32 : World, ((Sem.run @Go.Proofs.Try.prog (Go.Builtin.copy_ #[24, 24] 3 #[v27, v29]) w30) = (.ok (.int .i64 n31) w32)) ∧
                                             j25 w32)
                                       (∃ b33 : Bool, ((Go.World.cell? w23 (Addr.add ⟨(Array.size (World.heap w1)), 0, none⟩ 5)) = (some (.bool b33))) ∧
                                         cond b33
                                           (∃ n34 : Int, ((Go.World.cell? w23 (Addr.add ⟨(Array.size (World.heap w)), 0, none⟩ 2)) = (some (.int .i64 n34))) ∧
                                             ∃ a35 : Addr, ((Go.CW.sliceAt v14 (13 : Int) 1) = (some a35)) ∧
                                              (St1 w23 a35) ∧
                                              j25 (World.setCell w23 a35 (.int .u8 (IntKind.wrap .u8 n34))))
                                           (j25 w23))))
                                (fun j36 =>
                                 ∃ b37 : Bool, ((Go.World.cell? w22 (Addr.add ⟨(Array.size (World.heap w1)), 0, none⟩ 3)) = (some (.bool b37))) ∧
                                  cond b37
                                    (∃ v38 : Value, ((Go.CW.subSlice v14 1 (some (.int .i64 (2 : Int))) none none) = (some v38)) ∧
                                      ∃ n39 : Int, ((Go.World.cell? (World.drew w22) (Addr.add ⟨(Array.size (World.heap w)), 0, none⟩ 1)) = (some (.int .i64 n39))) ∧
                                       Go.CW.Spec Try.prog 13 #[(.slice none 0 0), (.int .u64 (IntKind.wrap .u64 n39)), (.int .i64 (8 : Int))] (World.drew w22) fun v40 w41 =>
                                        ∃ n42 : Int, ∃ w43 : World, ((Sem.run @Go.Proofs.Try.prog (Go.Builtin.copy_ #[24, 24] 3 #[v38, v40]) w41) = (.ok (.int .i64 n42) w43)) ∧
                                          j36 w43)
                                    (j36 w22)))
                             (fun j44 =>
                              ∃ b45 : Bool, ((Go.World.cell? w21 (Addr.add ⟨(Array.size (World.heap w1)), 0, none⟩ 7)) = (some (.bool b45))) ∧
                               cond b45
                                 (∃ n46 : Int, ((Go.World.cell? w21 (Addr.add ⟨(Array.size (World.heap w)), 0, none⟩ 6)) = (some (.int .i64 n46))) ∧
                                   ∃ a47 : Addr, ((Go.CW.sliceAt v14 (2 : Int) 1) = (some a47)) ∧
                                    (St1 w21 a47) ∧
                                    j44 (World.setCell w21 a47 (.int .u8 (IntKind.wrap .u8 n46))))
                                 (j44 w21)))
                          (fun j48 =>
                           JoinP [.bool]
                             (fun (b49 : Bool) => fun (w50 : World) =>
                              cond b49
                                (∃ a51 : Addr, ((Go.CW.sliceAt v14 (1 : Int) 1) = (some a51)) ∧
                                  (St1 w50 a51) ∧
                                  j48 (World.setCell w50 a51 (.int .u8 (8 : Int))))
                                (j48 w50))
                             (fun j52 =>
                              ∃ b53 : Bool, ((Go.World.cell? (World.setCell (World.setCell (World.drew w15) a18 (.int .u8 n16)) a20 (.int .u8 n17)) (Addr.add ⟨(Array.size (World.heap w1)), 0, none⟩ 6)) = (some (.bool b53))) ∧
                               cond b53
                                 (∃ b54 : Bool, ((Go.World.cell? (World.setCell (World.setCell (World.drew w15) a18 (.int .u8 n16)) a20 (.int .u8 n17)) (Addr.add ⟨(Array.size (World.heap w)), 0, none⟩ 7)) = (some (.bool b54))) ∧
                                   j52 b54 (World.setCell (World.setCell (World.drew w15) a18 (.int .u8 n16)) a20 (.int .u8 n17)))
                                 (j52 false (World.setCell (World.setCell (World.drew w15) a18 (.int .u8 n16)) a20 (.int .u8 n17)))))))
              (fun j55 =>
               cond (!b11)
                 (j55 (!b11) (stRow (World.alloc w1 (.cells #[(.int .i64 (0 : Int)), (.int .u8 (0 : Int)), (.int .u8 (0 : Int)), (.bool false), (.bool false), (.bool false), (.bool false), (.bool false), (.bool false)] 41)) ⟨(Array.size (World.heap w1)), 0, none⟩ #[(.int .i64 n2), (.int .u8 n3), (.int .u8 n4), (.bool b5), (.bool b6), (.bool b7), (.bool b8), (.bool b9), (.bool b10)]))
                 (JoinP [.bool]
                    (fun (b56 : Bool) => fun (w57 : World) =>
                     cond b56
                       (j55 b56 w57)
                       (JoinP [.bool]
                          (fun (b58 : Bool) => fun (w59 : World) =>
                           cond b58
                             (j55 b58 w59)
                             (JoinP [.bool]
                                (fun (b60 : Bool) => fun (w61 : World) =>
                                 cond b60
                                   (j55 b60 w61)
                                   (∃ b62 : Bool, ((Go.World.cell? w61 (Addr.add ⟨(Array.size (World.heap w1)), 0, none⟩ 7)) = (some (.bool b62))) ∧
                                     cond b62
                                       (∃ n63 : Int, ((Go.World.cell? w61 (Addr.add ⟨(Array.size (World.heap w)), 0, none⟩ 6)) = (some (.int .i64 n63))) ∧
                                         cond (decide (n63 < (0 : Int)))
                                           (j55 true w61)
                                           (∃ n64 : Int, ((Go.World.cell? w61 (Addr.add ⟨(Array.size (World.heap w)), 0, none⟩ 6)) = (some (.int .i64 n64))) ∧
                                             j55 (decide (n64 > (15 : Int))) w61))
                                       (j55 false w61)))
                                (fun j65 =>
                                 ∃ b66 : Bool, ((Go.World.cell? w59 (Addr.add ⟨(Array.size (World.heap w1)), 0, none⟩ 5)) = (some (.bool b66))) ∧
                                  cond b66
                                    (∃ n67 : Int, ((Go.World.cell? w59 (Addr.add ⟨(Array.size (World.heap w)), 0, none⟩ 2)) = (some (.int .i64 n67))) ∧
                                      j65 (decide (n67 > (255 : Int))) w59)
                                    (j65 false w59))))
                          (fun j68 =>
                           ∃ b69 : Bool, ((Go.World.cell? w57 (Addr.add ⟨(Array.size (World.heap w1)), 0, none⟩ 4)) = (some (.bool b69))) ∧
                            cond b69
                              (∃ n70 : Int, ((Go.World.cell? w57 (Addr.add ⟨(Array.size (World.heap w)), 0, none⟩ 2)) = (some (.int .i64 n70))) ∧
                                j68 (decide (n70 > (4294967295 : Int))) w57)
                              (j68 false w57))))
                    (fun j71 =>
                     ∃ b72 : Bool, ((Go.World.cell? (stRow (World.alloc w1 (.cells #[(.int .i64 (0 : Int)), (.int .u8 (0 : Int)), (.int .u8 (0 : Int)), (.bool false), (.bool false), (.bool false), (.bool false), (.bool false), (.bool false)] 41)) ⟨(Array.size (World.heap w1)), 0, none⟩ #[(.int .i64 n2), (.int .u8 n3), (.int .u8 n4), (.bool b5), (.bool b6), (.bool b7), (.bool b8), (.bool b9), (.bool b10)]) (Addr.add ⟨(Array.size (World.heap w1)), 0, none⟩ 3)) = (some (.bool b72))) ∧
                      cond b72
                        (∃ n73 : Int, ((Go.World.cell? (stRow (World.alloc w1 (.cells #[(.int .i64 (0 : Int)), (.int .u8 (0 : Int)), (.int .u8 (0 : Int)), (.bool false), (.bool false), (.bool false), (.bool false), (.bool false), (.bool false)] 41)) ⟨(Array.size (World.heap w1)), 0, none⟩ #[(.int .i64 n2), (.int .u8 n3), (.int .u8 n4), (.bool b5), (.bool b6), (.bool b7), (.bool b8), (.bool b9), (.bool b10)]) (Addr.add ⟨(Array.size (World.heap w)), 0, none⟩ 1)) = (some (.int .i64 n73))) ∧
                          cond (decide (n73 < (0 : Int)))
                            (j71 true (stRow (World.alloc w1 (.cells #[(.int .i64 (0 : Int)), (.int .u8 (0 : Int)), (.int .u8 (0 : Int)), (.bool false), (.bool false), (.bool false), (.bool false), (.bool false), (.bool false)] 41)) ⟨(Array.size (World.heap w1)), 0, none⟩ #[(.int .i64 n2), (.int .u8 n3), (.int .u8 n4), (.bool b5), (.bool b6), (.bool b7), (.bool b8), (.bool b9), (.bool b10)]))
                            (∃ n74 : Int, ((Go.World.cell? (stRow (World.alloc w1 (.cells #[(.int .i64 (0 : Int)), (.int .u8 (0 : Int)), (.int .u8 (0 : Int)), (.bool false), (.bool false), (.bool false), (.bool false), (.bool false), (.bool false)] 41)) ⟨(Array.size (World.heap w1)), 0, none⟩ #[(.int .i64 n2), (.int .u8 n3), (.int .u8 n4), (.bool b5), (.bool b6), (.bool b7), (.bool b8), (.bool b9), (.bool b10)]) (Addr.add ⟨(Array.size (World.heap w)), 0, none⟩ 2)) = (some (.int .i64 n74))) ∧
                              j71 (decide (n74 < (0 : Int))) (stRow (World.alloc w1 (.cells #[(.int .i64 (0 : Int)), (.int .u8 (0 : Int)), (.int .u8 (0 : Int)), (.bool false), (.bool false), (.bool false), (.bool false), (.bool false), (.bool false)] 41)) ⟨(Array.size (World.heap w1)), 0, none⟩ #[(.int .i64 n2), (.int .u8 n3), (.int .u8 n4), (.bool b5), (.bool b6), (.bool b7), (.bool b8), (.bool b9), (.bool b10)])))
                        (j71 false (stRow (World.alloc w1 (.cells #[(.int .i64 (0 : Int)), (.int .u8 (0 : Int)), (.int .u8 (0 : Int)), (.bool false), (.bool false), (.bool false), (.bool false), (.bool false), (.bool false)] 41)) ⟨(Array.size (World.heap w1)), 0, none⟩ #[(.int .i64 n2), (.int .u8 n3), (.int .u8 n4), (.bool b5), (.bool b6), (.bool b7), (.bool b8), (.bool b9), (.bool b10)])))))

theorem cdb_Encode_wp (p0_0 : Int) (p0_1 : Int) (p0_2 : Int) (p0_3 : Value) (p0_4 : Int) (p0_5 : Int) (p0_6 : Int) (p0_7 : Bool) (w : World) (R : KV) (h : cdb_Encode_F p0_0 p0_1 p0_2 p0_3 p0_4 p0_5 p0_6 p0_7 w R) : Go.CW.Spec Try.prog 8 #[(.agg #[(.int .i64 p0_0), (.int .i64 p0_1), (.int .i64 p0_2), p0_3, (.int .u64 p0_4), (.int .u64 p0_5), (.int .i64 p0_6), (.bool p0_7)])] w R :=
  spec_of Try.func8 (by kernel_rfl) (show cdb_Encode_F p0_0 p0_1 p0_2 p0_3 p0_4 p0_5 p0_6 p0_7 w R = _ by kernel_rfl) h



/-- gemel/cdb.Decode -/
def cdb_Decode_F (p0 : Value) (w : World) (R : KV) : Prop :=
 ∃ v0 : Value, ((Go.World.cell? (World.alloc (World.alloc (World.alloc w (.cells (Value.cells p0) 24)) (.cells #[(.int .i64 (0 : Int)), (.int .i64 (0 : Int)), (.int .i64 (0 : Int)), (.slice none 0 0), (.int .u64 (0 : Int)), (.int .u64 (0 : Int)), (.int .i64 (0 : Int)), (.bool false)] 27)) (.cells #[(.int .i64 (0 : Int)), (.int .i64 (0 : Int)), (.int .i64 (0 : Int)), (.slice none 0 0), (.int .i64 (0 : Int))] 35)) ⟨(Array.size (World.heap w)), 0, none⟩) = (some v0)) ∧
  ∃ m1 : Nat, ((Go.CW.sliceLen v0) = (some m1)) ∧
   cond (decide (((m1 : Nat) : Int) < (16 : Int)))
     (Go.CW.Spec Try.prog 14 #[(.int .i64 (5 : Int)), (.int .i64 (8192 : Int))] (World.alloc (World.alloc (World.alloc w (.cells (Value.cells p0) 24)) (.cells #[(.int .i64 (0 : Int)), (.int .i64 (0 : Int)), (.int .i64 (0 : Int)), (.slice none 0 0), (.int .u64 (0 : Int)), (.int .u64 (0 : Int)), (.int .i64 (0 : Int)), (.bool false)] 27)) (.cells #[(.int .i64 (0 : Int)), (.int .i64 (0 : Int)), (.int .i64 (0 : Int)), (.slice none 0 0), (.int .i64 (0 : Int))] 35)) fun v2 w3 =>
       ∃ n4 : Int, ∃ n5 : Int, ∃ n6 : Int, ∃ v7 : Value, ∃ n8 : Int, ((v2 : Value) = (.agg #[(.int .i64 n4), (.int .i64 n5), (.int .i64 n6), v7, (.int .i64 n8)])) ∧
            (StRow w3 ⟨(Array.size (World.heap (World.alloc w (.cells (Value.cells p0) 24)))), 0, none⟩ #[(.int .i64 (0 : Int)), (.int .i64 (0 : Int)), (.int .i64 (0 : Int)), (.slice none 0 0), (.int .u64 (0 : Int)), (.int .u64 (0 : Int)), (.int .i64 (0 : Int)), (.bool false)]) ∧
            (StRow (stRow w3 ⟨(Array.size (World.heap (World.alloc w (.cells (Value.cells p0) 24)))), 0, none⟩ #[(.int .i64 (0 : Int)), (.int .i64 (0 : Int)), (.int .i64 (0 : Int)), (.slice none 0 0), (.int .u64 (0 : Int)), (.int .u64 (0 : Int)), (.int .i64 (0 : Int)), (.bool false)]) ⟨(Array.size (World.heap (World.alloc (World.alloc w (.cells (Value.cells p0) 24)) (.cells #[(.int .i64 (0 : Int)), (.int .i64 (0 : Int)), (.int .i64 (0 : Int)), (.slice none 0 0), (.int .u64 (0 : Int)), (.int .u64 (0 : Int)), (.int .i64 (0 : Int)), (.bool false)] 27)))), 0, none⟩ #[(.int .i64 n4), (.int .i64 n5), (.int .i64 n6), v7, (.int .i64 n8)]) ∧
            ∃ n9 : Int, ∃ n10 : Int, ∃ n11 : Int, ∃ v12 : Value, ∃ n13 : Int, ∃ n14 : Int, ∃ n15 : Int, ∃ b16 : Bool, (ldCells (stRow (stRow w3 ⟨(Array.size (World.heap (World.alloc w (.cells (Value.cells p0) 24)))), 0, none⟩ #[(.int .i64 (0 : Int)), (.int .i64 (0 : Int)), (.int .i64 (0 : Int)), (.slice none 0 0), (.int .u64 (0 : Int)), (.int .u64 (0 : Int)), (.int .i64 (0 : Int)), (.bool false)]) ⟨(Array.size (World.heap (World.alloc (World.alloc w (.cells (Value.cells p0) 24)) (.cells #[(.int .i64 (0 : Int)), (.int .i64 (0 : Int)), (.int .i64 (0 : Int)), (.slice none 0 0), (.int .u64 (0 : Int)), (.int .u64 (0 : Int)), (.int .i64 (0 : Int)), (.bool false)] 27)))), 0, none⟩ #[(.int .i64 n4), (.int .i64 n5), (.int .i64 n6), v7, (.int .i64 n8)]) ⟨(Array.size (World.heap (World.alloc w (.cells (Value.cells p0) 24)))), 0, none⟩ 8 #[(.int .i64 n9), (.int .i64 n10), (.int .i64 n11), v12, (.int .u64 n13), (.int .u64 n14), (.int .i64 n15), (.bool b16)]) ∧
                    ∃ n17 : Int, ∃ n18 : Int, ∃ n19 : Int, ∃ v20 : Value, ∃ n21 : Int, (ldCells (stRow (stRow w3 ⟨(Array.size (World.heap (World.alloc w (.cells (Value.cells p0) 24)))), 0, none⟩ #[(.int .i64 (0 : Int)), (.int .i64 (0 : Int)), (.int .i64 (0 : Int)), (.slice none 0 0), (.int .u64 (0 : Int)), (.int .u64 (0 : Int)), (.int .i64 (0 : Int)), (.bool false)]) ⟨(Array.size (World.heap (World.alloc (World.alloc w (.cells (Value.cells p0) 24)) (.cells #[(.int .i64 (0 : Int)), (.int .i64 (0 : Int)), (.int .i64 (0 : Int)), (.slice none 0 0), (.int .u64 (0 : Int)), (.int .u64 (0 : Int)), (.int .i64 (0 : Int)), (.bool false)] 27)))), 0, none⟩ #[(.int .i64 n4), (.int .i64 n5), (.int .i64 n6), v7, (.int .i64 n8)]) ⟨(Array.size (World.heap (World.alloc (World.alloc w (.cells (Value.cells p0) 24)) (.cells #[(.int .i64 (0 : Int)), (.int .i64 (0 : Int)), (.int .i64 (0 : Int)), (.slice none 0 0), (.int .u64 (0 : Int)), (.int .u64 (0 : Int)), (.int .i64 (0 : Int)), (.bool false)] 27)))), 0, none⟩ 5 #[(.int .i64 n17), (.int .i64 n18), (.int .i64 n19), v20, (.int .i64 n21)]) ∧
                         R (.tuple #[(.agg #[(.int .i64 n9), (.int .i64 n10), (.int .i64 n11), v12, (.int .u64 n13), (.int .u64 n14), (.int .i64 n15), (.bool b16)]), (.agg #[(.int .i64 n17), (.int .i64 n18), (.int .i64 n19), v20, (.int .i64 n21)]), (.bool false)]) (stRow (stRow w3 ⟨(Array.size (World.heap (World.alloc w (.cells (Value.cells p0) 24)))), 0, none⟩ #[(.int .i64 (0 : Int)), (.int .i64 (0 : Int)), (.int .i64 (0 : Int)), (.slice none 0 0), (.int .u64 (0 : Int)), (.int .u64 (0 : Int)), (.int .i64 (0 : Int)), (.bool false)]) ⟨(Array.size (World.heap (World.alloc (World.alloc w (.cells (Value.cells p0) 24)) (.cells #[(.int .i64 (0 : Int)), (.int .i64 (0 : Int)), (.int .i64 (0 : Int)), (.slice none 0 0), (.int .u64 (0 : Int)), (.int .u64 (0 : Int)), (.int .i64 (0 : Int)), (.bool false)] 27)))), 0, none⟩ #[(.int .i64 n4), (.int .i64 n5), (.int .i64 n6), v7, (.int .i64 n8)]))
     (Go.CW.Spec Try.prog 11 #[(.func (.func 15) #[] #[(.pointer (some ⟨(Array.size (World.heap w)), 0, none⟩))])] (World.alloc (World.alloc (World.alloc w (.cells (Value.cells p0) 24)) (.cells #[(.int .i64 (0 : Int)), (.int .i64 (0 : Int)), (.int .i64 (0 : Int)), (.slice none 0 0), (.int .u64 (0 : Int)), (.int .u64 (0 : Int)), (.int .i64 (0 : Int)), (.bool false)] 27)) (.cells #[(.int .i64 (0 : Int)), (.int .i64 (0 : Int)), (.int .i64 (0 : Int)), (.slice none 0 0), (.int .i64 (0 : Int))] 35)) fun v22 w23 =>
       ∃ n24 : Int, ∃ n25 : Int, ∃ n26 : Int, ∃ b27 : Bool, ∃ b28 : Bool, ∃ b29 : Bool, ∃ b30 : Bool, ∃ b31 : Bool, ∃ b32 : Bool, ∃ b33 : Bool, ((v22 : Value) = (.tuple #[(.agg #[(.int .i64 n24), (.int .u8 n25), (.int .u8 n26), (.bool b27), (.bool b28), (.bool b29), (.bool b30), (.bool b31), (.bool b32)]), (.bool b33)])) ∧
                 (StRow (World.alloc w23 (.cells #[(.int .i64 (0 : Int)), (.int .u8 (0 : Int)), (.int .u8 (0 : Int)), (.bool false), (.bool false), (.bool false), (.bool false), (.bool false), (.bool false)] 41)) ⟨(Array.size (World.heap w23)), 0, none⟩ #[(.int .i64 n24), (.int .u8 n25), (.int .u8 n26), (.bool b27), (.bool b28), (.bool b29), (.bool b30), (.bool b31), (.bool b32)]) ∧
                 cond (!b33)
                   (Go.CW.Spec Try.prog 14 #[(.int .i64 (5 : Int)), (.int .i64 (8192 : Int))] (stRow (World.alloc w23 (.cells #[(.int .i64 (0 : Int)), (.int .u8 (0 : Int)), (.int .u8 (0 : Int)), (.bool false), (.bool false), (.bool false), (.bool false), (.bool false), (.bool false)] 41)) ⟨(Array.size (World.heap w23)), 0, none⟩ #[(.int .i64 n24), (.int .u8 n25), (.int .u8 n26), (.bool b27), (.bool b28), (.bool b29), (.bool b30), (.bool b31), (.bool b32)]) fun v34 w35 =>
                     ∃ n36 : Int, ∃ n37 : Int, ∃ n38 : Int, ∃ v39 : Value, ∃ n40 : Int, ((v34 : Value) = (.agg #[(.int .i64 n36), (.int .i64 n37), (.int .i64 n38), v39, (.int .i64 n40)])) ∧
                          (StRow w35 ⟨(Array.size (World.heap (World.alloc w (.cells (Value.cells p0) 24)))), 0, none⟩ #[(.int .i64 (0 : Int)), (.int .i64 (0 : Int)), (.int .i64 (0 : Int)), (.slice none 0 0), (.int .u64 (0 : Int)), (.int .u64 (0 : Int)), (.int .i64 (0 : Int)), (.bool false)]) ∧
                          (StRow (stRow w35 ⟨(Array.size (World.heap (World.alloc w (.cells (Value.cells p0) 24)))), 0, none⟩ #[(.int .i64 (0 : Int)), (.int .i64 (0 : Int)), (.int .i64 (0 : Int)), (.slice none 0 0), (.int .u64 (0 : Int)), (.int .u64 (0 : Int)), (.int .i64 (0 : Int)), (.bool false)]) ⟨(Array.size (World.heap (World.alloc (World.alloc w (.cells (Value.cells p0) 24)) (.cells #[(.int .i64 (0 : Int)), (.int .i64 (0 : Int)), (.int .i64 (0 : Int)), (.slice none 0 0), (.int .u64 (0 : Int)), (.int .u64 (0 : Int)), (.int .i64 (0 : Int)), (.bool false)] 27)))), 0, none⟩ #[(.int .i64 n36), (.int .i64 n37), (.int .i64 n38), v39, (.int .i64 n40)]) ∧
                          ∃ n41 : Int, ∃ n42 : Int, ∃ n43 : Int, ∃ v44 : Value, ∃ n45 : Int, ∃ n46 : Int, ∃ n47 : Int, ∃ b48 : Bool, (ldCells (stRow (stRow w35 ⟨(Array.size (World.heap (World.alloc w (.cells (Value.cells p0) 24)))), 0, none⟩ #[(.int .i64 (0 : Int)), (.int .i64 (0 : Int)), (.int .i64 (0 : Int)), (.slice none 0 0), (.int .u64 (0 : Int)), (.int .u64 (0 : Int)), (.int .i64 (0 : Int)), (.bool false)]) ⟨(Array.size (World.heap (World.alloc (World.alloc w (.cells (Value.cells p0) 24)) (.cells #[(.int .i64 (0 : Int)), (.int .i64 (0 : Int)), (.int .i64 (0 : Int)), (.slice none 0 0), (.int .u64 (0 : Int)), (.int .u64 (0 : Int)), (.int .i64 (0 : Int)), (.bool false)] 27)))), 0, none⟩ #[(.int .i64 n36), (.int .i64 n37), (.int .i64 n38), v39, (.int .i64 n40)]) ⟨(Array.size (World.heap (World.alloc w (.cells (Value.cells p0) 24)))), 0, none⟩ 8 #[(.int .i64 n41), (.int .i64 n42), (.int .i64 n43), v44, (.int .u64 n45), (.int .u64 n46), (.int .i64 n47), (.bool b48)]) ∧
                                  ∃ n49 : Int, ∃ n50 : Int, ∃ n51 : Int, ∃ v52 : Value, ∃ n53 : Int, (ldCells (stRow (stRow w35 ⟨(Array.size (World.heap (World.alloc w (.cells (Value.cells p0) 24)))), 0, none⟩ #[(.int .i64 (0 : Int)), (.int .i64 (0 : Int)), (.int .i64 (0 : Int)), (.slice none 0 0), (.int .u64 (0 : Int)), (.int .u64 (0 : Int)), (.int .i64 (0 : Int)), (.bool false)]) ⟨(Array.size (World.heap (World.alloc (World.alloc w (.cells (Value.cells p0) 24)) (.cells #[(.int .i64 (0 : Int)), (.int .i64 (0 : Int)), (.int .i64 (0 : Int)), (.slice none 0 0), (.int .u64 (0 : Int)), (.int .u64 (0 : Int)), (.int .i64 (0 : Int)), (.bool false)] 27)))), 0, none⟩ #[(.int .i64 n36), (.int .i64 n37), (.int .i64 n38), v39, (.int .i64 n40)]) ⟨(Array.size (World.heap (World.alloc (World.alloc w (.cells (Value.cells p0) 24)) (.cells #[(.int .i64 (0 : Int)), (.int .i64 (0 : Int)), (.int .i64 (0 : Int)), (.slice none 0 0), (.int .u64 (0 : Int)), (.int .u64 (0 : Int)), (.int .i64 (0 : Int)), (.bool false)] 27)))), 0, none⟩ 5 #[(.int .i64 n49), (.int .i64 n50), (.int .i64 n51), v52, (.int .i64 n53)]) ∧
                                       R (.tuple #[(.agg #[(.int .i64 n41), (.int .i64 n42), (.int .i64 n43), v44, (.int .u64 n45), (.int .u64 n46), (.int .i64 n47), (.bool b48)]), (.agg #[(.int .i64 n49), (.int .i64 n50), (.int .i64 n51), v52, (.int .i64 n53)]), (.bool false)]) (stRow (stRow w35 ⟨(Array.size (World.heap (World.alloc w (.cells (Value.cells p0) 24)))), 0, none⟩ #[(.int .i64 (0 : Int)), (.int .i64 (0 : Int)), (.int .i64 (0 : Int)), (.slice none 0 0), (.int .u64 (0 : Int)), (.int .u64 (0 : Int)), (.int .i64 (0 : Int)), (.bool false)]) ⟨(Array.size (World.heap (World.alloc (World.alloc w (.cells (Value.cells p0) 24)) (.cells #[(.int .i64 (0 : Int)), (.int .i64 (0 : Int)), (.int .i64 (0 : Int)), (.slice none 0 0), (.int .u64 (0 : Int)), (.int .u64 (0 : Int)), (.int .i64 (0 : Int)), (.bool false)] 27)))), 0, none⟩ #[(.int .i64 n36), (.int .i64 n37), (.int .i64 n38), v39, (.int .i64 n40)]))
                   (∃ n54 : Int, ((Go.World.cell? (stRow (World.alloc w23 (.cells #[(.int .i64 (0 : Int)), (.int .u8 (0 : Int)), (.int .u8 (0 : Int)), (.bool false), (.bool false), (.bool false), (.bool false), (.bool false), (.bool false)] 41)) ⟨(Array.size (World.heap w23)), 0, none⟩ #[(.int .i64 n24), (.int .u8 n25), (.int .u8 n26), (.bool b27), (.bool b28), (.bool b29), (.bool b30), (.bool b31), (.bool b32)]) (Addr.add ⟨(Array.size (World.heap w23)), 0, none⟩ 0)) = (some (.int .i64 n54))) ∧
                     (StRow (World.alloc (stRow (World.alloc w23 (.cells #[(.int .i64 (0 : Int)), (.int .u8 (0 : Int)), (.int .u8 (0 : Int)), (.bool false), (.bool false), (.bool false), (.bool false), (.bool false), (.bool false)] 41)) ⟨(Array.size (World.heap w23)), 0, none⟩ #[(.int .i64 n24), (.int .u8 n25), (.int .u8 n26), (.bool b27), (.bool b28), (.bool b29), (.bool b30), (.bool b31), (.bool b32)]) (.cells #[(.int .i64 (0 : Int)), (.int .i64 (0 : Int)), (.int .i64 (0 : Int)), (.slice none 0 0), (.int .u64 (0 : Int)), (.int .u64 (0 : Int)), (.int .i64 (0 : Int)), (.bool false)] 27)) ⟨(Array.size (World.heap (stRow (World.alloc w23 (.cells #[(.int .i64 (0 : Int)), (.int .u8 (0 : Int)), (.int .u8 (0 : Int)), (.bool false), (.bool false), (.bool false), (.bool false), (.bool false), (.bool false)] 41)) ⟨(Array.size (World.heap w23)), 0, none⟩ #[(.int .i64 n24), (.int .u8 n25), (.int .u8 n26), (.bool b27), (.bool b28), (.bool b29), (.bool b30), (.bool b31), (.bool b32)]))), 0, none⟩ #[(.int .i64 n54), (.int .i64 (0 : Int)), (.int .i64 (0 : Int)), (.slice none 0 0), (.int .u64 (0 : Int)), (.int .u64 (0 : Int)), (.int .i64 (0 : Int)), (.bool false)]) ∧
                     ∃ v55 : Value, ((Go.World.cell? (stRow (World.alloc (stRow (World.alloc w23 (.cells #[(.int .i64 (0 : Int)), (.int .u8 (0 : Int)), (.int .u8 (0 : Int)), (.bool false), (.bool false), (.bool false), (.bool false), (.bool false), (.bool false)] 41)) ⟨(Array.size (World.heap w23)), 0, none⟩ #[(.int .i64 n24), (.int .u8 n25), (.int .u8 n26), (.bool b27), (.bool b28), (.bool b29), (.bool b30), (.bool b31), (.bool b32)]) (.cells #[(.int .i64 (0 : Int)), (.int .i64 (0 : Int)), (.int .i64 (0 : Int)), (.slice none 0 0), (.int .u64 (0 : Int)), (.int .u64 (0 : Int)), (.int .i64 (0 : Int)), (.bool false)] 27)) ⟨(Array.size (World.heap (stRow (World.alloc w23 (.cells #[(.int .i64 (0 : Int)), (.int .u8 (0 : Int)), (.int .u8 (0 : Int)), (.bool false), (.bool false), (.bool false), (.bool false), (.bool false), (.bool false)] 41)) ⟨(Array.size (World.heap w23)), 0, none⟩ #[(.int .i64 n24), (.int .u8 n25), (.int .u8 n26), (.bool b27), (.bool b28), (.bool b29), (.bool b30), (.bool b31), (.bool b32)]))), 0, none⟩ #[(.int .i64 n54), (.int .i64 (0 : Int)), (.int .i64 (0 : Int)), (.slice none 0 0), (.int .u64 (0 : Int)), (.int .u64 (0 : Int)), (.int .i64 (0 : Int)), (.bool false)]) ⟨(Array.size (World.heap w)), 0, none⟩) = (some v55)) ∧
                      ∃ v56 : Value, ((Go.CW.subSlice v55 1 none (some (.int .i64 (16 : Int))) none) = (some v56)) ∧
                       ∃ m57 : Nat, ((Go.CW.sliceLen v56) = (some m57)) ∧
                        LoopP [.bool, .int .i64]
                          (fun j58 => fun (b59 : Bool) => fun (n60 : Int) => fun (w61 : World) =>
                           cond (decide (n60 < ((m57 : Nat) : Int)))
                             (JoinP [.bool]
                                (fun (b62 : Bool) => fun (w63 : World) =>
                                 j58 b62 (IntKind.wrap .i64 (n60 + (1 : Int))) w63)
                                (fun j64 =>
                                 ∃ a65 : Addr, ((Go.CW.sliceAt v56 n60 1) = (some a65)) ∧
                                  ∃ n66 : Int, ((Go.World.cell? w61 a65) = (some (.int .u8 n66))) ∧
                                   ∃ n67 : Int, ∃ n68 : Int, ∃ n69 : Int, ∃ b70 : Bool, ∃ b71 : Bool, ∃ b72 : Bool, ∃ b73 : Bool, ∃ b74 : Bool, ∃ b75 : Bool, (ldCells w61 ⟨(Array.size (World.heap w23)), 0, none⟩ 9 #[(.int .i64 n67), (.int .u8 n68), (.int .u8 n69), (.bool b70), (.bool b71), (.bool b72), (.bool b73), (.bool b74), (.bool b75)]) ∧
                                            Go.CW.Spec Try.prog 16 #[(.agg #[(.int .i64 n67), (.int .u8 n68), (.int .u8 n69), (.bool b70), (.bool b71), (.bool b72), (.bool b73), (.bool b74), (.bool b75)]), (.int .i64 n60)] w61 fun v76 w77 =>
                                             ∃ b78 : Bool, ((v76 : Value) = (.bool b78)) ∧
                                              cond b78
                                                (j64 b59 w77)
                                                (JoinP [.bool]
                                                   (fun (b79 : Bool) => fun (w80 : World) =>
                                                    cond b79
                                                      ((St1 w80 (Addr.add ⟨(Array.size (World.heap (stRow (World.alloc w23 (.cells #[(.int .i64 (0 : Int)), (.int .u8 (0 : Int)), (.int .u8 (0 : Int)), (.bool false), (.bool false), (.bool false), (.bool false), (.bool false), (.bool false)] 41)) ⟨(Array.size (World.heap w23)), 0, none⟩ #[(.int .i64 n24), (.int .u8 n25), (.int .u8 n26), (.bool b27), (.bool b28), (.bool b29), (.bool b30), (.bool b31), (.bool b32)]))), 0, none⟩ 7)) ∧
                                                       j64 b59 (World.setCell w80 (Addr.add ⟨(Array.size (World.heap (stRow (World.alloc w23 (.cells #[(.int .i64 (0 : Int)), (.int .u8 (0 : Int)), (.int .u8 (0 : Int)), (.bool false), (.bool false), (.bool false), (.bool false), (.bool false), (.bool false)] 41)) ⟨(Array.size (World.heap w23)), 0, none⟩ #[(.int .i64 n24), (.int .u8 n25), (.int .u8 n26), (.bool b27), (.bool b28), (.bool b29), (.bool b30), (.bool b31), (.bool b32)]))), 0, none⟩ 7) (.bool true)))
                                                      (cond b59
                                                         (j64 true w80)
                                                         (j64 (n66 != (0 : Int)) w80)))
                                                   (fun j81 =>
                                                    cond (n60 == (1 : Int))
                                                      (∃ b82 : Bool, ((Go.World.cell? w77 (Addr.add ⟨(Array.size (World.heap w23)), 0, none⟩ 6)) = (some (.bool b82))) ∧
                                                        cond b82
                                                          (j81 (n66 == (8 : Int)) w77)
                                                          (j81 false w77))
                                                      (j81 false w77)))))
                             (JoinP [.bool]
                                (fun (b83 : Bool) => fun (w84 : World) =>
                                 JoinP []
                                   (fun (w85 : World) =>
                                    cond b83
                                      (Go.CW.Spec Try.prog 14 #[(.int .i64 (5 : Int)), (.int .i64 (9216 : Int))] w85 fun v86 w87 =>
                                        ∃ n88 : Int, ∃ n89 : Int, ∃ n90 : Int, ∃ v91 : Value, ∃ n92 : Int, ((v86 : Value) = (.agg #[(.int .i64 n88), (.int .i64 n89), (.int .i64 n90), v91, (.int .i64 n92)])) ∧
                                             (StRow w87 ⟨(Array.size (World.heap (World.alloc w (.cells (Value.cells p0) 24)))), 0, none⟩ #[(.int .i64 (0 : Int)), (.int .i64 (0 : Int)), (.int .i64 (0 : Int)), (.slice none 0 0), (.int .u64 (0 : Int)), (.int .u64 (0 : Int)), (.int .i64 (0 : Int)), (.bool false)]) ∧
                                             (StRow (stRow w87 ⟨(Array.size (World.heap (World.alloc w (.cells (Value.cells p0) 24)))), 0, none⟩ #[(.int .i64 (0 : Int)), (.int .i64 (0 : Int)), (.int .i64 (0 : Int)), (.slice none 0 0), (.int .u64 (0 : Int)), (.int .u64 (0 : Int)), (.int .i64 (0 : Int)), (.bool false)]) ⟨(Array.size (World.heap (World.alloc (World.alloc w (.cells (Value.cells p0) 24)) (.cells #[(.int .i64 (0 : Int)), (.int .i64 (0 : Int)), (.int .i64 (0 : Int)), (.slice none 0 0), (.int .u64 (0 : Int)), (.int .u64 (0 : Int)), (.int .i64 (0 : Int)), (.bool false)] 27)))), 0, none⟩ #[(.int .i64 n88), (.int .i64 n89), (.int .i64 n90), v91, (.int .i64 n92)]) ∧
                                             ∃ n93 : Int, ∃ n94 : Int, ∃ n95 : Int, ∃ v96 : Value, ∃ n97 : Int, ∃ n98 : Int, ∃ n99 : Int, ∃ b100 : Bool, (ldCells (stRow (stRow w87 ⟨(Array.size (World.heap (World.alloc w (.cells (Value.cells p0) 24)))), 0, none⟩ #[(.int .i64 (0 : Int)), (.int .i64 (0 : Int)), (.int .i64 (0 : Int)), (.slice none 0 0), (.int .u64 (0 : Int)), (.int .u64 (0 : Int)), (.int .i64 (0 : Int)), (.bool false)]) ⟨(Array.size (World.heap (World.alloc (World.alloc w (.cells (Value.cells p0) 24)) (.cells #[(.int .i64 (0 : Int)), (.int .i64 (0 : Int)), (.int .i64 (0 : Int)), (.slice none 0 0), (.int .u64 (0 : Int)), (.int .u64 (0 : Int)), (.int .i64 (0 : Int)), (.bool false)] 27)))), 0, none⟩ #[(.int .i64 n88), (.int .i64 n89), (.int .i64 n90), v91, (.int .i64 n92)]) ⟨(Array.size (World.heap (World.alloc w (.cells (Value.cells p0) 24)))), 0, none⟩ 8 #[(.int .i64 n93), (.int .i64 n94), (.int .i64 n95), v96, (.int .u64 n97), (.int .u64 n98), (.int .i64 n99), (.bool b100)]) ∧
                                                     ∃ n101 : Int, ∃ n102 : Int, ∃ n103 : Int, ∃ v104 : Value, ∃ n105 : Int, (ldCells (stRow (stRow w87 ⟨(Array.size (World.heap (World.alloc w (.cells (Value.cells p0) 24)))), 0, none⟩ #[(.int .i64 (0 : Int)), (.int .i64 (0 : Int)), (.int .i64 (0 : Int)), (.slice none 0 0), (.int .u64 (0 : Int)), (.int .u64 (0 : Int)), (.int .i64 (0 : Int)), (.bool false)]) ⟨(Array.size (World.heap (World.alloc (World.alloc w (.cells (Value.cells p0) 24)) (.cells #[(.int .i64 (0 : Int)), (.int .i64 (0 : Int)), (.int .i64 (0 : Int)), (.slice none 0 0), (.int .u64 (0 : Int)), (.int .u64 (0 : Int)), (.int .i64 (0 : Int)), (.bool false)] 27)))), 0, none⟩ #[(.int .i64 n88), (.int .i64 n89), (.int .i64 n90), v91, (.int .i64 n92)]) ⟨(Array.size (World.heap (World.alloc (World.alloc w (.cells (Value.cells p0) 24)) (.cells #[(.int .i64 (0 : Int)), (.int .i64 (0 : Int)), (.int .i64 (0 : Int)), (.slice none 0 0), (.int .u64 (0 : Int)), (.int .u64 (0 : Int)), (.int .i64 (0 : Int)), (.bool false)] 27)))), 0, none⟩ 5 #[(.int .i64 n101), (.int .i64 n102), (.int .i64 n103), v104, (.int .i64 n105)]) ∧
                                                          R (.tuple #[(.agg #[(.int .i64 n93), (.int .i64 n94), (.int .i64 n95), v96, (.int .u64 n97), (.int .u64 n98), (.int .i64 n99), (.bool b100)]), (.agg #[(.int .i64 n101), (.int .i64 n102), (.int .i64 n103), v104, (.int .i64 n105)]), (.bool false)]) (stRow (stRow w87 ⟨(Array.size (World.heap (World.alloc w (.cells (Value.cells p0) 24)))), 0, none⟩ #[(.int .i64 (0 : Int)), (.int .i64 (0 : Int)), (.int .i64 (0 : Int)), (.slice none 0 0), (.int .u64 (0 : Int)), (.int .u64 (0 : Int)), (.int .i64 (0 : Int)), (.bool false)]) ⟨(Array.size (World.heap (World.alloc (World.alloc w (.cells (Value.cells p0) 24)) (.cells #[(.int .i64 (0 : Int)), (.int .i64 (0 : Int)), (.int .i64 (0 : Int)), (.slice none 0 0), (.int .u64 (0 : Int)), (.int .u64 (0 : Int)), (.int .i64 (0 : Int)), (.bool false)] 27)))), 0, none⟩ #[(.int .i64 n88), (.int .i64 n89), (.int .i64 n90), v91, (.int .i64 n92)]))
                                      (∃ n106 : Int, ∃ n107 : Int, ∃ n108 : Int, ∃ v109 : Value, ∃ n110 : Int, ∃ n111 : Int, ∃ n112 : Int, ∃ b113 : Bool, (ldCells w85 ⟨(Array.size (World.heap (stRow (World.alloc w23 (.cells #[(.int .i64 (0 : Int)), (.int .u8 (0 : Int)), (.int .u8 (0 : Int)), (.bool false), (.bool false), (.bool false), (.bool false), (.bool false), (.bool false)] 41)) ⟨(Array.size (World.heap w23)), 0, none⟩ #[(.int .i64 n24), (.int .u8 n25), (.int .u8 n26), (.bool b27), (.bool b28), (.bool b29), (.bool b30), (.bool b31), (.bool b32)]))), 0, none⟩ 8 #[(.int .i64 n106), (.int .i64 n107), (.int .i64 n108), v109, (.int .u64 n110), (.int .u64 n111), (.int .i64 n112), (.bool b113)]) ∧
                                               (StRow w85 ⟨(Array.size (World.heap (World.alloc w (.cells (Value.cells p0) 24)))), 0, none⟩ #[(.int .i64 n106), (.int .i64 n107), (.int .i64 n108), v109, (.int .u64 n110), (.int .u64 n111), (.int .i64 n112), (.bool b113)]) ∧
                                               (StRow (stRow w85 ⟨(Array.size (World.heap (World.alloc w (.cells (Value.cells p0) 24)))), 0, none⟩ #[(.int .i64 n106), (.int .i64 n107), (.int .i64 n108), v109, (.int .u64 n110), (.int .u64 n111), (.int .i64 n112), (.bool b113)]) ⟨(Array.size (World.heap (World.alloc (World.alloc w (.cells (Value.cells p0) 24)) (.cells #[(.int .i64 (0 : Int)), (.int .i64 (0 : Int)), (.int .i64 (0 : Int)), (.slice none 0 0), (.int .u64 (0 : Int)), (.int .u64 (0 : Int)), (.int .i64 (0 : Int)), (.bool false)] 27)))), 0, none⟩ #[(.int .i64 (0 : Int)), (.int .i64 (0 : Int)), (.int .i64 (0 : Int)), (.slice none 0 0), (.int .i64 (0 : Int))]) ∧
                                               ∃ n114 : Int, ∃ n115 : Int, ∃ n116 : Int, ∃ v117 : Value, ∃ n118 : Int, ∃ n119 : Int, ∃ n120 : Int, ∃ b121 : Bool, (ldCells (stRow (stRow w85 ⟨(Array.size (World.heap (World.alloc w (.cells (Value.cells p0) 24)))), 0, none⟩ #[(.int .i64 n106), (.int .i64 n107), (.int .i64 n108), v109, (.int .u64 n110), (.int .u64 n111), (.int .i64 n112), (.bool b113)]) ⟨(Array.size (World.heap (World.alloc (World.alloc w (.cells (Value.cells p0) 24)) (.cells #[(.int .i64 (0 : Int)), (.int .i64 (0 : Int)), (.int .i64 (0 : Int)), (.slice none 0 0), (.int .u64 (0 : Int)), (.int .u64 (0 : Int)), (.int .i64 (0 : Int)), (.bool false)] 27)))), 0, none⟩ #[(.int .i64 (0 : Int)), (.int .i64 (0 : Int)), (.int .i64 (0 : Int)), (.slice none 0 0), (.int .i64 (0 : Int))]) ⟨(Array.size (World.heap (World.alloc w (.cells (Value.cells p0) 24)))), 0, none⟩ 8 #[(.int .i64 n114), (.int .i64 n115), (.int .i64 n116), v117, (.int .u64 n118), (.int .u64 n119), (.int .i64 n120), (.bool b121)]) ∧
                                                       ∃ n122 : Int, ∃ n123 : Int, ∃ n124 : Int, ∃ v125 : Value, ∃ n126 : Int, (ldCells (stRow (stRow w85 ⟨(Array.size (World.heap (World.alloc w (.cells (Value.cells p0) 24)))), 0, none⟩ #[(.int .i64 n106), (.int .i64 n107), (.int .i64 n108), v109, (.int .u64 n110), (.int .u64 n111), (.int .i64 n112), (.bool b113)]) ⟨(Array.size (World.heap (World.alloc (World.alloc w (.cells (Value.cells p0) 24)) (.cells #[(.int .i64 (0 : Int)), (.int .i64 (0 : Int)), (.int .i64 (0 : Int)), (.slice none 0 0), (.int .u64 (0 : Int)), (.int .u64 (0 : Int)), (.int .i64 (0 : Int)), (.bool false)] 27)))), 0, none⟩ #[(.int .i64 (0 : Int)), (.int .i64 (0 : Int)), (.int .i64 (0 : Int)), (.slice none 0 0), (.int .i64 (0 : Int))]) ⟨(Array.size (World.heap (World.alloc (World.alloc w (.cells (Value.cells p0) 24)) (.cells #[(.int .i64 (0 : Int)), (.int .i64 (0 : Int)), (.int .i64 (0 : Int)), (.slice none 0 0), (.int .u64 (0 : Int)), (.int .u64 (0 : Int)), (.int .i64 (0 : Int)), (.bool false)] 27)))), 0, none⟩ 5 #[(.int .i64 n122), (.int .i64 n123), (.int .i64 n124), v125, (.int .i64 n126)]) ∧
                                                            R (.tuple #[(.agg #[(.int .i64 n114), (.int .i64 n115), (.int .i64 n116), v117, (.int .u64 n118), (.int .u64 n119), (.int .i64 n120), (.bool b121)]), (.agg #[(.int .i64 n122), (.int .i64 n123), (.int .i64 n124), v125, (.int .i64 n126)]), (.bool true)]) (stRow (stRow w85 ⟨(Array.size (World.heap (World.alloc w (.cells (Value.cells p0) 24)))), 0, none⟩ #[(.int .i64 n106), (.int .i64 n107), (.int .i64 n108), v109, (.int .u64 n110), (.int .u64 n111), (.int .i64 n112), (.bool b113)]) ⟨(Array.size (World.heap (World.alloc (World.alloc w (.cells (Value.cells p0) 24)) (.cells #[(.int .i64 (0 : Int)), (.int .i64 (0 : Int)), (.int .i64 (0 : Int)), (.slice none 0 0), (.int .u64 (0 : Int)), (.int .u64 (0 : Int)), (.int .i64 (0 : Int)), (.bool false)] 27)))), 0, none⟩ #[(.int .i64 (0 : Int)), (.int .i64 (0 : Int)), (.int .i64 (0 : Int)), (.slice none 0 0), (.int .i64 (0 : Int))])))
                                   (fun j127 =>
                                    ∃ b128 : Bool, ((Go.World.cell? w84 (Addr.add ⟨(Array.size (World.heap w23)), 0, none⟩ 4)) = (some (.bool b128))) ∧
                                     cond b128
                                       (∃ v129 : Value, ((Go.World.cell? w84 ⟨(Array.size (World.heap w)), 0, none⟩) = (some v129)) ∧
                                         Go.CW.Spec Try.prog 17 #[v129, (.int .i64 (10 : Int)), (.int .i64 (4 : Int))] w84 fun v130 w131 =>
                                          ∃ n132 : Int, ∃ b133 : Bool, ((v130 : Value) = (.tuple #[(.int .u64 n132), (.bool b133)])) ∧
                                            (St1 w131 (Addr.add ⟨(Array.size (World.heap (stRow (World.alloc w23 (.cells #[(.int .i64 (0 : Int)), (.int .u8 (0 : Int)), (.int .u8 (0 : Int)), (.bool false), (.bool false), (.bool false), (.bool false), (.bool false), (.bool false)] 41)) ⟨(Array.size (World.heap w23)), 0, none⟩ #[(.int .i64 n24), (.int .u8 n25), (.int .u8 n26), (.bool b27), (.bool b28), (.bool b29), (.bool b30), (.bool b31), (.bool b32)]))), 0, none⟩ 2)) ∧
                                            j127 (World.setCell w131 (Addr.add ⟨(Array.size (World.heap (stRow (World.alloc w23 (.cells #[(.int .i64 (0 : Int)), (.int .u8 (0 : Int)), (.int .u8 (0 : Int)), (.bool false), (.bool false), (.bool false), (.bool false), (.bool false), (.bool false)] 41)) ⟨(Array.size (World.heap w23)), 0, none⟩ #[(.int .i64 n24), (.int .u8 n25), (.int .u8 n26), (.bool b27), (.bool b28), (.bool b29), (.bool b30), (.bool b31), (.bool b32)]))), 0, none⟩ 2) (.int .i64 (IntKind.wrap .i64 n132))))
                                       (∃ b134 : Bool, ((Go.World.cell? w84 (Addr.add ⟨(Array.size (World.heap w23)), 0, none⟩ 5)) = (some (.bool b134))) ∧
                                         cond b134
                                           (∃ v135 : Value, ((Go.World.cell? w84 ⟨(Array.size (World.heap w)), 0, none⟩) = (some v135)) ∧
                                             ∃ a136 : Addr, ((Go.CW.sliceAt v135 (13 : Int) 1) = (some a136)) ∧
                                              ∃ n137 : Int, ((Go.World.cell? w84 a136) = (some (.int .u8 n137))) ∧
                                               (St1 w84 (Addr.add ⟨(Array.size (World.heap (stRow (World.alloc w23 (.cells #[(.int .i64 (0 : Int)), (.int .u8 (0 : Int)), (.int .u8 (0 : Int)), (.bool false), (.bool false), (.bool false), (.bool false), (.bool false), (.bool false)] 41)) ⟨(Array.size (World.heap w23)), 0, none⟩ #[(.int .i64 n24), (.int .u8 n25), (.int .u8 n26), (.bool b27), (.bool b28), (.bool b29), (.bool b30), (.bool b31), (.bool b32)]))), 0, none⟩ 2)) ∧
                                               j127 (World.setCell w84 (Addr.add ⟨(Array.size (World.heap (stRow (World.alloc w23 (.cells #[(.int .i64 (0 : Int)), (.int .u8 (0 : Int)), (.int .u8 (0 : Int)), (.bool false), (.bool false), (.bool false), (.bool false), (.bool false), (.bool false)] 41)) ⟨(Array.size (World.heap w23)), 0, none⟩ #[(.int .i64 n24), (.int .u8 n25), (.int .u8 n26), (.bool b27), (.bool b28), (.bool b29), (.bool b30), (.bool b31), (.bool b32)]))), 0, none⟩ 2) (.int .i64 (IntKind.wrap .i64 n137))))
                                           (∃ b138 : Bool, ((Go.World.cell? w84 (Addr.add ⟨(Array.size (World.heap w23)), 0, none⟩ 7)) = (some (.bool b138))) ∧
                                             cond b138
                                               (∃ v139 : Value, ((Go.World.cell? w84 ⟨(Array.size (World.heap w)), 0, none⟩) = (some v139)) ∧
                                                 ∃ a140 : Addr, ((Go.CW.sliceAt v139 (2 : Int) 1) = (some a140)) ∧
                                                  ∃ n141 : Int, ((Go.World.cell? w84 a140) = (some (.int .u8 n141))) ∧
                                                   (St1 w84 (Addr.add ⟨(Array.size (World.heap (stRow (World.alloc w23 (.cells #[(.int .i64 (0 : Int)), (.int .u8 (0 : Int)), (.int .u8 (0 : Int)), (.bool false), (.bool false), (.bool false), (.bool false), (.bool false), (.bool false)] 41)) ⟨(Array.size (World.heap w23)), 0, none⟩ #[(.int .i64 n24), (.int .u8 n25), (.int .u8 n26), (.bool b27), (.bool b28), (.bool b29), (.bool b30), (.bool b31), (.bool b32)]))), 0, none⟩ 6)) ∧
                                                   j127 (World.setCell w84 (Addr.add ⟨(Array.size (World.heap (stRow (World.alloc w23 (.cells #[(.int .i64 (0 : Int)), (.int .u8 (0 : Int)), (.int .u8 (0 : Int)), (.bool false), (.bool false), (.bool false), (.bool false), (.bool false), (.bool false)] 41)) ⟨(Array.size (World.heap w23)), 0, none⟩ #[(.int .i64 n24), (.int .u8 n25), (.int .u8 n26), (.bool b27), (.bool b28), (.bool b29), (.bool b30), (.bool b31), (.bool b32)]))), 0, none⟩ 6) (.int .i64 (IntKind.wrap .i64 n141))))
                                               (j127 w84)))))
                                (fun j142 =>
                                 ∃ b143 : Bool, ((Go.World.cell? w61 (Addr.add ⟨(Array.size (World.heap w23)), 0, none⟩ 3)) = (some (.bool b143))) ∧
                                  cond b143
                                    (∃ v144 : Value, ((Go.World.cell? w61 ⟨(Array.size (World.heap w)), 0, none⟩) = (some v144)) ∧
                                      Go.CW.Spec Try.prog 17 #[v144, (.int .i64 (2 : Int)), (.int .i64 (8 : Int))] w61 fun v145 w146 =>
                                       ∃ n147 : Int, ∃ b148 : Bool, ((v145 : Value) = (.tuple #[(.int .u64 n147), (.bool b148)])) ∧
                                         JoinP [.bool]
                                           (fun (b149 : Bool) => fun (w150 : World) =>
                                            (St1 w150 (Addr.add ⟨(Array.size (World.heap (stRow (World.alloc w23 (.cells #[(.int .i64 (0 : Int)), (.int .u8 (0 : Int)), (.int .u8 (0 : Int)), (.bool false), (.bool false), (.bool false), (.bool false), (.bool false), (.bool false)] 41)) ⟨(Array.size (World.heap w23)), 0, none⟩ #[(.int .i64 n24), (.int .u8 n25), (.int .u8 n26), (.bool b27), (.bool b28), (.bool b29), (.bool b30), (.bool b31), (.bool b32)]))), 0, none⟩ 1)) ∧
                                            j142 b149 (World.setCell w150 (Addr.add ⟨(Array.size (World.heap (stRow (World.alloc w23 (.cells #[(.int .i64 (0 : Int)), (.int .u8 (0 : Int)), (.int .u8 (0 : Int)), (.bool false), (.bool false), (.bool false), (.bool false), (.bool false), (.bool false)] 41)) ⟨(Array.size (World.heap w23)), 0, none⟩ #[(.int .i64 n24), (.int .u8 n25), (.int .u8 n26), (.bool b27), (.bool b28), (.bool b29), (.bool b30), (.bool b31), (.bool b32)]))), 0, none⟩ 1) (.int .i64 (IntKind.wrap .i64 n147))))
                                           (fun j151 =>
                                            cond b59
                                              (j151 true w146)
                                              (j151 (decide (n147 > (4611686018427387904 : Int))) w146)))
                                    (j142 b59 w61))))
                          (fun s152 => s152 false (0 : Int) (stRow (World.alloc (stRow (World.alloc w23 (.cells #[(.int .i64 (0 : Int)), (.int .u8 (0 : Int)), (.int .u8 (0 : Int)), (.bool false), (.bool false), (.bool false), (.bool false), (.bool false), (.bool false)] 41)) ⟨(Array.size (World.heap w23)), 0, none⟩ #[(.int .i64 n24), (.int .u8 n25), (.int .u8 n26), (.bool b27), (.bool b28), (.bool b29), (.bool b30), (.bool b31), (.bool b32)]) (.cells #[(.int .i64 (0 : Int)), (.int .i64 (0 : Int)), (.int .i64 (0 : Int)), (.slice none 0 0), (.int .u64 (0 : Int)), (.int .u64 (0 : Int)), (.int .i64 (0 : Int)), (.bool false)] 27)) ⟨(Array.size (World.heap (stRow (World.alloc w23 (.cells #[(.int .i64 (0 : Int)), (.int .u8 (0 : Int)), (.int .u8 (0 : Int)), (.bool false), (.bool false), (.bool false), (.bool false), (.bool false), (.bool false)] 41)) ⟨(Array.size (World.heap w23)), 0, none⟩ #[(.int .i64 n24), (.int .u8 n25), (.int .u8 n26), (.bool b27), (.bool b28), (.bool b29), (.bool b30), (.bool b31), (.bool b32)]))), 0, none⟩ #[(.int .i64 n54), (.int .i64 (0 : Int)), (.int .i64 (0 : Int)), (.slice none 0 0), (.int .u64 (0 : Int)), (.int .u64 (0 : Int)), (.int .i64 (0 : Int)), (.bool false)]))))

theorem cdb_Decode_wp (p0 : Value) (w : World) (R : KV) (h : cdb_Decode_F p0 w R) : Go.CW.Spec Try.prog 9 #[p0] w R :=
  spec_of Try.func9 (by kernel_rfl) (show cdb_Decode_F p0 w R = _ by kernel_rfl) h



/-- gemel/cdb.run -/
def cdb_run_F (p0 : Int) (w : World) (R : KV) : Prop :=
 JoinP [.bool]
   (fun (b0 : Bool) => fun (w1 : World) =>
    cond b0
      (R (.int .i64 (0 : Int)) w1)
      (R (.int .i64 (IntKind.wrap .i64 (p0 * (8 : Int)))) w1))
   (fun j2 =>
    cond (decide (p0 < (0 : Int)))
      (j2 true w)
      (j2 (decide (p0 > (32 : Int))) w))

theorem cdb_run_wp (p0 : Int) (w : World) (R : KV) (h : cdb_run_F p0 w R) : Go.CW.Spec Try.prog 10 #[(.int .i64 p0)] w R :=
  spec_of Try.func10 (by kernel_rfl) (show cdb_run_F p0 w R = _ by kernel_rfl) h



/-- gemel/cdb.find -/
def cdb_find_F (p0 : Value) (w : World) (R : KV) : Prop :=
 Go.CW.Spec Try.prog 18 #[] (World.alloc (World.alloc w (.cells #[(.int .i64 (0 : Int)), (.int .u8 (0 : Int)), (.int .u8 (0 : Int)), (.bool false), (.bool false), (.bool false), (.bool false), (.bool false), (.bool false)] 41)) (.cells #[(.int .i64 (0 : Int)), (.int .u8 (0 : Int)), (.int .u8 (0 : Int)), (.bool false), (.bool false), (.bool false), (.bool false), (.bool false), (.bool false)] 41)) fun v0 w1 =>
  ∃ m2 : Nat, ((Go.CW.sliceLen v0) = (some m2)) ∧
   JoinP [.bool]
     (fun (b3 : Bool) => fun (w4 : World) =>
      ∃ n5 : Int, ∃ n6 : Int, ∃ n7 : Int, ∃ b8 : Bool, ∃ b9 : Bool, ∃ b10 : Bool, ∃ b11 : Bool, ∃ b12 : Bool, ∃ b13 : Bool, (ldCells w4 ⟨(Array.size (World.heap (World.alloc w (.cells #[(.int .i64 (0 : Int)), (.int .u8 (0 : Int)), (.int .u8 (0 : Int)), (.bool false), (.bool false), (.bool false), (.bool false), (.bool false), (.bool false)] 41)))), 0, none⟩ 9 #[(.int .i64 n5), (.int .u8 n6), (.int .u8 n7), (.bool b8), (.bool b9), (.bool b10), (.bool b11), (.bool b12), (.bool b13)]) ∧
               (StRow w4 ⟨(Array.size (World.heap w)), 0, none⟩ #[(.int .i64 n5), (.int .u8 n6), (.int .u8 n7), (.bool b8), (.bool b9), (.bool b10), (.bool b11), (.bool b12), (.bool b13)]) ∧
               ∃ n14 : Int, ∃ n15 : Int, ∃ n16 : Int, ∃ b17 : Bool, ∃ b18 : Bool, ∃ b19 : Bool, ∃ b20 : Bool, ∃ b21 : Bool, ∃ b22 : Bool, (ldCells (stRow w4 ⟨(Array.size (World.heap w)), 0, none⟩ #[(.int .i64 n5), (.int .u8 n6), (.int .u8 n7), (.bool b8), (.bool b9), (.bool b10), (.bool b11), (.bool b12), (.bool b13)]) ⟨(Array.size (World.heap w)), 0, none⟩ 9 #[(.int .i64 n14), (.int .u8 n15), (.int .u8 n16), (.bool b17), (.bool b18), (.bool b19), (.bool b20), (.bool b21), (.bool b22)]) ∧
                        R (.tuple #[(.agg #[(.int .i64 n14), (.int .u8 n15), (.int .u8 n16), (.bool b17), (.bool b18), (.bool b19), (.bool b20), (.bool b21), (.bool b22)]), (.bool b3)]) (stRow w4 ⟨(Array.size (World.heap w)), 0, none⟩ #[(.int .i64 n5), (.int .u8 n6), (.int .u8 n7), (.bool b8), (.bool b9), (.bool b10), (.bool b11), (.bool b12), (.bool b13)]))
     (fun j23 =>
      LoopP [.bool, .int .i64]
        (fun j24 => fun (b25 : Bool) => fun (n26 : Int) => fun (w27 : World) =>
         cond (decide (n26 < ((m2 : Nat) : Int)))
           (∃ a28 : Addr, ((Go.CW.sliceAt v0 n26 9) = (some a28)) ∧
             ∃ n29 : Int, ∃ n30 : Int, ∃ n31 : Int, ∃ b32 : Bool, ∃ b33 : Bool, ∃ b34 : Bool, ∃ b35 : Bool, ∃ b36 : Bool, ∃ b37 : Bool, (ldCells w27 a28 9 #[(.int .i64 n29), (.int .u8 n30), (.int .u8 n31), (.bool b32), (.bool b33), (.bool b34), (.bool b35), (.bool b36), (.bool b37)]) ∧
                      (StRow (World.alloc w27 (.cells #[(.int .i64 (0 : Int)), (.int .u8 (0 : Int)), (.int .u8 (0 : Int)), (.bool false), (.bool false), (.bool false), (.bool false), (.bool false), (.bool false)] 41)) ⟨(Array.size (World.heap w27)), 0, none⟩ #[(.int .i64 n29), (.int .u8 n30), (.int .u8 n31), (.bool b32), (.bool b33), (.bool b34), (.bool b35), (.bool b36), (.bool b37)]) ∧
                      ∃ n38 : Int, ∃ n39 : Int, ∃ n40 : Int, ∃ b41 : Bool, ∃ b42 : Bool, ∃ b43 : Bool, ∃ b44 : Bool, ∃ b45 : Bool, ∃ b46 : Bool, (ldCells (stRow (World.alloc w27 (.cells #[(.int .i64 (0 : Int)), (.int .u8 (0 : Int)), (.int .u8 (0 : Int)), (.bool false), (.bool false), (.bool false), (.bool false), (.bool false), (.bool false)] 41)) ⟨(Array.size (World.heap w27)), 0, none⟩ #[(.int .i64 n29), (.int .u8 n30), (.int .u8 n31), (.bool b32), (.bool b33), (.bool b34), (.bool b35), (.bool b36), (.bool b37)]) ⟨(Array.size (World.heap w27)), 0, none⟩ 9 #[(.int .i64 n38), (.int .u8 n39), (.int .u8 n40), (.bool b41), (.bool b42), (.bool b43), (.bool b44), (.bool b45), (.bool b46)]) ∧
                               Go.CW.callU Try.prog p0 #[(.agg #[(.int .i64 n38), (.int .u8 n39), (.int .u8 n40), (.bool b41), (.bool b42), (.bool b43), (.bool b44), (.bool b45), (.bool b46)])] (stRow (World.alloc w27 (.cells #[(.int .i64 (0 : Int)), (.int .u8 (0 : Int)), (.int .u8 (0 : Int)), (.bool false), (.bool false), (.bool false), (.bool false), (.bool false), (.bool false)] 41)) ⟨(Array.size (World.heap w27)), 0, none⟩ #[(.int .i64 n29), (.int .u8 n30), (.int .u8 n31), (.bool b32), (.bool b33), (.bool b34), (.bool b35), (.bool b36), (.bool b37)]) fun v47 w48 =>
                                ∃ b49 : Bool, ((v47 : Value) = (.bool b49)) ∧
                                 cond b49
                                   (∃ n50 : Int, ∃ n51 : Int, ∃ n52 : Int, ∃ b53 : Bool, ∃ b54 : Bool, ∃ b55 : Bool, ∃ b56 : Bool, ∃ b57 : Bool, ∃ b58 : Bool, (ldCells w48 ⟨(Array.size (World.heap w27)), 0, none⟩ 9 #[(.int .i64 n50), (.int .u8 n51), (.int .u8 n52), (.bool b53), (.bool b54), (.bool b55), (.bool b56), (.bool b57), (.bool b58)]) ∧
                                             (StRow w48 ⟨(Array.size (World.heap (World.alloc w (.cells #[(.int .i64 (0 : Int)), (.int .u8 (0 : Int)), (.int .u8 (0 : Int)), (.bool false), (.bool false), (.bool false), (.bool false), (.bool false), (.bool false)] 41)))), 0, none⟩ #[(.int .i64 n50), (.int .u8 n51), (.int .u8 n52), (.bool b53), (.bool b54), (.bool b55), (.bool b56), (.bool b57), (.bool b58)]) ∧
                                             j23 true (stRow w48 ⟨(Array.size (World.heap (World.alloc w (.cells #[(.int .i64 (0 : Int)), (.int .u8 (0 : Int)), (.int .u8 (0 : Int)), (.bool false), (.bool false), (.bool false), (.bool false), (.bool false), (.bool false)] 41)))), 0, none⟩ #[(.int .i64 n50), (.int .u8 n51), (.int .u8 n52), (.bool b53), (.bool b54), (.bool b55), (.bool b56), (.bool b57), (.bool b58)]))
                                   (j24 b25 (IntKind.wrap .i64 (n26 + (1 : Int))) w48))
           (j23 b25 w27))
        (fun s59 => s59 false (0 : Int) w1))

theorem cdb_find_wp (p0 : Value) (w : World) (R : KV) (h : cdb_find_F p0 w R) : Go.CW.Spec Try.prog 11 #[p0] w R :=
  spec_of Try.func11 (by kernel_rfl) (show cdb_find_F p0 w R = _ by kernel_rfl) h



/-- gemel/cdb.Encode$1 -/
def cdb_Encode_1_F (p0_0 : Int) (p0_1 : Int) (p0_2 : Int) (p0_3 : Bool) (p0_4 : Bool) (p0_5 : Bool) (p0_6 : Bool) (p0_7 : Bool) (p0_8 : Bool) (p1 : Value) (w : World) (R : KV) : Prop :=
 ∃ n0 : Int, ((Go.World.cell? (World.alloc w (.cells #[(.int .i64 p0_0), (.int .u8 p0_1), (.int .u8 p0_2), (.bool p0_3), (.bool p0_4), (.bool p0_5), (.bool p0_6), (.bool p0_7), (.bool p0_8)] 41)) (Addr.add ⟨(Array.size (World.heap w)), 0, none⟩ 0)) = (some (.int .i64 n0))) ∧
  withAddr p1 fun a1 =>
   ∃ n2 : Int, ((Go.World.cell? (World.alloc w (.cells #[(.int .i64 p0_0), (.int .u8 p0_1), (.int .u8 p0_2), (.bool p0_3), (.bool p0_4), (.bool p0_5), (.bool p0_6), (.bool p0_7), (.bool p0_8)] 41)) (Addr.add a1 0)) = (some (.int .i64 n2))) ∧
    R (.bool (n0 == n2)) (World.alloc w (.cells #[(.int .i64 p0_0), (.int .u8 p0_1), (.int .u8 p0_2), (.bool p0_3), (.bool p0_4), (.bool p0_5), (.bool p0_6), (.bool p0_7), (.bool p0_8)] 41))

theorem cdb_Encode_1_wp (p0_0 : Int) (p0_1 : Int) (p0_2 : Int) (p0_3 : Bool) (p0_4 : Bool) (p0_5 : Bool) (p0_6 : Bool) (p0_7 : Bool) (p0_8 : Bool) (p1 : Value) (w : World) (R : KV) (h : cdb_Encode_1_F p0_0 p0_1 p0_2 p0_3 p0_4 p0_5 p0_6 p0_7 p0_8 p1 w R) : Go.CW.Spec Try.prog 12 #[(.agg #[(.int .i64 p0_0), (.int .u8 p0_1), (.int .u8 p0_2), (.bool p0_3), (.bool p0_4), (.bool p0_5), (.bool p0_6), (.bool p0_7), (.bool p0_8)]), p1] w R :=
  spec_of Try.func12 (by kernel_rfl) (show cdb_Encode_1_F p0_0 p0_1 p0_2 p0_3 p0_4 p0_5 p0_6 p0_7 p0_8 p1 w R = _ by kernel_rfl) h



/-- gemel/bin.Put -/
def bin_Put_F (p0 : Value) (p1 : Int) (p2 : Int) (w : World) (R : KV) : Prop :=
 Go.CW.Spec Try.prog 19 #[p0] w fun v0 w1 =>
  JoinP [.bool]
    (fun (b2 : Bool) => fun (w3 : World) =>
     cond b2
       (R v0 w3)
       (LoopP [.val, .int .i64]
          (fun j4 => fun (v5 : Value) => fun (n6 : Int) => fun (w7 : World) =>
           cond (decide (n6 ≥ (0 : Int)))
             (leK (IntKind.wrap .i64 ((8 : Int) * n6)) (∃ v8 : Value, ∃ w9 : World, ((Sem.run @Go.Proofs.Try.prog (Go.Builtin.append_ #[24, 24] 24 #[v5, (.slice (some ⟨(Array.size (World.heap w7)), 0, none⟩) 1 1)]) (World.alloc w7 (.cells #[(.int .u8 (IntKind.wrap .u8 (Int.fdiv p1 ((2 : Int) ^ (min (Int.toNat (IntKind.wrap .i64 ((8 : Int) * n6))) 64)))))] 5))) = (.ok v8 w9)) ∧
                 j4 v8 (IntKind.wrap .i64 (n6 - (1 : Int))) w9))
             (Go.CW.Spec Try.prog 20 #[v5] w7 fun v10 w11 =>
               R v10 w11))
          (fun s12 => s12 v0 (IntKind.wrap .i64 (p2 - (1 : Int))) w3)))
    (fun j13 =>
     cond (decide (p2 < (1 : Int)))
       (j13 true w1)
       (j13 (decide (p2 > (8 : Int))) w1))

theorem bin_Put_wp (p0 : Value) (p1 : Int) (p2 : Int) (w : World) (R : KV) (h : bin_Put_F p0 p1 p2 w R) : Go.CW.Spec Try.prog 13 #[p0, (.int .u64 p1), (.int .i64 p2)] w R :=
  spec_of Try.func13 (by kernel_rfl) (show bin_Put_F p0 p1 p2 w R = _ by kernel_rfl) h



/-- gemel/sense.Wrong -/
def sense_Wrong_F (p0 : Int) (p1 : Int) (w : World) (R : KV) : Prop :=
 (StRow (World.alloc w (.cells #[(.int .i64 (0 : Int)), (.int .i64 (0 : Int)), (.int .i64 (0 : Int)), (.slice none 0 0), (.int .i64 (0 : Int))] 35)) ⟨(Array.size (World.heap w)), 0, none⟩ #[(.int .i64 (2 : Int)), (.int .i64 p0), (.int .i64 p1), (.slice none 0 0), (.int .i64 (0 : Int))]) ∧
 ∃ n0 : Int, ∃ n1 : Int, ∃ n2 : Int, ∃ v3 : Value, ∃ n4 : Int, (ldCells (stRow (World.alloc w (.cells #[(.int .i64 (0 : Int)), (.int .i64 (0 : Int)), (.int .i64 (0 : Int)), (.slice none 0 0), (.int .i64 (0 : Int))] 35)) ⟨(Array.size (World.heap w)), 0, none⟩ #[(.int .i64 (2 : Int)), (.int .i64 p0), (.int .i64 p1), (.slice none 0 0), (.int .i64 (0 : Int))]) ⟨(Array.size (World.heap w)), 0, none⟩ 5 #[(.int .i64 n0), (.int .i64 n1), (.int .i64 n2), v3, (.int .i64 n4)]) ∧
      R (.agg #[(.int .i64 n0), (.int .i64 n1), (.int .i64 n2), v3, (.int .i64 n4)]) (stRow (World.alloc w (.cells #[(.int .i64 (0 : Int)), (.int .i64 (0 : Int)), (.int .i64 (0 : Int)), (.slice none 0 0), (.int .i64 (0 : Int))] 35)) ⟨(Array.size (World.heap w)), 0, none⟩ #[(.int .i64 (2 : Int)), (.int .i64 p0), (.int .i64 p1), (.slice none 0 0), (.int .i64 (0 : Int))])

theorem sense_Wrong_wp (p0 : Int) (p1 : Int) (w : World) (R : KV) (h : sense_Wrong_F p0 p1 w R) : Go.CW.Spec Try.prog 14 #[(.int .i64 p0), (.int .i64 p1)] w R :=
  spec_of Try.func14 (by kernel_rfl) (show sense_Wrong_F p0 p1 w R = _ by kernel_rfl) h



/-- gemel/cdb.Decode$1 -/
def cdb_Decode_1_F (p0_0 : Int) (p0_1 : Int) (p0_2 : Int) (p0_3 : Bool) (p0_4 : Bool) (p0_5 : Bool) (p0_6 : Bool) (p0_7 : Bool) (p0_8 : Bool) (p1 : Value) (w : World) (R : KV) : Prop :=
 JoinP [.bool]
   (fun (b0 : Bool) => fun (w1 : World) =>
    R (.bool b0) w1)
   (fun j2 =>
    ∃ n3 : Int, ((Go.World.cell? (World.drew (World.alloc w (.cells #[(.int .i64 p0_0), (.int .u8 p0_1), (.int .u8 p0_2), (.bool p0_3), (.bool p0_4), (.bool p0_5), (.bool p0_6), (.bool p0_7), (.bool p0_8)] 41))) (Addr.add ⟨(Array.size (World.heap w)), 0, none⟩ 1)) = (some (.int .u8 n3))) ∧
     withAddr p1 fun a4 =>
      ∃ v5 : Value, ((Go.World.cell? (World.drew (World.alloc w (.cells #[(.int .i64 p0_0), (.int .u8 p0_1), (.int .u8 p0_2), (.bool p0_3), (.bool p0_4), (.bool p0_5), (.bool p0_6), (.bool p0_7), (.bool p0_8)] 41))) a4) = (some v5)) ∧
       ∃ a6 : Addr, ((Go.CW.sliceAt v5 (0 : Int) 1) = (some a6)) ∧
        ∃ n7 : Int, ((Go.World.cell? (World.drew (World.alloc w (.cells #[(.int .i64 p0_0), (.int .u8 p0_1), (.int .u8 p0_2), (.bool p0_3), (.bool p0_4), (.bool p0_5), (.bool p0_6), (.bool p0_7), (.bool p0_8)] 41))) a6) = (some (.int .u8 n7))) ∧
         cond (n3 == n7)
           (∃ b8 : Bool, ((Go.World.cell? (World.drew (World.alloc w (.cells #[(.int .i64 p0_0), (.int .u8 p0_1), (.int .u8 p0_2), (.bool p0_3), (.bool p0_4), (.bool p0_5), (.bool p0_6), (.bool p0_7), (.bool p0_8)] 41))) (Addr.add ⟨(Array.size (World.heap w)), 0, none⟩ 8)) = (some (.bool b8))) ∧
             cond (!b8)
               (j2 true (World.drew (World.alloc w (.cells #[(.int .i64 p0_0), (.int .u8 p0_1), (.int .u8 p0_2), (.bool p0_3), (.bool p0_4), (.bool p0_5), (.bool p0_6), (.bool p0_7), (.bool p0_8)] 41))))
               (∃ n9 : Int, ((Go.World.cell? (World.drew (World.alloc w (.cells #[(.int .i64 p0_0), (.int .u8 p0_1), (.int .u8 p0_2), (.bool p0_3), (.bool p0_4), (.bool p0_5), (.bool p0_6), (.bool p0_7), (.bool p0_8)] 41))) (Addr.add ⟨(Array.size (World.heap w)), 0, none⟩ 2)) = (some (.int .u8 n9))) ∧
                 withAddr p1 fun a10 =>
                  ∃ v11 : Value, ((Go.World.cell? (World.drew (World.alloc w (.cells #[(.int .i64 p0_0), (.int .u8 p0_1), (.int .u8 p0_2), (.bool p0_3), (.bool p0_4), (.bool p0_5), (.bool p0_6), (.bool p0_7), (.bool p0_8)] 41))) a10) = (some v11)) ∧
                   ∃ a12 : Addr, ((Go.CW.sliceAt v11 (1 : Int) 1) = (some a12)) ∧
                    ∃ n13 : Int, ((Go.World.cell? (World.drew (World.alloc w (.cells #[(.int .i64 p0_0), (.int .u8 p0_1), (.int .u8 p0_2), (.bool p0_3), (.bool p0_4), (.bool p0_5), (.bool p0_6), (.bool p0_7), (.bool p0_8)] 41))) a12) = (some (.int .u8 n13))) ∧
                     j2 (n9 == n13) (World.drew (World.alloc w (.cells #[(.int .i64 p0_0), (.int .u8 p0_1), (.int .u8 p0_2), (.bool p0_3), (.bool p0_4), (.bool p0_5), (.bool p0_6), (.bool p0_7), (.bool p0_8)] 41)))))
           (j2 false (World.drew (World.alloc w (.cells #[(.int .i64 p0_0), (.int .u8 p0_1), (.int .u8 p0_2), (.bool p0_3), (.bool p0_4), (.bool p0_5), (.bool p0_6), (.bool p0_7), (.bool p0_8)] 41)))))

theorem cdb_Decode_1_wp (p0_0 : Int) (p0_1 : Int) (p0_2 : Int) (p0_3 : Bool) (p0_4 : Bool) (p0_5 : Bool) (p0_6 : Bool) (p0_7 : Bool) (p0_8 : Bool) (p1 : Value) (w : World) (R : KV) (h : cdb_Decode_1_F p0_0 p0_1 p0_2 p0_3 p0_4 p0_5 p0_6 p0_7 p0_8 p1 w R) : Go.CW.Spec Try.prog 15 #[(.agg #[(.int .i64 p0_0), (.int .u8 p0_1), (.int .u8 p0_2), (.bool p0_3), (.bool p0_4), (.bool p0_5), (.bool p0_6), (.bool p0_7), (.bool p0_8)]), p1] w R :=
  spec_of Try.func15 (by kernel_rfl) (show cdb_Decode_1_F p0_0 p0_1 p0_2 p0_3 p0_4 p0_5 p0_6 p0_7 p0_8 p1 w R = _ by kernel_rfl) h



/-- (gemel/cdb.code).named -/
def cdb_code_named_m_F (p0_0 : Int) (p0_1 : Int) (p0_2 : Int) (p0_3 : Bool) (p0_4 : Bool) (p0_5 : Bool) (p0_6 : Bool) (p0_7 : Bool) (p0_8 : Bool) (p1 : Int) (w : World) (R : KV) : Prop :=
 JoinP [.bool]
   (fun (b0 : Bool) => fun (w1 : World) =>
    cond b0
      (R (.bool true) w1)
      (R (.bool false) w1))
   (fun j2 =>
    cond (p1 == (0 : Int))
      (j2 (p1 == (0 : Int)) (World.alloc w (.cells #[(.int .i64 p0_0), (.int .u8 p0_1), (.int .u8 p0_2), (.bool p0_3), (.bool p0_4), (.bool p0_5), (.bool p0_6), (.bool p0_7), (.bool p0_8)] 41)))
      (JoinP [.bool]
         (fun (b3 : Bool) => fun (w4 : World) =>
          cond b3
            (j2 b3 w4)
            (JoinP [.bool]
               (fun (b5 : Bool) => fun (w6 : World) =>
                cond b5
                  (j2 b5 w6)
                  (JoinP [.bool]
                     (fun (b7 : Bool) => fun (w8 : World) =>
                      cond b7
                        (j2 b7 w8)
                        (JoinP [.bool]
                           (fun (b9 : Bool) => fun (w10 : World) =>
                            cond b9
                              (j2 b9 w10)
                              (cond (p1 == (13 : Int))
                                 (∃ b11 : Bool, ((Go.World.cell? w10 (Addr.add ⟨(Array.size (World.heap w)), 0, none⟩ 5)) = (some (.bool b11))) ∧
                                   j2 b11 w10)
                                 (j2 false w10)))
                           (fun j12 =>
                            cond (decide (p1 ≥ (10 : Int)))
                              (cond (decide (p1 < (14 : Int)))
                                 (∃ b13 : Bool, ((Go.World.cell? w8 (Addr.add ⟨(Array.size (World.heap w)), 0, none⟩ 4)) = (some (.bool b13))) ∧
                                   j12 b13 w8)
                                 (j12 false w8))
                              (j12 false w8))))
                     (fun j14 =>
                      cond (decide (p1 ≥ (2 : Int)))
                        (cond (decide (p1 < (10 : Int)))
                           (∃ b15 : Bool, ((Go.World.cell? w6 (Addr.add ⟨(Array.size (World.heap w)), 0, none⟩ 3)) = (some (.bool b15))) ∧
                             j14 b15 w6)
                           (j14 false w6))
                        (j14 false w6))))
               (fun j16 =>
                cond (p1 == (2 : Int))
                  (∃ b17 : Bool, ((Go.World.cell? w4 (Addr.add ⟨(Array.size (World.heap w)), 0, none⟩ 7)) = (some (.bool b17))) ∧
                    j16 b17 w4)
                  (j16 false w4))))
         (fun j18 =>
          cond (p1 == (1 : Int))
            (∃ b19 : Bool, ((Go.World.cell? (World.alloc w (.cells #[(.int .i64 p0_0), (.int .u8 p0_1), (.int .u8 p0_2), (.bool p0_3), (.bool p0_4), (.bool p0_5), (.bool p0_6), (.bool p0_7), (.bool p0_8)] 41)) (Addr.add ⟨(Array.size (World.heap w)), 0, none⟩ 8)) = (some (.bool b19))) ∧
              j18 b19 (World.alloc w (.cells #[(.int .i64 p0_0), (.int .u8 p0_1), (.int .u8 p0_2), (.bool p0_3), (.bool p0_4), (.bool p0_5), (.bool p0_6), (.bool p0_7), (.bool p0_8)] 41)))
            (j18 false (World.alloc w (.cells #[(.int .i64 p0_0), (.int .u8 p0_1), (.int .u8 p0_2), (.bool p0_3), (.bool p0_4), (.bool p0_5), (.bool p0_6), (.bool p0_7), (.bool p0_8)] 41))))))

theorem cdb_code_named_m_wp (p0_0 : Int) (p0_1 : Int) (p0_2 : Int) (p0_3 : Bool) (p0_4 : Bool) (p0_5 : Bool) (p0_6 : Bool) (p0_7 : Bool) (p0_8 : Bool) (p1 : Int) (w : World) (R : KV) (h : cdb_code_named_m_F p0_0 p0_1 p0_2 p0_3 p0_4 p0_5 p0_6 p0_7 p0_8 p1 w R) : Go.CW.Spec Try.prog 16 #[(.agg #[(.int .i64 p0_0), (.int .u8 p0_1), (.int .u8 p0_2), (.bool p0_3), (.bool p0_4), (.bool p0_5), (.bool p0_6), (.bool p0_7), (.bool p0_8)]), (.int .i64 p1)] w R :=
  spec_of Try.func16 (by kernel_rfl) (show cdb_code_named_m_F p0_0 p0_1 p0_2 p0_3 p0_4 p0_5 p0_6 p0_7 p0_8 p1 w R = _ by kernel_rfl) h



/-- gemel/bin.Get -/
def bin_Get_F (p0 : Value) (p1 : Int) (p2 : Int) (w : World) (R : KV) : Prop :=
 JoinP [.bool]
   (fun (b0 : Bool) => fun (w1 : World) =>
    cond b0
      (R (.tuple #[(.int .u64 (0 : Int)), (.bool false)]) w1)
      (∃ v2 : Value, ((Go.CW.subSlice p0 1 (some (.int .i64 p1)) (some (.int .i64 (IntKind.wrap .i64 (p1 + p2)))) none) = (some v2)) ∧
        ∃ m3 : Nat, ((Go.CW.sliceLen v2) = (some m3)) ∧
         LoopP [.int .u64, .int .i64]
           (fun j4 => fun (n5 : Int) => fun (n6 : Int) => fun (w7 : World) =>
            cond (decide (n6 < ((m3 : Nat) : Int)))
              (∃ a8 : Addr, ((Go.CW.sliceAt v2 n6 1) = (some a8)) ∧
                ∃ n9 : Int, ((Go.World.cell? w7 a8) = (some (.int .u8 n9))) ∧
                 j4 (bitsI .or .u64 (IntKind.wrap .u64 (n5 * (256 : Int))) (IntKind.wrap .u64 n9)) (IntKind.wrap .i64 (n6 + (1 : Int))) w7)
              (R (.tuple #[(.int .u64 n5), (.bool true)]) w7))
           (fun s10 => s10 (0 : Int) (0 : Int) w1)))
   (fun j11 =>
    cond (decide (p2 < (1 : Int)))
      (j11 true w)
      (cond (decide (p2 > (8 : Int)))
         (j11 true w)
         (cond (decide (p1 < (0 : Int)))
            (j11 true w)
            (∃ m12 : Nat, ((Go.CW.sliceLen p0) = (some m12)) ∧
              cond (decide (p1 > ((m12 : Nat) : Int)))
                (j11 true w)
                (∃ m13 : Nat, ((Go.CW.sliceLen p0) = (some m13)) ∧
                  j11 (decide (p2 > (IntKind.wrap .i64 (((m13 : Nat) : Int) - p1)))) w)))))

theorem bin_Get_wp (p0 : Value) (p1 : Int) (p2 : Int) (w : World) (R : KV) (h : bin_Get_F p0 p1 p2 w R) : Go.CW.Spec Try.prog 17 #[p0, (.int .i64 p1), (.int .i64 p2)] w R :=
  spec_of Try.func17 (by kernel_rfl) (show bin_Get_F p0 p1 p2 w R = _ by kernel_rfl) h



/-- slices.Clone[[]byte,byte] -/
def slices_Clone___F (p0 : Value) (w : World) (R : KV) : Prop :=
 ∃ b0 : Bool, ((Go.CW.isNilS p0) = (some b0)) ∧
  cond b0
    (R (.slice none 0 0) w)
    (∃ v1 : Value, ∃ w2 : World, ((Sem.run @Go.Proofs.Try.prog (Go.Builtin.append_ #[24, 24] 24 #[(.slice (some ⟨(Array.size (World.heap w)), 0, none⟩) 0 0), p0]) (World.alloc w (.cells #[] 5))) = (.ok v1 w2)) ∧
       R v1 w2)

theorem slices_Clone___wp (p0 : Value) (w : World) (R : KV) (h : slices_Clone___F p0 w R) : Go.CW.Spec Try.prog 19 #[p0] w R :=
  spec_of Try.func19 (by kernel_rfl) (show slices_Clone___F p0 w R = _ by kernel_rfl) h



/-- slices.Clip[[]byte,byte] -/
def slices_Clip___F (p0 : Value) (w : World) (R : KV) : Prop :=
 ∃ m0 : Nat, ((Go.CW.sliceLen p0) = (some m0)) ∧
  ∃ m1 : Nat, ((Go.CW.sliceLen p0) = (some m1)) ∧
   ∃ v2 : Value, ((Go.CW.subSlice p0 1 none (some (.int .i64 ((m0 : Nat) : Int))) (some (.int .i64 ((m1 : Nat) : Int)))) = (some v2)) ∧
    R v2 w

theorem slices_Clip___wp (p0 : Value) (w : World) (R : KV) (h : slices_Clip___F p0 w R) : Go.CW.Spec Try.prog 20 #[p0] w R :=
  spec_of Try.func20 (by kernel_rfl) (show slices_Clip___F p0 w R = _ by kernel_rfl) h

end Go.Proofs.Ytdkknncpmkajnaa
