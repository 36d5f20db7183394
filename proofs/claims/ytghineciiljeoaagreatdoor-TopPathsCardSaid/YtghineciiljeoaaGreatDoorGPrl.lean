/- The formulas of some functions, printed by a program (wip/cw/CwGen). -/
import Derived.Test.YtghineciiljeoaaGreatDoorFacts
set_option linter.unusedVariables false
set_option maxRecDepth 100000
namespace Go.Proofs.YtghineciiljeoaaGreatDoor
open Go Go.CW

/-- gemel/prlist.Keys -/
def prlist_Keys_F (p0 : Int) (p1 : Value) (w : World) (R : KV) : Prop :=
 ∃ m0 : Nat, ((Go.CW.sliceLen p1) = (some m0)) ∧
 ∃ v1 : Value, ((Go.CW.subSlice p1 1 none (some (.int .i64 (if (16 : Int) < ((m0 : Nat) : Int) then (16 : Int) else ((m0 : Nat) : Int)))) none) = (some v1)) ∧
 Go.CW.Spec Tryz.prog 120 #[(.slice none 0 0), (.int .u64 (IntKind.wrap .u64 p0)), (.int .i64 (4 : Int))] w fun v2 w3 =>
 ∃ m4 : Nat, ((Go.CW.sliceLen v1) = (some m4)) ∧
 Go.CW.Spec Tryz.prog 120 #[v2, (.int .u64 (IntKind.wrap .u64 (IntKind.wrap .i64 ((8 : Int) * ((m4 : Nat) : Int))))), (.int .i64 (4 : Int))] w3 fun v5 w6 =>
 ∃ m7 : Nat, ((Go.CW.sliceLen v1) = (some m7)) ∧
 LoopP [.val, .int .i64]
 (fun j8 => fun (v9 : Value) => fun (n10 : Int) => fun (w11 : World) =>
 cond (decide (n10 < ((m7 : Nat) : Int)))
 (∃ a12 : Addr, ((Go.CW.sliceAt v1 n10 1) = (some a12)) ∧
 ∃ n13 : Int, ((Go.World.cell? w11 a12) = (some (.int .u64 n13))) ∧
 Go.CW.Spec Tryz.prog 120 #[v9, (.int .u64 n13), (.int .i64 (8 : Int))] w11 fun v14 w15 =>
 j8 v14 (IntKind.wrap .i64 (n10 + (1 : Int))) w15)
 (R v9 w11))
 (fun s16 => s16 v5 (0 : Int) w6)

theorem prlist_Keys_wp (p0 : Int) (p1 : Value) (w : World) (R : KV) (h : prlist_Keys_F p0 p1 w R) : Go.CW.Spec Tryz.prog 171 #[(.int .u32 p0), p1] w R :=
  spec_of Tryz.func171 (by kernel_rfl) (show prlist_Keys_F p0 p1 w R = _ by kernel_rfl) h

/-- gemel/prlist.Holder -/
def prlist_Holder_F (p0 : Int) (p1 : Int) (p2 : Int) (w : World) (R : KV) : Prop :=
 Go.CW.Spec Tryz.prog 120 #[(.slice none 0 0), (.int .u64 (IntKind.wrap .u64 p0)), (.int .i64 (4 : Int))] w fun v0 w1 =>
 cond ((bitsI .and .i64 p2 (15 : Int)) == (0 : Int))
 (Go.CW.Spec Tryz.prog 120 #[v0, (.int .u64 (0 : Int)), (.int .i64 (4 : Int))] w1 fun v2 w3 =>
 R v2 w3)
 (Go.CW.Spec Tryz.prog 120 #[v0, (.int .u64 (16 : Int)), (.int .i64 (4 : Int))] w1 fun v4 w5 =>
 Go.CW.Spec Tryz.prog 120 #[v4, (.int .u64 p1), (.int .i64 (8 : Int))] w5 fun v6 w7 =>
 Go.CW.Spec Tryz.prog 120 #[v6, (.int .u64 (0 : Int)), (.int .i64 (4 : Int))] w7 fun v8 w9 =>
 Go.CW.Spec Tryz.prog 120 #[v8, (.int .u64 (IntKind.wrap .u64 (bitsI .and .i64 p2 (15 : Int)))), (.int .i64 (2 : Int))] w9 fun v10 w11 =>
 Go.CW.Spec Tryz.prog 120 #[v10, (.int .u64 (0 : Int)), (.int .i64 (2 : Int))] w11 fun v12 w13 =>
 R v12 w13)

theorem prlist_Holder_wp (p0 : Int) (p1 : Int) (p2 : Int) (w : World) (R : KV) (h : prlist_Holder_F p0 p1 p2 w R) : Go.CW.Spec Tryz.prog 175 #[(.int .u32 p0), (.int .u64 p1), (.int .i64 p2)] w R :=
  spec_of Tryz.func175 (by kernel_rfl) (show prlist_Holder_F p0 p1 p2 w R = _ by kernel_rfl) h

end Go.Proofs.YtghineciiljeoaaGreatDoor
