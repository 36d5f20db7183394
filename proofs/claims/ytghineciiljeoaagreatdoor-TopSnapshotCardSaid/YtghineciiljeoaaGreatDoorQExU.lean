/- Summaries of functions of the library, for runs in which nothing is unknown: definitions. -/
import Derived.Test.YtghineciiljeoaaGreatDoorQExOne
import Derived.Lib.IndexLaws
import Derived.Lib.IndexBytes
import Derived.Lib.IndexMore
import Derived.Lib.Split
import Derived.Lib.Bytealg
namespace Go.CW.Ex
def idxB (c : Nat) : List Nat → Nat → Option Nat
 | [], _ => none
 | a :: r, i => bif Nat.beq a c then some i else idxB c r (i + 1)
def cutB (c : Nat) : List Nat → Option (List Nat × List Nat)
 | [] => none
 | a :: r => bif Nat.beq a c then some ([], r) else match cutB c r with
   | some (x, y) => some (a :: x, y)
   | none => none
def decB : Nat → Nat → List Nat → List Nat
 | 0, _, l => l
 | f + 1, n, l => bif Nat.blt n 10 then (48 + n) :: l else decB f (n / 10) ((48 + n % 10) :: l)
def tabE : List Nat := [0, 274646895, 549293790, 820201905, 1098587580, 1361435347, 1640403810, 1905808397, 2197175160, 2460548119, 2722870694, 2987750089, 3280807620, 3553878443, 3811616794, 4084100981]
def nibE (v : Nat) : Nat := match nthN tabE (v % 16) with | some t => Nat.xor (v / 16) t | none => 0
def crcE : List Nat → Nat → Nat
 | [], v => v
 | c :: r, v => frcN (nibE (nibE (Nat.xor v c))) fun v => crcE r v
def sIdx : List EV → H → Option (EV × H) := fun args h => match args with
 | [.str s, .int .u8 (.ofNat c)] => bif bytesE s && Nat.blt c 256 then (match idxB c s 0 with
   | some i => some (.int .i64 (.ofNat i), h)
   | none => some (.int .i64 (.negSucc 0), h)) else none
 | _ => none
def sCut : List EV → H → Option (EV × H) := fun args h => match args with
 | [.str s, .str [c]] => bif bytesE s && Nat.blt c 256 && Nat.ble (lenE s 0) 1000000 then (match cutB c s with
   | some (a, b) => some (.tup [.str a, .str b, .bool true], h)
   | none => some (.tup [.str s, .str [], .bool false], h)) else none
 | _ => none
def natsOf (b : ByteArray) : List Nat := b.data.toList.map (fun c => c.toNat)
def sSplit (tS : TypeId) : List EV → H → Option (EV × H) := fun args h => match args with
 | [.str s, .str [c]] => match h.new (.cells tS 1 true ((Lib.splitB (textOf [UInt8.ofNat c]) 0 (Lib.countB (textOf (s.map UInt8.ofNat)) (textOf [UInt8.ofNat c])) (textOf (s.map UInt8.ofNat))).map (fun b => EV.str (natsOf b)))) with
   | some h' => bif Nat.ble (lenE s 0) 1000000 then frcN (Lib.countB (textOf (s.map UInt8.ofNat)) (textOf [UInt8.ofNat c]) + 1) fun n => some (.sl h.next 0 n n, h') else none
   | none => none
 | _ => none
def sIto : List EV → H → Option (EV × H) := fun args h => match args with
 | [.int .i64 (.ofNat n)] => bif Nat.blt n 1000000000 then some (.str (decB 10 n []), h) else none
 | _ => none
def valE : List Nat → Nat → Nat
 | [], v => v
 | c :: r, v => frcN (v * 256 + c) fun v => valE r v
def capOk (h : H) : EV → Bool
 | .sl _ _ l c => Nat.ble l c && Nat.ble c 1099511627776
 | .su b o l => suOk h b o l 1
 | .st b _ _ _ => okSize h b 1
 | _ => true
def bytesOf (h : H) (x : EV) : Option (List Nat) := match srcE 1 h x with
 | some (_, l) => match cellBytes l with
   | some bs => bif bytesE bs && noStr x && capOk h x then some bs else none
   | none => none
 | none => none
def bcells (l : List Nat) : List EV := l.map (fun n => .int .u8 (.ofNat n))
def newB (h : H) (tb : TypeId) (l : List Nat) : Option (EV × H) := match h.new (.cells tb 1 true (bcells l)) with
 | some h' => some (.sl h.next 0 (lenE l 0) (lenE l 0), h')
 | none => none
def sGet : List EV → H → Option (EV × H) := fun args h => match args with
 | [s, .int .i64 (.ofNat a), .int .i64 (.ofNat n)] => match bytesOf h s with
   | some bs => bif Nat.ble 1 n && Nat.ble n 8 && Nat.blt a 1099511627776 then
    (bif Nat.ble (a + n) (lenE bs 0) then frcN (valE ((bs.drop a).take n) 0) fun v => some (.tup [.int .u64 (.ofNat v), .bool true], h)
    else some (.tup [.int .u64 (.ofNat 0), .bool false], h)) else none
   | none => none
 | _ => none
def putE' (v : Nat) : Nat → List Nat
 | 0 => []
 | n + 1 => frcN (v / 256 ^ n % 256) fun b => b :: putE' v n
def sPut (tb : TypeId) : List EV → H → Option (EV × H) := fun args h => match args with
 | [s, .int .u64 (.ofNat x), .int .i64 (.ofNat n)] => match bytesOf h s with
   | some bs => bif Nat.ble 1 n && Nat.ble n 8 && Nat.ble (lenE bs 0) 1000000 then newB h tb (bs ++ putE' x n) else none
   | none => none
 | _ => none
def sumE (bs : List Nat) : Nat := Nat.xor 4294967295 (crcE bs 4294967295)
def sSum : List EV → H → Option (EV × H) := fun args h => match args with
 | [s] => match bytesOf h s with
   | some bs => frcN (sumE bs) fun v => some (.int .u32 (.ofNat v), h)
   | none => none
 | _ => none
structure SumIds where
 (iSum iGet iPut iIdx iCut iSp iIto tS tb : Nat)
def sumsOf (I : SumIds) : Sums := fun f =>
 bif Nat.beq f I.iSum then some sSum else
 bif Nat.beq f I.iGet then some sGet else
 bif Nat.beq f I.iPut then some (sPut I.tb) else
 bif Nat.beq f I.iIdx then some sIdx else
 bif Nat.beq f I.iCut then some sCut else
 bif Nat.beq f I.iSp then some (sSplit I.tS) else
 bif Nat.beq f I.iIto then some sIto else none
end Go.CW.Ex
