/- A weakest precondition that the kernel computes: definitions. For every program: what a function's code asks, written as a plain formula over values and worlds; XCwS proves that the formula implies the walk. -/
import Derived.WalkKit
import Derived.Laws.IdiomCopy
namespace Go.CW
abbrev KV := Value → World → Prop
abbrev Fr := List (Nat × Value)
def get : Fr → Nat → Value
 | [], _ => undef
 | (j, v) :: r, i => bif Nat.beq i j then v else get r i
def ev (fr : Fr) : Operand → Value
 | .tmp t => get fr t
 | .const v => v
 | .global g => .pointer (some ⟨g, 0, none⟩)
 | .func f => .func (.func f) #[] #[]
def putF (fr : Fr) (d : Option Tmp) (v : Value) : Fr :=
 match d with
 | some d => (d, v) :: fr
 | none => fr
inductive Rep where
 | int (k : IntKind) | bool | str | ptr | val
abbrev Rep.T : Rep → Type
 | .int _ => Int
 | .bool => Bool
 | .str => ByteArray
 | .ptr => Option Addr
 | .val => Value
def repOf (P : Program) (t : TypeId) : Rep :=
 match P.underlying t with
 | some (.int k) => .int k
 | some .bool => .bool
 | some .string => .str
 | some (.pointer _) => .ptr
 | _ => .val
def exR : (r : Rep) → (Value → Prop) → (Value → Prop) → Prop
 | .int k, φ, K => ∃ n : Int, φ (.int k n) ∧ K (.int k n)
 | .bool, φ, K => ∃ b : Bool, φ (.bool b) ∧ K (.bool b)
 | .str, φ, K => ∃ s : ByteArray, φ (.string s) ∧ K (.string s)
 | .ptr, φ, K => ∃ s : Option Addr, φ (.pointer s) ∧ K (.pointer s)
 | .val, φ, K => ∃ v : Value, φ v ∧ K v
def exRW : (r : Rep) → (Value → World → Prop) → (Value → World → Prop) → Prop
 | .int k, φ, K => ∃ (n : Int) (w : World), φ (.int k n) w ∧ K (.int k n) w
 | .bool, φ, K => ∃ (b : Bool) (w : World), φ (.bool b) w ∧ K (.bool b) w
 | .str, φ, K => ∃ (s : ByteArray) (w : World), φ (.string s) w ∧ K (.string s) w
 | .ptr, φ, K => ∃ (s : Option Addr) (w : World), φ (.pointer s) w ∧ K (.pointer s) w
 | .val, φ, K => ∃ (v : Value) (w : World), φ v w ∧ K v w
def exRs : (rs : List Rep) → (List Value → Prop) → Prop
 | [], K => K []
 | .int k :: rs, K => ∃ n : Int, exRs rs (fun vs => K (.int k n :: vs))
 | .bool :: rs, K => ∃ b : Bool, exRs rs (fun vs => K (.bool b :: vs))
 | .str :: rs, K => ∃ s : ByteArray, exRs rs (fun vs => K (.string s :: vs))
 | .ptr :: rs, K => ∃ s : Option Addr, exRs rs (fun vs => K (.pointer s :: vs))
 | .val :: rs, K => ∃ v : Value, exRs rs (fun vs => K (v :: vs))
def aggB (P : Program) (t : TypeId) : Bool :=
 match P.underlying t with
 | some (.struct _) => true
 | some (.array _ _) => true
 | _ => false
def repV : Value → Rep
 | .int k _ => .int k
 | .bool _ => .bool
 | .string _ => .str
 | .pointer _ => .ptr
 | _ => .val
inductive Sh0 where
 | one (r : Rep)
 | agg (rs : List Rep)
def shapeOf (P : Program) (t : TypeId) : Sh0 :=
 match aggB P t with
 | true => match (P.info? t).bind (·.zero) with
   | some (.agg cs) => bif Nat.ble cs.size 64 then .agg (cs.toList.map repV) else .one .val
   | _ => .one .val
 | false => .one (repOf P t)
inductive Shp where
 | s (x : Sh0)
 | tup (xs : List Sh0)
def shpOf (P : Program) (t : TypeId) : Shp :=
 match P.underlying t with
 | some (.tuple ts) => .tup (ts.toList.map (shapeOf P))
 | _ => .s (shapeOf P t)
def exSh : Sh0 → (Value → Prop) → (Value → Prop) → Prop
 | .one r, φ, K => exR r φ K
 | .agg rs, φ, K => exRs rs (fun vs => φ (.agg vs.toArray) ∧ K (.agg vs.toArray))
def exShs : List Sh0 → (List Value → Prop) → Prop
 | [], K => K []
 | .one r :: ss, K => exRs [r] (fun vs => exShs ss (fun us => K (vs ++ us)))
 | .agg rs :: ss, K => exRs rs (fun vs => exShs ss (fun us => K (.agg vs.toArray :: us)))
def exSp : Shp → (Value → Prop) → (Value → Prop) → Prop
 | .s x, φ, K => exSh x φ K
 | .tup ss, φ, K => exShs ss (fun vs => φ (.tuple vs.toArray) ∧ K (.tuple vs.toArray))
def Spec (P : Program) (f : FuncId) (args : Array Value) (w : World) (R : KV) : Prop :=
 Calls P f args w fun e w' => ∃ v, e = .returned v ∧ R v w'
def resShapes (P : Program) (f : FuncId) : List Sh0 :=
 match P.funcs[f]? with
 | some fn => fn.resultTypes.toList.map (shapeOf P)
 | none => []
def resTuple (v : Value) : (ss : List Sh0) → (Value → Prop) → Prop
 | [.one .val], K => K v
 | [s], K => exSh s (fun u => v = u) K
 | ss, K => exShs ss (fun vs => v = .tuple vs.toArray ∧ K (.tuple vs.toArray))
def callK (P : Program) (f : FuncId) (args : Array Value) (w : World) (K : KV) : Prop :=
 match (P.funcs[f]?).map (fun fn => fn.body.isSome) with
 | some true => Spec P f args w fun v w' => resTuple v (resShapes P f) (fun u => K u w')
 | _ => False
def mapA {α β : Type} (f : α → β) (xs : Array α) : Array β := (xs.toList.map f).toArray
def app3 (a b c : Array Value) : Array Value := (a.toList ++ (b.toList ++ c.toList)).toArray
def setL : List Value → Nat → List Value → List Value
 | cells, _, [] => cells
 | cells, off, v :: vs => setL (cells.set off v) (off + 1) vs
def fillL (place : Nat → Option (Nat × Nat)) : List Value → List (Nat × Value) → Option (List Value)
 | cells, [] => some cells
 | cells, (i, v) :: r => match place i with
   | none => none
   | some (off, size) => bif Nat.beq v.cells.size size && Nat.ble (off + v.cells.size) cells.length then fillL place (setL cells off v.cells.toList) r else none
def withAddr : Value → (Addr → Prop) → Prop
 | .pointer (some a), K => K a
 | _, _ => False
def pickK : Value → Prop → Prop → Prop
 | .bool t, A, B => cond t A B
 | _, _, _ => False
def leK : Int → Prop → Prop
 | .ofNat _, A => A
 | .negSucc _, _ => False
def nzK : Int → Prop → Prop
 | .ofNat (_ + 1), A => A
 | .negSucc _, A => A
 | _, _ => False
def bitsI (op : BinOp) (k : IntKind) (x y : Int) : Int :=
 k.wrap (match op with
  | .and => BitVec.ofInt k.bits x &&& BitVec.ofInt k.bits y
  | .or => BitVec.ofInt k.bits x ||| BitVec.ofInt k.bits y
  | .xor => BitVec.ofInt k.bits x ^^^ BitVec.ofInt k.bits y
  | _ => BitVec.ofInt k.bits x &&& ~~~ BitVec.ofInt k.bits y).toNat
def sliceLen : Value → Option Nat
 | .slice _ n _ => some n
 | _ => none
def isNilS : Value → Option Bool
 | .slice a _ _ => some a.isNone
 | _ => none
def isNilM : Value → Option Bool
 | .map r => some r.isNone
 | _ => none
def isNilP : Value → Option Bool
 | .pointer a => some a.isNone
 | _ => none
def isNilF : Value → Option Bool
 | .nilFunc => some true
 | .func _ _ _ => some false
 | _ => none
def negIf : BinOp → Bool → Bool
 | .neq, b => !b
 | _, b => b
def nilEqK (P : Program) (op : BinOp) (t : TypeId) (x y : Value) (w : World) (K : KV) : Prop :=
 match P.underlying t, y with
 | some (.slice _), .slice none _ _ => ∃ b, isNilS x = some b ∧ K (.bool (negIf op b)) w
 | some (.map _ _), .map none => ∃ b, isNilM x = some b ∧ K (.bool (negIf op b)) w
 | some (.pointer _), .pointer none => ∃ b, isNilP x = some b ∧ K (.bool (negIf op b)) w
 | some (.func _ _ _), .nilFunc => ∃ b, isNilF x = some b ∧ K (.bool (negIf op b)) w
 | _, _ => False
def guardOk (P : Program) (op : BinOp) (t : TypeId) (x y : Value) (cy : Bool) (w : World) : Prop :=
 match cy with
 | true => ∀ a v, (eqGuard op t a (.const v) x y).run P w = .ok () w
 | false => ∀ a b, (eqGuard op t a b x y).run P w = .ok () w
def eqK (P : Program) (op : BinOp) (t : TypeId) (x y : Value) (cy : Bool) (w : World) (K : KV) : Prop :=
 match P.underlying t, cy with
 | some .bool, _ => match x, y with
   | .bool a, .bool b => K (.bool (negIf op (a == b))) w
   | _, _ => False
 | some (.slice _), _ => nilEqK P op t x y w K
 | some (.map _ _), _ => nilEqK P op t x y w K
 | some (.func _ _ _), _ => nilEqK P op t x y w K
 | some (.pointer _), true => nilEqK P op t x y w K
 | _, _ => ∃ b, (binOp op t x y).run P w = .ok (.bool b) w ∧ guardOk P op t x y cy w ∧ K (.bool b) w
def intK (op : BinOp) (k : IntKind) (a b : Int) (w : World) (K : KV) : Prop :=
 match op with
 | .add => K (.int k (k.wrap (a + b))) w
 | .sub => K (.int k (k.wrap (a - b))) w
 | .mul => K (.int k (k.wrap (a * b))) w
 | .quo => nzK b (K (.int k (k.wrap (a.tdiv b))) w)
 | .rem => nzK b (K (.int k (a.tmod b)) w)
 | .and | .or | .xor | .andNot => K (.int k (bitsI op k a b)) w
 | .eql => K (.bool (a == b)) w
 | .neq => K (.bool (a != b)) w
 | .lss => K (.bool (a < b)) w
 | .leq => K (.bool (a ≤ b)) w
 | .gtr => K (.bool (a > b)) w
 | .geq => K (.bool (a ≥ b)) w
 | _ => False
def strK (op : BinOp) (a b : ByteArray) (w : World) (K : KV) : Prop :=
 match op with
 | .add => a.size + b.size ≤ 9223372036854775807 ∧ K (.string (a ++ b)) w
 | .eql => K (.bool (a.toList == b.toList)) w
 | .neq => K (.bool !(a.toList == b.toList)) w
 | .lss => K (.bool (Op.bytesLess a.toList b.toList)) w
 | .leq => K (.bool (Op.bytesLess a.toList b.toList || a.toList == b.toList)) w
 | .gtr => K (.bool !(Op.bytesLess a.toList b.toList || a.toList == b.toList)) w
 | .geq => K (.bool !Op.bytesLess a.toList b.toList) w
 | _ => False
def binIntK (op : BinOp) (x y : Value) (w : World) (K : KV) : Prop :=
 match op with
 | .shl => match x, y with
   | .int k a, .int _ b => leK b (K (.int k (k.wrap (a * 2 ^ (min b.toNat k.bits)))) w)
   | _, _ => False
 | .shr => match x, y with
   | .int k a, .int _ b => leK b (K (.int k (a.fdiv (2 ^ (min b.toNat k.bits)))) w)
   | _, _ => False
 | op => match x, y with
   | .int k a, .int k' b => match decEq k k' with | isTrue _ => intK op k a b w K | isFalse _ => False
   | _, _ => False
def isConstO : Operand → Bool
 | .const _ => true
 | _ => false
def binK (P : Program) (op : BinOp) (t : TypeId) (x y : Value) (cy : Bool) (w : World) (K : KV) : Prop :=
 match P.underlying t with
 | some (.int _) => binIntK op x y w K
 | some .string => match x, y with
   | .string a, .string b => strK op a b w K
   | _, _ => False
 | _ => match op with
   | .eql => eqK P .eql t x y cy w K
   | .neq => eqK P .neq t x y cy w K
   | _ => False
def unK (op : UnOp) (x : Value) (w : World) (K : KV) : Prop :=
 match op, x with
 | .not, .bool b => K (.bool !b) w
 | .neg, .int k n => K (.int k (k.wrap (0 - n))) w
 | .xor, .int k n => K (.int k (bitsI .xor k (if k.signed then -1 else k.max) n)) w
 | _, _ => False
def rawS (P : Program) (r : Rep) (s : Sem Value) (w : World) (K : KV) : Prop :=
 exRW r (fun v w' => s.run P w = .ok v w') K
def rawQ (P : Program) (r : Shp) (s : Sem Value) (w : World) (K : KV) : Prop :=
 exSp r (fun v => s.run P w = .ok v w) (fun v => K v w)
def rawU (P : Program) (s : Sem Unit) (w : World) (K : KV) : Prop :=
 ∃ w', s.run P w = .ok () w' ∧ K undef w'
def nextShapes : List (Sh0 × Sh0) := [(.one (.int .i64), .one .ptr), (.one (.int .u64), .agg [.int .i64, .int .i64, .int .i64, .val, .int .i64])]
def nextK (P : Program) (s : Sem Value) (w : World) (K : KV) : Prop :=
 (∃ w' : World, s.run P w = .ok (.tuple #[.bool false]) w' ∧ K (.tuple #[.bool false]) w') ∨
 (∃ (k v : Value) (w' : World), s.run P w = .ok (.tuple #[.bool true, k, v]) w' ∧ K (.tuple #[.bool true, k, v]) w')
def entryK (P : Program) (s : Sem Value) (w : World) (K : KV) : List (Sh0 × Sh0) → Prop
 | [] => False
 | (a, b) :: r => exShs [a, b] (fun vs => s.run P w = .ok (.tuple vs.toArray) w ∧ K (.tuple vs.toArray) w) ∨ entryK P s w K r
def convK (P : Program) (s d : TypeId) (x : Value) (w : World) (K : KV) : Prop :=
 match P.underlying s, P.underlying d with
 | some (.int _), some (.int k) => match x with
   | .int _ n => K (.int k (k.wrap n)) w
   | _ => False
 | some .string, some .string => match x with
   | .string b => K (.string b) w
   | _ => False
 | _, some (.slice _) => rawS P .val (convert s d x) w K
 | _, _ => rawQ P (shpOf P d) (convert s d x) w K
def ldCells (w : World) (a : Addr) (n : Nat) (cs : Array Value) : Prop :=
 cs.size = n ∧ ∀ i, i < n → w.cell? (a.add i) = cs[i]?
def ldK (P : Program) (t : TypeId) (a : Addr) (w : World) (K : KV) : Prop :=
 match P.underlying t with
 | none => False
 | some _ => match aggB P t with
   | true => match (P.info? t).map (·.size) with
     | some n => match shapeOf P t with
       | .agg rs => exRs rs (fun vs => ldCells w a n vs.toArray ∧ K (.agg vs.toArray) w)
       | .one _ => ∃ cs : Array Value, ldCells w a n cs ∧ K (.agg cs) w
     | none => False
   | false => exR (repOf P t) (fun v => w.cell? a = some v) (fun v => K v w)
def isOne : Value → Bool
 | .agg _ => false
 | .tuple _ => false
 | _ => true
def oneL : List Value → Bool
 | [] => true
 | v :: vs => isOne v && oneL vs
def oneK : Value → Prop → Prop
 | .int _ _, A => A
 | .bool _, A => A
 | .string _, A => A
 | .pointer _, A => A
 | .slice _ _ _, A => A
 | .map _, A => A
 | .nilIface, A => A
 | .nilFunc, A => A
 | v, A => isOne v = true ∧ A
def St1 (w : World) (a : Addr) : Prop := (∃ u, w.cell? a = some u) ∧ w.frozen? a = false
def StRow (w : World) (a : Addr) (cs : Array Value) : Prop :=
 oneL cs.toList = true ∧ ∀ i, i < cs.size → (∃ u, w.cell? (a.add i) = some u) ∧ w.frozen? (a.add i) = false
def stRow (w : World) (a : Addr) (cs : Array Value) : World := w.setCells a.block a.off cs.toList
def stK (P : Program) (t : TypeId) (a : Addr) (v : Value) (w : World) (K : World → Prop) : Prop :=
 match aggB P t with
 | true => match v with
   | .agg cs => match (P.info? t).map (·.size) with
     | some n => bif Nat.beq n cs.size then StRow w a cs ∧ K (stRow w a cs) else False
     | none => False
   | _ => False
 | false => match (P.info? t).map (·.size) with
   | some 1 => oneK v (St1 w a ∧ K (w.setCell a v))
   | _ => False
def nilK : Value → (Value → Prop) → Prop
 | .func (.func f) first captured, K => K (.func (.func f) first captured)
 | v, K => withAddr v (fun a => K (.pointer (some a)))
def fieldOff (P : Program) (t : TypeId) (f : Nat) : Option Nat :=
 match P.underlying t with
 | some (.struct fs) => match fs[f]? with
   | some fd => match (P.info? fd.type).map (·.size) with
     | some (_ + 1) => some fd.offset
     | _ => none
   | none => none
 | _ => none
def faK (P : Program) (t : TypeId) (f : Nat) (a : Addr) (K : Addr → Prop) : Prop :=
 match fieldOff P t f with
 | some n => K (a.add n)
 | none => False
def inR (n : Int) (len : Nat) : Prop := 0 ≤ n ∧ n < (len : Int)
def sliceAt (v : Value) (i : Int) (size : Nat) : Option Addr :=
 match v with
 | .slice (some a) len _ => if 0 ≤ i ∧ i < len then some (a.add (i.toNat * size)) else none
 | _ => none
def iaK (P : Program) (t : TypeId) (x i : Value) (K : Addr → Prop) : Prop :=
 match P.underlying t, i with
 | some (.slice e), .int _ n => match (P.info? e).map (·.size) with
   | some size => ∃ a, sliceAt x n size = some a ∧ K a
   | none => False
 | some (.array len e), .int _ n => match (P.info? e).map (·.size) with
   | some size => withAddr x (fun a => inR n len ∧ K (a.add (n.toNat * size)))
   | none => False
 | _, _ => False
def ixK (P : Program) (r : Shp) (t : TypeId) (x i : Value) (w : World) (K : KV) : Prop :=
 match P.underlying t, x, i with
 | some .string, .string s, .int _ n => inR n s.size ∧ K (.int .u8 (s.get! n.toNat).toNat) w
 | some .string, _, _ => False
 | _, _, _ => rawQ P r (Instr.index t x i) w K
def fldK (P : Program) (sp : Shp) (t : TypeId) (x : Value) (f : Nat) (w : World) (K : KV) : Prop :=
 match P.underlying t, x with
 | some (.struct fs), .agg cs => match fs[f]? with
   | some fd => match P.underlying fd.type with
     | none => False
     | some _ => match aggB P fd.type with
       | true => match (P.info? fd.type).map (·.size) with
         | some n => K (.agg ((cs.toList.drop fd.offset).take n).toArray) w
         | none => False
       | false => match cs.toList[fd.offset]? with
         | some v => K v w
         | none => False
   | none => False
 | _, _ => rawQ P sp (Instr.field t x f) w K
def boundOf (x : Value) (y : Nat) : Option Nat :=
 match x with
 | .int _ i => if 0 ≤ i ∧ i ≤ y then some i.toNat else none
 | _ => none
def boundsOf (len cap : Nat) (lo hi mx : Option Value) : Option (Nat × Nat × Nat) :=
 match (match mx with | some v => boundOf v cap | none => some cap) with
 | none => none
 | some m => match (match hi with | some v => boundOf v m | none => match mx with | none => some len | some _ => none) with
   | none => none
   | some h => match (match lo with | some v => boundOf v h | none => some 0) with
     | none => none
     | some l => some (l, h, m)
def subSlice (x : Value) (size : Nat) (lo hi mx : Option Value) : Option Value :=
 match x with
 | .slice a len cap => match boundsOf len cap lo hi mx with
   | some (l, h, m) => some (.slice (if m = l then a else a.map (·.add (l * size))) (h - l) (m - l))
   | none => none
 | _ => none
def slK (P : Program) (t : TypeId) (x : Value) (lo hi mx : Option Value) (w : World) (K : KV) : Prop :=
 match P.underlying t, x with
 | some .string, .string s => match mx with
   | none => ∃ l h m, boundsOf s.size s.size lo hi none = some (l, h, m) ∧ K (.string (s.extract l h)) w
   | some _ => False
 | some (.slice e), x => match (P.info? e).map (·.size) with
   | some size => ∃ v, subSlice x size lo hi mx = some v ∧ K v w
   | none => False
 | some (.array n e), x => match (P.info? e).map (·.size) with
   | some size => match lo, hi, mx with
     | none, none, none => withAddr x (fun a => K (.slice (some a) n n) w)
     | lo, hi, mx => withAddr x (fun a => ∃ l h m, boundsOf n n lo hi mx = some (l, h, m) ∧ K (.slice (some (if m = l then a else a.add (l * size))) (h - l) (m - l)) w)
   | none => False
 | _, _ => False
def oneK' : Value → Prop → Prop
 | .int _ _, A => A
 | .bool _, A => A
 | .string _, A => A
 | .pointer _, A => A
 | .slice _ _ _, A => A
 | .map _, A => A
 | .nilIface, A => A
 | .nilFunc, A => A
 | v, A => isOne v = true ∧ A
def fillK (place : Nat → Option (Nat × Nat)) (K : List Value → Prop) : List Value → List (Nat × Value) → Prop
 | cells, [] => K cells
 | cells, (i, v) :: r => match place i with
   | none => False
   | some (off, size) => bif Nat.beq size 1 then oneK' v (bif Nat.ble (off + 1) cells.length then fillK place K (cells.set off v) r else False)
     else bif Nat.beq v.cells.size size && Nat.ble (off + v.cells.size) cells.length then fillK place K (setL cells off v.cells.toList) r else False
def bdK (P : Program) (t : TypeId) (parts : Array (Nat × Value)) (w : World) (K : KV) : Prop :=
 match (P.info? t).bind (·.zero), P.underlying t with
 | some z, some (.struct fields) =>
   match fields.toList.mapM (fun f => (P.info? f.type).map (fun i => (f.offset, i.size))) with
   | some places => fillK (fun i => places[i]?) (fun cells => K (.agg cells.toArray) w) z.cells.toList parts.toList
   | none => False
 | some z, some (.array _ e) =>
   match (P.info? e).map (·.size) with
   | some size => fillK (fun i => some (i * size, size)) (fun cells => K (.agg cells.toArray) w) z.cells.toList parts.toList
   | none => False
 | _, _ => False
def bsK (P : Program) (t : TypeId) (len : Nat) (parts : Array (Nat × Value)) (w : World) (K : KV) : Prop :=
 match P.underlying t with
 | some (.slice e) => match (P.info? e).map (fun i => (i.size, i.zero)) with
   | some (size, some z) => match Nat.ble (len * size) 1024 && Nat.blt 0 size && Nat.beq z.cells.size size with
     | true => fillK (fun i => some (i * size, size)) (fun cells => K (.slice (some ⟨w.heap.size, 0, none⟩) len len) (w.alloc (.cells cells.toArray e))) (List.flatten (List.replicate len z.cells.toList)) parts.toList
     | false => False
   | _ => False
 | _ => False
def alK (P : Program) (t : TypeId) (w : World) (K : KV) : Prop :=
 match (P.info? t).bind (·.zero) with
 | some z => K (.pointer (some ⟨w.heap.size, 0, none⟩)) (w.alloc (.cells z.cells t))
 | none => False
def exK (x : Value) (i : Nat) (K : Value → Prop) : Prop :=
 match x with
 | .tuple vs => match vs[i]? with
   | some v => K v
   | none => False
 | _ => False
def lenK (P : Program) (t : TypeId) (x : Value) (w : World) (K : KV) : Prop :=
 match P.underlying t, x with
 | some .string, .string s => K (.int .i64 (s.size : Int)) w
 | some .string, _ => False
 | some (.array n _), _ => K (.int .i64 (n : Int)) w
 | some (.slice _), v => ∃ n : Nat, sliceLen v = some n ∧ K (.int .i64 (n : Int)) w
 | _, _ => rawQ P (.s (.one (.int .i64))) (Builtin.len_ #[t] 0 #[x]) w K
def builtinK (P : Program) (r : Rep) (b : Builtin) (ts : Array TypeId) (ty : TypeId) (vs : Array Value) (w : World) (K : KV) : Prop :=
 match b, ts.toList, vs.toList with
 | .len, [t], [v] => lenK P t v w K
 | .min, _, [.int k x, .int _ y] => K (.int k (if y < x then y else x)) w
 | .max, _, [.int k x, .int _ y] => K (.int k (if x < y then y else x)) w
 | .append, _, _ => rawS P r (Builtin.append_ ts ty vs) w K
 | .copy, _, _ => rawS P r (Builtin.copy_ ts ty vs) w K
 | .cap, _, _ => rawQ P (.s (.one r)) (Builtin.cap_ ts ty vs) w K
 | .clear, _, _ => rawS P .val (Builtin.clear_ ts ty vs) w K
 | .delete, _, _ => rawS P .val (Builtin.delete_ ts ty vs) w K
 | .min, _, _ => rawQ P (.s (.one r)) (Builtin.min_ ts ty vs) w K
 | .max, _, _ => rawQ P (.s (.one r)) (Builtin.max_ ts ty vs) w K
 | _, _, _ => False
def callU (P : Program) (f : Value) (args : Array Value) (w : World) (K : KV) : Prop :=
 match f with
 | .func (.func g) first captured => match (P.funcs[g]?).map (fun fn => fn.body.isSome) with
   | some true => Spec P g (app3 first args captured) w K
   | _ => False
 | v => ∃ g first captured, v = .func (.func g) first captured ∧ ((P.funcs[g]?).map (fun fn => fn.body.isSome) = some true) ∧ Spec P g (app3 first args captured) w K
def callV (P : Program) (f : Value) (args : Array Value) (w : World) (ty : TypeId) (K : KV) : Prop :=
 callU P f args w fun v w' => resTuple v (match P.underlying ty with | some (.tuple ts) => ts.toList.map (shapeOf P) | _ => [shapeOf P ty]) (fun u => K u w')
def opK (P : Program) (ρ : Operand → Value) (o : Oper) (w : World) (K : KV) : Prop :=
 match o.op with
 | .move x => K (ρ x) w
 | .assign x => K (ρ x) w
 | .pick c a b => pickK (ρ c) (K (ρ a) w) (K (ρ b) w)
 | .binOp op t x y _ => binK P op t (ρ x) (ρ y) (isConstO y) w K
 | .unOp op _ x => unK op (ρ x) w K
 | .convert s d x => convK P s d (ρ x) w K
 | .load t a => withAddr (ρ a) (fun a => ldK P t a w K)
 | .store t a x => withAddr (ρ a) (fun a => stK P t a (ρ x) w (fun w' => K undef w'))
 | .nilCheck x => nilK (ρ x) (fun v => K v w)
 | .fieldAddr t x f => withAddr (ρ x) (fun a => faK P t f a (fun a' => K (.pointer (some a')) w))
 | .indexAddr t x i => iaK P t (ρ x) (ρ i) (fun a => K (.pointer (some a)) w)
 | .index t x i => ixK P (shpOf P o.type) t (ρ x) (ρ i) w K
 | .slice t x lo hi mx => slK P t (ρ x) (lo.map ρ) (hi.map ρ) (mx.map ρ) w K
 | .build t parts => bdK P t (mapA (fun p => (p.1, ρ p.2)) parts) w K
 | .buildSlice t n parts => bsK P t n (mapA (fun p => (p.1, ρ p.2)) parts) w K
 | .alloc t => alK P t w K
 | .box t x => K (.pointer (some ⟨w.heap.size, 0, none⟩)) (w.alloc (.cells (ρ x).cells t))
 | .extract x i => exK (ρ x) i (fun v => K v w)
 | .call c => match c.callee with
   | .builtin b => builtinK P (repOf P o.type) b c.argTypes o.type (mapA ρ c.args) w K
   | .value (.func f) => callK P f (mapA ρ c.args) w K
   | .value x => callV P (ρ x) (mapA ρ c.args) w o.type K
   | _ => False
 | .makeInterface t x => rawQ P (.s (.one .val)) (Instr.makeInterface t (ρ x)) w K
 | .makeFunc fn first captured => K (.func fn (mapA ρ first) (mapA ρ captured)) w
 | .makeMap t r => rawS P .val (Instr.makeMap t (r.map ρ)) w K
 | .makeSlice t l c => rawS P .val (Instr.makeSlice t (ρ l) (ρ c)) w K
 | .sliceToArrayPointer t x => rawQ P (.s (.one .val)) (Instr.arrayAt t (ρ x)) w K
 | .field t x f => fldK P (shpOf P o.type) t (ρ x) f w K
 | .lookup t x i ok => rawQ P (shpOf P o.type) (Instr.lookup t (ρ x) (ρ i) ok) w K
 | .mapUpdate t m k x => rawU P (Instr.mapUpdate t (ρ m) (ρ k) (ρ x)) w K
 | .insert t m k x => rawU P (Instr.mapUpdate t (ρ m) (ρ k) (ρ x)) w K
 | .range t x => rawS P .val (Instr.range t (ρ x)) w K
 | .next it isString => nextK P (Instr.next (ρ it) isString o.type) w K
 | .entry it => entryK P (Instr.entry (ρ it)) w K nextShapes
 | .typeAssert x t asserted ok => rawQ P (shpOf P o.type) (Instr.typeAssert (ρ x) t asserted ok) w K
 | _ => False
end Go.CW
