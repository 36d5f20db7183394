/- Runs in which nothing is unknown, as the kernel reckons them: definitions. For every program. -/
import Derived.Test.YtghineciiljeoaaGreatDoorRec
namespace Go.CW.Ex

/-! ### values: an address is a block's key and a place -/
inductive EV where
  | int (k : IntKind) (n : Int)
  | bool (b : Bool)
  | str (s : List Nat)
  | ptr (b o : Nat)
  | nilp
  | sl (b o len cap : Nat)
  | su (b o len : Nat)
  | st (b o l : Nat) (z : Bool)
  | nils
  | mp (b : Nat)
  | nilm
  | fn (f : FuncId) (first captured : List EV)
  | nilf
  | nili
  | agg (l : List EV)
  | tup (l : List EV)

abbrev EV.und : EV := .tup []

/-- where a key's block lies: its place, the first cell, how many cells there may be, and how many make an element -/
structure Pl where
  blk : Nat
  sh : Nat
  cap : Nat
  size : Nat

abbrev PM := Nat → Option Pl

mutual
def upV (φ : PM) : EV → Option Value
  | .int k n => some (.int k n)
  | .bool b => some (.bool b)
  | .str s => some (.string ⟨(s.map UInt8.ofNat).toArray⟩)
  | .ptr b o => match φ b with | some p => some (.pointer (some ⟨p.blk, p.sh + o, none⟩)) | none => none
  | .nilp => some (.pointer none)
  | .sl b o len cap => match φ b with | some p => some (.slice (some ⟨p.blk, p.sh + o, none⟩) len cap) | none => none
  | .su b o len => match φ b with | some p => some (.slice (some ⟨p.blk, p.sh + o, none⟩) len ((p.cap - o) / p.size)) | none => none
  | .st b o l z => match φ b with | some p => some (.slice (some ⟨p.blk, p.sh + (if (p.cap - o) / p.size = l then o else o + l * p.size), none⟩) 0 (bif z then 0 else (p.cap - o) / p.size - l)) | none => none
  | .nils => some (.slice none 0 0)
  | .mp b => match φ b with | some p => some (.map (some p.blk)) | none => none
  | .nilm => some (.map none)
  | .fn f a c => match upL φ a, upL φ c with | some a', some c' => some (.func (.func f) a'.toArray c'.toArray) | _, _ => none
  | .nilf => some .nilFunc
  | .nili => some .nilIface
  | .agg l => match upL φ l with | some l' => some (.agg l'.toArray) | none => none
  | .tup l => match upL φ l with | some l' => some (.tuple l'.toArray) | none => none
def upL (φ : PM) : List EV → Option (List Value)
  | [] => some []
  | v :: r => match upV φ v, upL φ r with | some x, some xs => some (x :: xs) | _, _ => none
end

/-! ### trees by numbers -/
inductive Tr (α : Type) where
  | lf
  | nd (v : Option α) (l r : Tr α)

def Tr.get {α : Type} : Tr α → Nat → Option α
  | .lf, _ => none
  | .nd v _ _, 0 => v
  | .nd _ l r, n + 1 => bif Nat.beq (n % 2) 0 then l.get (n / 2) else r.get (n / 2)

def Tr.set {α : Type} : Nat → Tr α → Nat → Option α → Tr α
  | 0, t, _, _ => t
  | f + 1, t, k, x => match t, k with
    | .lf, 0 => .nd x .lf .lf
    | .lf, n + 1 => match Tr.set f .lf (n / 2) x with
      | .lf => bif Nat.beq (n % 2) 0 then .nd none .lf .lf else .nd none .lf .lf
      | .nd a b c => bif Nat.beq (n % 2) 0 then .nd none (.nd a b c) .lf else .nd none .lf (.nd a b c)
    | .nd _ l r, 0 => .nd x l r
    | .nd v l r, n + 1 => bif Nat.beq (n % 2) 0
      then (match Tr.set f l (n / 2) x with | .lf => .nd v .lf r | .nd a b c => .nd v (.nd a b c) r)
      else (match Tr.set f r (n / 2) x with | .lf => .nd v l .lf | .nd a b c => .nd v l (.nd a b c))

/-- so deep a tree is -/
abbrev deep : Nat := 40

/-! ### memory -/
inductive MB where
  | hole
  | dead
  | cells (e size : Nat) (app : Bool) (cs : List EV)
  | mp (es : List (EV × EV))

structure H where
  t : Tr MB
  next : Nat

def H.at (h : H) (b : Nat) : MB := match h.t.get b with | some x => x | none => .dead

def H.put (h : H) (b : Nat) (x : MB) : H := match h.t.set deep b (some x) with
  | .lf => ⟨.lf, h.next⟩
  | .nd a l r => ⟨.nd a l r, h.next⟩

/-- a new block -/
def H.new (h : H) (x : MB) : Option H := bif Nat.blt h.next 1000000000 then
    match h.t.set deep h.next (some x) with
    | .lf => none
    | .nd a l r => match h.next with | 0 => some ⟨.nd a l r, 1⟩ | n + 1 => some ⟨.nd a l r, n + 2⟩
  else none

/-- a new block, at a key that was kept for it, or at the next one -/
def H.mkAt (h : H) (key : Option Nat) (x : MB) : Option (Nat × H) := match key with
  | none => match h.new x with | some h' => some (h.next, h') | none => none
  | some b => match h.at b with | .hole => some (b, h.put b x) | _ => none

def H.cells (h : H) (b : Nat) : Option (List EV) := match h.at b with | .cells _ _ _ cs => some cs | _ => none

abbrev FE := Tr EV

def getE (fe : FE) (t : Nat) : EV := match fe.get t with | some v => v | none => .und

/-- a number written out -/
def frcN {α : Type} (n : Nat) (K : Nat → α) : α := match n with | 0 => K 0 | m + 1 => K (m + 1)

def frc {α : Type} (v : EV) (K : EV → α) : α := match v with
  | .int k (.ofNat n) => match n with | 0 => K (.int k (.ofNat 0)) | m + 1 => K (.int k (.ofNat (m + 1)))
  | .int k (.negSucc n) => match n with | 0 => K (.int k (.negSucc 0)) | m + 1 => K (.int k (.negSucc (m + 1)))
  | .bool true => K (.bool true)
  | .bool false => K (.bool false)
  | .ptr b o => frcN b fun b => frcN o fun o => K (.ptr b o)
  | .sl b o l c => frcN b fun b => frcN o fun o => frcN l fun l => frcN c fun c => K (.sl b o l c)
  | .su b o l => frcN b fun b => frcN o fun o => frcN l fun l => K (.su b o l)
  | v => K v

def putE (fe : FE) (d : Option Tmp) (v : EV) : FE := match d with
  | some d => frc v fun v => fe.set deep d (some v)
  | none => fe

/-! ### constants -/
mutual
def dnV : Value → Option EV
  | .int k n => some (.int k n)
  | .bool b => some (.bool b)
  | .string s => some (.str (s.data.toList.map (fun b => b.toNat)))
  | .pointer none => some .nilp
  | .slice none 0 0 => some .nils
  | .map none => some .nilm
  | .func (.func f) ⟨a⟩ ⟨c⟩ => match dnL a, dnL c with | some a', some c' => some (.fn f a' c') | _, _ => none
  | .nilFunc => some .nilf
  | .nilIface => some .nili
  | .agg ⟨l⟩ => match dnL l with | some l' => some (.agg l') | none => none
  | .tuple ⟨l⟩ => match dnL l with | some l' => some (.tup l') | none => none
  | _ => none
def dnL : List Value → Option (List EV)
  | [] => some []
  | v :: r => match dnV v, dnL r with | some x, some xs => some (x :: xs) | _, _ => none
end

def evE (fe : FE) : Operand → Option EV
  | .tmp t => some (getE fe t)
  | .const v => dnV v
  | .global _ => none
  | .func f => some (.fn f [] [])

def evLE (fe : FE) : List Operand → Option (List EV)
  | [] => some []
  | x :: r => match evE fe x with
    | some v => match evLE fe r with | some vs => some (v :: vs) | none => none
    | none => none

def evOE (fe : FE) : Option Operand → Option (Option EV)
  | none => some none
  | some x => match evE fe x with | some v => some (some v) | none => none

def evPE (fe : FE) : List (Nat × Operand) → Option (List (Nat × EV))
  | [] => some []
  | (i, x) :: r => match evE fe x with
    | some v => match evPE fe r with | some vs => some ((i, v) :: vs) | none => none
    | none => none

/-! ### has a value the form that is expected? -/
def isOneE : EV → Bool
  | .agg _ => false
  | .tup _ => false
  | _ => true

def allOneE : List EV → Bool
  | [] => true
  | v :: r => isOneE v && allOneE r

def kEq : IntKind → IntKind → Bool
  | .i8, .i8 => true
  | .i16, .i16 => true
  | .i32, .i32 => true
  | .i64, .i64 => true
  | .u8, .u8 => true
  | .u16, .u16 => true
  | .u32, .u32 => true
  | .u64, .u64 => true
  | _, _ => false

def repE : Rep → EV → Bool
  | .int k, .int k' _ => kEq k k'
  | .bool, .bool _ => true
  | .str, .str _ => true
  | .ptr, .ptr _ _ => true
  | .ptr, .nilp => true
  | .val, _ => true
  | _, _ => false

def repsE : List Rep → List EV → Bool
  | [], [] => true
  | r :: rs, v :: vs => repE r v && repsE rs vs
  | _, _ => false

def shE : Sh0 → EV → Bool
  | .one r, v => repE r v
  | .agg rs, .agg vs => repsE rs vs
  | _, _ => false

def shsE : List Sh0 → List EV → Bool
  | [], [] => true
  | s :: ss, v :: vs => shE s v && shsE ss vs
  | _, _ => false

def spE : Shp → EV → Bool
  | .s x, v => shE x v
  | .tup ss, .tup vs => shsE ss vs
  | _, _ => false

/-- a call's results -/
def resE (v : EV) : List Sh0 → Bool
  | [s] => shE s v
  | ss => match v with | .tup vs => shsE ss vs | _ => false

/-! ### numbers -/
def maxN : IntKind → Nat
  | .i8 => 127 | .i16 => 32767 | .i32 => 2147483647 | .i64 => 9223372036854775807
  | .u8 => 255 | .u16 => 65535 | .u32 => 4294967295 | .u64 => 18446744073709551615

def wrapE (k : IntKind) (n : Int) : Int := match n with
  | .ofNat m => bif Nat.ble m (maxN k) then .ofNat m else k.wrap (.ofNat m)
  | .negSucc m => k.wrap (.negSucc m)

def ltE : Int → Int → Bool
  | .ofNat a, .ofNat b => Nat.blt a b
  | .ofNat _, .negSucc _ => false
  | .negSucc _, .ofNat _ => true
  | .negSucc a, .negSucc b => Nat.blt b a

def eqE : Int → Int → Bool
  | .ofNat a, .ofNat b => Nat.beq a b
  | .negSucc a, .negSucc b => Nat.beq a b
  | _, _ => false

def landE (k : IntKind) : Int → Int → Int
  | .ofNat a, .ofNat b => bif Nat.ble a (maxN k) && Nat.ble b (maxN k) then .ofNat (Nat.land a b) else bitsI .and k (.ofNat a) (.ofNat b)
  | a, b => bitsI .and k a b
def lorE (k : IntKind) : Int → Int → Int
  | .ofNat a, .ofNat b => bif Nat.ble a (maxN k) && Nat.ble b (maxN k) then .ofNat (Nat.lor a b) else bitsI .or k (.ofNat a) (.ofNat b)
  | a, b => bitsI .or k a b
def lxorE (k : IntKind) : Int → Int → Int
  | .ofNat a, .ofNat b => bif Nat.ble a (maxN k) && Nat.ble b (maxN k) then .ofNat (Nat.xor a b) else bitsI .xor k (.ofNat a) (.ofNat b)
  | a, b => bitsI .xor k a b

def intE (op : BinOp) (k : IntKind) (a b : Int) : Option EV := match op with
  | .add => some (.int k (wrapE k (a + b)))
  | .sub => some (.int k (wrapE k (a - b)))
  | .mul => some (.int k (wrapE k (a * b)))
  | .quo => match b with | .ofNat 0 => none | b => some (.int k (wrapE k (a.tdiv b)))
  | .rem => match b with | .ofNat 0 => none | b => some (.int k (a.tmod b))
  | .and => some (.int k (landE k a b))
  | .or => some (.int k (lorE k a b))
  | .xor => some (.int k (lxorE k a b))
  | .andNot => some (.int k (bitsI .andNot k a b))
  | .eql => some (.bool (eqE a b))
  | .neq => some (.bool (!eqE a b))
  | .lss => some (.bool (ltE a b))
  | .leq => some (.bool (!ltE b a))
  | .gtr => some (.bool (ltE b a))
  | .geq => some (.bool (!ltE a b))
  | _ => none

def eqNL : List Nat → List Nat → Bool
  | [], [] => true
  | a :: r, b :: s => Nat.beq a b && eqNL r s
  | _, _ => false

def lenE {α : Type} : List α → Nat → Nat
  | [], n => n
  | _ :: r, n => frcN n fun n => lenE r (n + 1)

/-- each a byte -/
def bytesE : List Nat → Bool
  | [] => true
  | n :: r => Nat.blt n 256 && bytesE r

def strE (op : BinOp) (a b : List Nat) : Option EV := match op with
  | .add => bif Nat.ble (lenE a 0 + lenE b 0) 1000000 then some (.str (a ++ b)) else none
  | .eql => bif bytesE a && bytesE b then some (.bool (eqNL a b)) else none
  | .neq => bif bytesE a && bytesE b then some (.bool (!eqNL a b)) else none
  | _ => none

def binIntE (op : BinOp) (x y : EV) : Option EV := match op with
  | .shl => match x, y with
    | .int k a, .int _ (.ofNat b) => some (.int k (wrapE k (a * .ofNat (2 ^ (min b k.bits)))))
    | _, _ => none
  | .shr => match x, y with
    | .int k (.ofNat a), .int _ (.ofNat b) => some (.int k (.ofNat (a / 2 ^ (min b k.bits))))
    | .int k (.negSucc a), .int _ (.ofNat b) => some (.int k ((Int.negSucc a).fdiv (2 ^ (min b k.bits))))
    | _, _ => none
  | op => match x, y with
    | .int k a, .int k' b => bif kEq k k' then intE op k a b else none
    | _, _ => none

def isNilE : EV → Option Bool
  | .sl _ _ _ _ => some false
  | .su _ _ _ => some false
  | .st _ _ _ _ => some false
  | .nils => some true
  | .mp _ => some false
  | .nilm => some true
  | .ptr _ _ => some false
  | .nilp => some true
  | .fn _ _ _ => some false
  | .nilf => some true
  | _ => none

inductive NK where | sl | mp | ptr | fn | bool | int | str | ifc | no
def nkOf (P : Program) (t : TypeId) : NK := match P.underlying t with
  | some (.slice _) => .sl
  | some (.map _ _) => .mp
  | some (.pointer _) => .ptr
  | some (.func _ _ _) => .fn
  | some .bool => .bool
  | some (.int _) => .int
  | some .string => .str
  | some (.interface _) => .ifc
  | _ => .no

def nilCmp (k : NK) (op : BinOp) (x y : EV) : Option EV := match k, x, y with
  | .sl, .sl _ _ _ _, .nils => some (.bool (negIf op false))
  | .sl, .su _ _ _, .nils => some (.bool (negIf op false))
  | .sl, .st _ _ _ _, .nils => some (.bool (negIf op false))
  | .sl, .nils, .nils => some (.bool (negIf op true))
  | .mp, .mp _, .nilm => some (.bool (negIf op false))
  | .mp, .nilm, .nilm => some (.bool (negIf op true))
  | .ptr, .ptr _ _, .nilp => some (.bool (negIf op false))
  | .ptr, .nilp, .nilp => some (.bool (negIf op true))
  | .fn, .fn _ _ _, .nilf => some (.bool (negIf op false))
  | .fn, .nilf, .nilf => some (.bool (negIf op true))
  | .ifc, .nili, .nili => some (.bool (negIf op true))
  | _, _, _ => none

def eqOp : BinOp → Bool
  | .eql => true
  | .neq => true
  | _ => false

def binE (P : Program) (op : BinOp) (t : TypeId) (x y : EV) (cy : Bool) : Option EV := match nkOf P t with
  | .int => binIntE op x y
  | .str => match x, y with | .str a, .str b => strE op a b | _, _ => none
  | .bool => match x, y with | .bool a, .bool b => bif eqOp op then some (.bool (negIf op (bif a then b else !b))) else none | _, _ => none
  | .ptr => bif cy && eqOp op then nilCmp .ptr op x y else none
  | .ifc => bif cy && eqOp op then nilCmp .ifc op x y else none
  | k => bif eqOp op then nilCmp k op x y else none

def unE (op : UnOp) (x : EV) : Option EV := match op, x with
  | .not, .bool b => some (.bool !b)
  | .neg, .int k n => some (.int k (wrapE k (0 - n)))
  | .xor, .int k n => some (.int k (bitsI .xor k (if k.signed then -1 else k.max) n))
  | _, _ => none

/-! ### memory -/
/-- n cells from o on -/
def takeE : Nat → List EV → Option (List EV)
  | 0, _ => some []
  | n + 1, v :: r => match takeE n r with | some l => some (v :: l) | none => none
  | _ + 1, [] => none

def dropE : Nat → List EV → Option (List EV)
  | 0, l => some l
  | n + 1, _ :: r => dropE n r
  | _ + 1, [] => none

def partE (o n : Nat) (l : List EV) : Option (List EV) := match dropE o l with | some r => takeE n r | none => none

/-- cells laid over others -/
def layE : Nat → List EV → List EV → Option (List EV)
  | 0, [], l => some l
  | 0, v :: vs, _ :: r => match layE 0 vs r with | some l => some (v :: l) | none => none
  | 0, _ :: _, [] => none
  | o + 1, vs, x :: r => match layE o vs r with | some l => some (x :: l) | none => none
  | _ + 1, _, [] => none

def szOf (P : Program) (t : TypeId) : Option Nat := (P.info? t).map (·.size)

def ldE (P : Program) (t : TypeId) (h : H) (b o : Nat) : Option EV := match P.underlying t, h.cells b with
  | some _, some cs => match aggB P t with
    | true => match szOf P t with
      | some n => match partE o n cs with
        | some vs => match shapeOf P t with
          | .agg rs => bif repsE rs vs then some (.agg vs) else none
          | .one _ => some (.agg vs)
        | none => none
      | none => none
    | false => match partE o 1 cs with
      | some [v] => bif repE (repOf P t) v then some v else none
      | _ => none
  | _, _ => none

def setCellsE (h : H) (b o : Nat) (vs : List EV) : Option H := match h.at b with
  | .cells e s a cs => match layE o vs cs with
    | some cs' => some (h.put b (.cells e s a cs'))
    | none => none
  | _ => none

def stE (P : Program) (t : TypeId) (h : H) (b o : Nat) (v : EV) : Option H := match aggB P t with
  | true => match v with
    | .agg vs => match szOf P t with
      | some n => bif Nat.beq n (lenE vs 0) && allOneE vs then setCellsE h b o vs else none
      | none => none
    | _ => none
  | false => match szOf P t with
    | some 1 => bif isOneE v then setCellsE h b o [v] else none
    | _ => none

def noStr : EV → Bool
  | .str _ => false
  | _ => true

def newRowE (h : H) (e size len : Nat) (cs : List EV) : Option (EV × H) :=
  match h.new (.cells e size true cs) with | some h' => some (.su h.next 0 len, h') | none => none

def boundE (x : EV) (y : Nat) : Option Nat := match x with
  | .int _ (.ofNat n) => bif Nat.ble n y then some n else none
  | _ => none

def iaE (P : Program) (t : TypeId) (x i : EV) : Option EV := match i with
  | .int _ (.ofNat n) => match P.underlying t with
    | some (.slice e) => match szOf P e with
      | some s => match x with
        | .sl b o len _ => bif Nat.blt n len then some (.ptr b (o + n * s)) else none
        | .su b o len => bif Nat.blt n len then some (.ptr b (o + n * s)) else none
        | _ => none
      | none => none
    | some (.array len e) => match szOf P e with
      | some s => match x with
        | .ptr b o => bif Nat.blt n len then some (.ptr b (o + n * s)) else none
        | _ => none
      | none => none
    | _ => none
  | _ => none

/-- low, high, max of a slice whose capacity is known -/
def boundsE (len cap : Nat) (lo hi mx : Option EV) : Option (Nat × Nat × Nat) :=
  match (match mx with | some v => boundE v cap | none => some cap) with
  | none => none
  | some m => match (match hi with | some v => boundE v m | none => match mx with | none => some len | some _ => none) with
    | none => none
    | some h => match (match lo with | some v => boundE v h | none => some 0) with
      | none => none
      | some l => some (l, h, m)

def withH (v : Option EV) (h : H) : Option (EV × H) := match v with | some v => some (v, h) | none => none

/-- the row's elements have so many cells -/
def okSize (h : H) (b size : Nat) : Bool := match h.at b with
  | .cells _ s _ _ => Nat.beq s size
  | _ => false

def slE (P : Program) (t : TypeId) (h : H) (x : EV) (lo hi mx : Option EV) : Option (EV × H) := match P.underlying t with
  | some .string => match x, mx with
    | .str s, none => match boundsE (lenE s 0) (lenE s 0) lo hi none with
      | some (l, r, _) => some (.str ((s.drop l).take (r - l)), h)
      | none => none
    | _, _ => none
  | some (.slice e) => match szOf P e with
    | some size => match x with
      | .nils => match boundsE 0 0 lo hi mx with
        | some (_, _, _) => some (.nils, h)
        | none => none
      | .sl b o len cap => match boundsE len cap lo hi mx with
        | some (l, r, m) => some (.sl b (bif Nat.beq m l then o else o + l * size) (r - l) (m - l), h)
        | none => none
      | .su b o len => match h.cells b with
        | some cs => bif Nat.blt 0 size then (match boundsE len ((lenE cs 0 - o) / size) lo hi mx with
          | some (l, r, m) => match mx with
            | some _ => bif okSize h b size then some (.sl b (bif Nat.beq m l then o else o + l * size) (r - l) (m - l), h) else none
            | none => bif okSize h b size then (bif Nat.blt l ((lenE cs 0 - o) / size) || Nat.beq l 0 then some (.su b (o + l * size) (r - l), h) else bif Nat.beq r l then some (.st b o l false, h) else none) else none
          | none => none) else none
        | none => none
      | .st b o q z => match boundsE 0 0 lo hi mx with
        | some (_, _, _) => match mx with
          | some _ => some (.st b o q true, h)
          | none => some (.st b o q z, h)
        | none => none
      | _ => none
    | none => none
  | some (.array n e) => match szOf P e with
    | some size => match x with
      | .ptr b o => match boundsE n n lo hi mx with
        | some (l, r, m) => some (.sl b (bif Nat.beq m l then o else o + l * size) (r - l) (m - l), h)
        | none => none
      | _ => none
    | none => none
  | _ => none

def faE (P : Program) (t : TypeId) (f : Nat) (x : EV) : Option EV := match x with
  | .ptr b o => match fieldOff P t f with
    | some n => some (.ptr b (o + n))
    | none => none
  | _ => none

def fldE (P : Program) (t : TypeId) (x : EV) (f : Nat) : Option EV := match P.underlying t, x with
  | some (.struct fs), .agg cs => match fs[f]? with
    | some fd => match P.underlying fd.type with
      | none => none
      | some _ => match aggB P fd.type with
        | true => match szOf P fd.type with
          | some n => match partE fd.offset n cs with
            | some vs => some (.agg vs)
            | none => none
          | none => none
        | false => match partE fd.offset 1 cs with
          | some [v] => some v
          | _ => none
    | none => none
  | _, _ => none

def cellsE : EV → List EV
  | .agg l => l
  | v => [v]

def fillE (place : Nat → Option (Nat × Nat)) : List EV → List (Nat × EV) → Option (List EV)
  | cells, [] => some cells
  | cells, (i, v) :: r => match place i with
    | none => none
    | some (off, size) => match v with
      | .agg l => bif Nat.beq size 1 then none else bif Nat.beq (lenE l 0) size then (match layE off l cells with | some c => fillE place c r | none => none) else none
      | .tup _ => none
      | v => bif Nat.beq size 1 then (match layE off [v] cells with | some c => fillE place c r | none => none) else none

def zeroE (P : Program) (t : TypeId) : Option (List EV) := match (P.info? t).bind (·.zero) with
  | some z => match dnV z with | some v => some (cellsE v) | none => none
  | none => none

def placesOf (P : Program) (fs : List Field) : Option (List (Nat × Nat)) := fs.mapM (fun f => (P.info? f.type).map (fun i => (f.offset, i.size)))

def bdE (P : Program) (t : TypeId) (parts : List (Nat × EV)) : Option EV := match zeroE P t, P.underlying t with
  | some z, some (.struct fields) => match placesOf P fields.toList with
    | some places => match fillE (fun i => places[i]?) z parts with | some cs => some (.agg cs) | none => none
    | none => none
  | some z, some (.array _ e) => match szOf P e with
    | some size => match fillE (fun i => some (i * size, size)) z parts with | some cs => some (.agg cs) | none => none
    | none => none
  | _, _ => none

def repl (n : Nat) (z : List EV) : List EV := match n with
  | 0 => []
  | n + 1 => z ++ repl n z

def bsE (P : Program) (key : Option Nat) (t : TypeId) (len : Nat) (parts : List (Nat × EV)) (h : H) : Option (EV × H) := match P.underlying t with
  | some (.slice e) => match szOf P e, zeroE P e with
    | some size, some z => bif Nat.ble (len * size) 1024 && Nat.blt 0 size && Nat.beq (lenE z 0) size then
        match fillE (fun i => some (i * size, size)) (repl len z) parts with
        | some cs => bif allOneE cs then (match h.mkAt key (.cells e size true cs) with | some (b, h') => some (.sl b 0 len len, h') | none => none) else none
        | none => none
      else none
    | _, _ => none
  | _ => none

def alE (P : Program) (key : Option Nat) (t : TypeId) (h : H) : Option (EV × H) := match zeroE P t with
  | some cs => bif allOneE cs && Nat.ble (lenE cs 0) 65536 then (match h.mkAt key (.cells t 1 true cs) with | some (b, h') => some (.ptr b 0, h') | none => none) else none
  | none => none

def boxE (key : Option Nat) (t : TypeId) (x : EV) (h : H) : Option (EV × H) :=
  bif allOneE (cellsE x) && Nat.ble (lenE (cellsE x) 0) 65536 then (match h.mkAt key (.cells t 1 true (cellsE x)) with | some (b, h') => some (.ptr b 0, h') | none => none) else none

def nthE : List EV → Nat → Option EV
  | [], _ => none
  | v :: _, 0 => some v
  | _ :: r, n + 1 => nthE r n

def nthN : List Nat → Nat → Option Nat
  | [], _ => none
  | v :: _, 0 => some v
  | _ :: r, n + 1 => nthN r n

/-- a slice's elements, or a text's, cell by cell -/
def srcE (size : Nat) (h : H) (x : EV) : Option (Nat × List EV) := match x with
  | .nils => some (0, [])
  | .st _ _ _ _ => some (0, [])
  | .sl b o len _ => match h.cells b with
    | some cs => match partE o (len * size) cs with | some l => some (len, l) | none => none
    | none => none
  | .su b o len => match h.cells b with
    | some cs => match partE o (len * size) cs with | some l => some (len, l) | none => none
    | none => none
  | .str s => bif Nat.beq size 1 && bytesE s then some (lenE s 0, s.map (fun n => .int .u8 (.ofNat n))) else none
  | _ => none

/-- its type is a slice's or a text's; its elements have so many cells -/
def srcTy (P : Program) (size : Nat) (t : TypeId) : Bool := match P.underlying t with
  | some (.slice e) => match szOf P e with | some s => Nat.beq s size | none => false
  | some .string => Nat.beq size 1
  | _ => false

/-- may so many elements be made? -/
def roomOk (len bytes : Nat) : Bool := Nat.ble (4 * len + 4096) 1099511627776 && Nat.ble ((4 * len + 4096) * bytes) 281474976710656

/-- onto a row whose capacity is not known -/
def apUE (h : H) (e size bytes b o len n : Nat) (news : List EV) : Option (EV × H) := match h.at b with
  | .cells _ s _ cs => bif Nat.beq s size then
      (bif Nat.ble (o + (len + n) * size) (lenE cs 0) then (match setCellsE h b (o + len * size) news with
        | some h' => some (.su b o (len + n), h')
        | none => none)
      else bif roomOk (len + n) bytes then (match partE o (len * size) cs with | some olds => newRowE (h.put b .dead) e size (len + n) (olds ++ news) | none => none) else none)
    else none
  | _ => none

def suOk (h : H) (b o len size : Nat) : Bool := match h.at b with
  | .cells _ s _ cs => Nat.beq s size && Nat.ble (o + len * size) (lenE cs 0)
  | _ => false

def apE (P : Program) (t tx : TypeId) (s x : EV) (h : H) : Option (EV × H) := match P.underlying t with
  | some (.slice e) => match P.info? e with
    | some i => bif Nat.blt 0 i.size && srcTy P i.size tx then
        match i.zero, srcE i.size h x with
        | some z, some (n, news) => bif Nat.beq z.cells.size i.size then (match s with
          | .nils => bif Nat.beq n 0 then some (.nils, h) else bif roomOk n i.bytes then newRowE h e i.size n news else none
          | .sl b o len cap => bif Nat.ble (len + n) cap then
              (bif Nat.beq n 0 then some (.sl b o len cap, h) else match setCellsE h b (o + len * i.size) news with
              | some h' => some (.sl b o (len + n) cap, h')
              | none => none)
            else (bif roomOk (len + n) i.bytes then match h.cells b with
              | some cs => match partE o (len * i.size) cs with | some olds => newRowE h e i.size (len + n) (olds ++ news) | none => none
              | none => none
            else none)
          | .su b o len => bif Nat.beq n 0 then (bif suOk h b o len i.size then some (.su b o len, h) else none) else apUE h e i.size i.bytes b o len n news
          | .st b o l z => bif Nat.beq n 0 then some (.st b o l z, h) else bif z then (bif roomOk n i.bytes then newRowE h e i.size n news else none) else apUE h e i.size i.bytes b (o + l * i.size) 0 n news
          | _ => none) else none
        | _, _ => none
      else none
    | none => none
  | _ => none

def cpE (P : Program) (t tx : TypeId) (d x : EV) (h : H) : Option (EV × H) := match P.underlying t with
  | some (.slice e) => match P.info? e with
    | some i => bif srcTy P i.size tx && noStr x then match srcE i.size h x with
        | some (n, news) => match d with
          | .nils => some (.int .i64 0, h)
          | .st _ _ _ _ => some (.int .i64 0, h)
          | .sl b o len _ => match takeE ((min n len) * i.size) news with
            | some l => match setCellsE h b o l with | some h' => some (.int .i64 (.ofNat (min n len)), h') | none => none
            | none => none
          | .su b o len => match takeE ((min n len) * i.size) news with
            | some l => match setCellsE h b o l with | some h' => some (.int .i64 (.ofNat (min n len)), h') | none => none
            | none => none
          | _ => none
        | none => none
      else none
    | none => none
  | _ => none

def mkE (P : Program) (key : Option Nat) (t : TypeId) (l c : EV) (h : H) : Option (EV × H) := match P.underlying t with
  | some (.slice e) => match P.info? e, zeroE P e with
    | some i, some z => match l, c with
      | .int _ (.ofNat n), .int _ (.ofNat m) => bif Nat.ble n m && Nat.ble m 1099511627776 && Nat.ble (m * i.bytes) 281474976710656 && Nat.beq (lenE z 0) i.size && Nat.blt 0 i.size && allOneE z then
          match h.mkAt key (.cells e i.size true (repl m z)) with | some (b, h') => some (.sl b 0 n m, h') | none => none
        else none
      | _, _ => none
    | _, _ => none
  | _ => none

def s2aE (P : Program) (t : TypeId) (x : EV) : Option EV := match P.underlying t with
  | some (.array n _) => match x with
      | .sl b o len _ => bif Nat.ble n len then some (.ptr b o) else none
      | .su b o len => bif Nat.ble n len then some (.ptr b o) else none
      | _ => none
  | _ => none

/-- noughts over a slice's elements -/
def clE (P : Program) (t : TypeId) (x : EV) (h : H) : Option (EV × H) := match P.underlying t with
  | some (.slice e) => match szOf P e, zeroE P e with
    | some size, some z => bif Nat.beq (lenE z 0) size && allOneE z then match x with
        | .nils => some (.und, h)
        | .st _ _ _ _ => some (.und, h)
        | .sl b o len _ => match setCellsE h b o (repl len z) with | some h' => some (.und, h') | none => none
        | .su b o len => match setCellsE h b o (repl len z) with | some h' => some (.und, h') | none => none
        | _ => none
      else none
    | _, _ => none
  | _ => none

def ixE (P : Program) (t : TypeId) (x i : EV) : Option EV := match P.underlying t, x, i with
  | some .string, .str s, .int _ (.ofNat n) => match nthN s n with
    | some m => bif Nat.blt m 256 then some (.int .u8 (.ofNat m)) else none
    | none => none
  | _, _, _ => none

def cellBytes : List EV → Option (List Nat)
  | [] => some []
  | .int .u8 (.ofNat n) :: r => match cellBytes r with | some l => some (n :: l) | none => none
  | _ => none

/-- bytes as a text, a text as a text, a number as a number -/
def cvE (P : Program) (s d : TypeId) (x : EV) (h : H) : Option (EV × H) := match P.underlying s, P.underlying d with
  | some (.int _), some (.int k) => match x with | .int _ n => some (.int k (wrapE k n), h) | _ => none
  | some .string, some .string => match x with | .str b => some (.str b, h) | _ => none
  | some (.slice e), some .string => match P.underlying e with
    | some (.int .u8) => match srcE 1 h x with
      | some (_, cs) => match cellBytes cs with
        | some l => bif bytesE l && noStr x then some (.str l, h) else none
        | none => none
      | none => none
    | _ => none
  | some .string, some (.slice e) => match P.underlying e, x with
    | some (.int .u8), .str b => bif bytesE b && Nat.ble (lenE b 0) 1000000 then newRowE h e 1 (lenE b 0) (b.map (fun n => .int .u8 (.ofNat n))) else none
    | _, _ => none
  | _, _ => none

def lenOfE (P : Program) (t : TypeId) (x : EV) : Option EV := match P.underlying t with
  | some .string => match x with | .str s => some (.int .i64 (.ofNat (lenE s 0))) | _ => none
  | some (.array n _) => some (.int .i64 (.ofNat n))
  | some (.slice _) => match x with
    | .nils => some (.int .i64 0)
    | .st _ _ _ _ => some (.int .i64 0)
    | .sl _ _ n _ => some (.int .i64 (.ofNat n))
    | .su _ _ n => some (.int .i64 (.ofNat n))
    | _ => none
  | _ => none

/-! ### maps whose keys are texts or numbers -/
def keyEq (a b : EV) : Option Bool := match a, b with
  | .str s, .str t => bif bytesE s && bytesE t then some (eqNL s t) else none
  | _, _ => none

def findE (k : EV) : List (EV × EV) → Option (Option EV)
  | [] => some none
  | (a, v) :: r => match keyEq k a with
    | some true => some (some v)
    | some false => findE k r
    | none => none

def layM (k v : EV) : List (EV × EV) → Option (List (EV × EV))
  | [] => some [(k, v)]
  | (a, u) :: r => match keyEq k a with
    | some true => some ((a, v) :: r)
    | some false => match layM k v r with | some r' => some ((a, u) :: r') | none => none
    | none => none

inductive MK where | str | no
def mkOf (P : Program) (t : TypeId) : MK := match P.underlying t with
  | some .string => .str
  | _ => .no

def keyOk : MK → EV → Bool
  | .str, .str _ => true
  | _, _ => false

def entsE (h : H) (x : EV) : Option (List (EV × EV)) := match x with
  | .nilm => some []
  | .mp b => match h.at b with
    | .mp es => some es
    | _ => none
  | _ => none

def lkE (P : Program) (sp : Shp) (t : TypeId) (x k : EV) (ok : Bool) (h : H) : Option EV := match P.underlying t with
  | some (.map kt et) => bif keyOk (mkOf P kt) k then
      match entsE h x, (P.info? et).bind (·.zero) with
      | some es, some z => match findE k es, dnV z with
        | some (some v), _ => bif ok then (bif spE sp (.tup [v, .bool true]) then some (.tup [v, .bool true]) else none) else bif spE sp v then some v else none
        | some none, some z => bif ok then (bif spE sp (.tup [z, .bool false]) then some (.tup [z, .bool false]) else none) else bif spE sp z then some z else none
        | _, _ => none
      | _, _ => none
    else none
  | _ => none

def muE (P : Program) (t : TypeId) (m k v : EV) (h : H) : Option H := match P.underlying t with
  | some (.map kt _) => bif keyOk (mkOf P kt) k then
      match m with
      | .mp b => match h.at b with
        | .mp es => match layM k v es with
          | some es' => some (h.put b (.mp es'))
          | none => none
        | _ => none
      | _ => none
    else none
  | _ => none

def mmE (h : H) : Option (EV × H) := match h.new (.mp []) with | some h' => some (.mp h.next, h') | none => none

/-! ### operations -/
abbrev CallT := FuncId → List EV → H → Option (EV × H)

def unH (h : Option H) : Option (EV × H) := match h with | some h => some (.und, h) | none => none

def hasBody (P : Program) (f : FuncId) : Bool := match (P.funcs[f]?).map (fun fn => fn.body.isSome) with | some true => true | _ => false

/-- noughts behind nil -/
def azE (P : Program) (t : TypeId) (s x : EV) (h : H) : Option (EV × H) := match P.underlying t, s, x with
  | some (.slice e), .nils, .int .i64 (.ofNat n) => match P.info? e, zeroE P e with
    | some i, some z => bif Nat.blt 0 n && Nat.blt 0 i.size && roomOk n i.bytes && Nat.beq (lenE z 0) i.size && allOneE z then newRowE h e i.size n (repl n z) else none
    | _, _ => none
  | _, _, _ => none

def apxE (P : Program) (t tx : TypeId) (s x : EV) (h : H) : Option (EV × H) := match P.underlying tx with
  | some (.int _) => azE P t s x h
  | _ => apE P t tx s x h

def capE (P : Program) (t : TypeId) (x : EV) : Option EV := match P.underlying t with
  | some (.slice _) => match x with
    | .nils => some (.int .i64 (.ofNat 0))
    | .sl _ _ _ c => some (.int .i64 (.ofNat c))
    | _ => none
  | _ => none

def bltE (P : Program) (b : Builtin) (ts : List TypeId) (vs : List EV) (h : H) : Option (EV × H) := match b, ts, vs with
  | .len, [t], [v] => withH (lenOfE P t v) h
  | .min, _, [.int k x, .int k' y] => bif kEq k k' then some (.int k (bif ltE y x then y else x), h) else none
  | .max, _, [.int k x, .int k' y] => bif kEq k k' then some (.int k (bif ltE x y then y else x), h) else none
  | .append, [t, tx], [s, x] => apxE P t tx s x h
  | .copy, [t, tx], [s, x] => cpE P t tx s x h
  | .clear, [t], [x] => clE P t x h
  | .cap, [t], [x] => withH (capE P t x) h
  | _, _, _ => none

def tyShapes (P : Program) (t : TypeId) : List Sh0 := match P.underlying t with
  | some (.tuple ts) => ts.toList.map (shapeOf P)
  | _ => [shapeOf P t]

def opE (P : Program) (call : CallT) (key : Option Nat) (fe : FE) (o : Oper) (h : H) : Option (EV × H) := match o.op with
  | .move x => withH (evE fe x) h
  | .assign x => withH (evE fe x) h
  | .pick c a b => match evE fe c with
    | some (.bool true) => withH (evE fe a) h
    | some (.bool false) => withH (evE fe b) h
    | _ => none
  | .binOp op t x y _ => match evE fe x with
    | some x' => match evE fe y with | some y' => withH (binE P op t x' y' (isConstO y)) h | none => none
    | none => none
  | .unOp op _ x => match evE fe x with | some x' => withH (unE op x') h | none => none
  | .convert s d x => match evE fe x with | some x' => cvE P s d x' h | none => none
  | .load t a => match evE fe a with | some (.ptr b o) => withH (ldE P t h b o) h | _ => none
  | .store t a x => match evE fe a with
    | some (.ptr b o) => match evE fe x with | some v => unH (stE P t h b o v) | none => none
    | _ => none
  | .nilCheck x => match evE fe x with
    | some (.ptr b o) => some (.ptr b o, h)
    | some (.fn f a c) => some (.fn f a c, h)
    | _ => none
  | .fieldAddr t x f => match evE fe x with | some x' => withH (faE P t f x') h | none => none
  | .indexAddr t x i => match evE fe x with
    | some x' => match evE fe i with | some i' => withH (iaE P t x' i') h | none => none
    | none => none
  | .index t x i => match evE fe x with
    | some x' => match evE fe i with | some i' => withH (ixE P t x' i') h | none => none
    | none => none
  | .slice t x lo hi mx => match evE fe x with
    | some x' => match evOE fe lo with
      | some lo' => match evOE fe hi with
        | some hi' => match evOE fe mx with | some mx' => slE P t h x' lo' hi' mx' | none => none
        | none => none
      | none => none
    | none => none
  | .build t parts => match evPE fe parts.toList with | some ps => withH (bdE P t ps) h | none => none
  | .buildSlice t n parts => match evPE fe parts.toList with | some ps => bsE P key t n ps h | none => none
  | .alloc t => alE P key t h
  | .box t x => match evE fe x with | some v => boxE key t v h | none => none
  | .extract x i => match evE fe x with
    | some (.tup vs) => withH (nthE vs i) h
    | _ => none
  | .call c => match c.callee with
    | .builtin b => match evLE fe c.args.toList with
      | some vs => match bltE P b c.argTypes.toList vs h with
        | some (v, h') => bif repE (repOf P o.type) v then some (v, h') else none
        | none => none
      | none => none
    | .value (.func f) => match evLE fe c.args.toList with
      | some vs => bif hasBody P f then (match call f vs h with
        | some (v, h') => bif resE v (resShapes P f) then some (v, h') else none
        | none => none) else none
      | none => none
    | .value x => match evE fe x with
      | some (.fn f first cap) => match evLE fe c.args.toList with
        | some vs => bif hasBody P f then (match call f (first ++ (vs ++ cap)) h with
          | some (v, h') => bif resE v (tyShapes P o.type) then some (v, h') else none
          | none => none) else none
        | none => none
      | _ => none
    | _ => none
  | .makeFunc (.func f) first captured => match evLE fe first.toList with
    | some a => match evLE fe captured.toList with | some c => some (.fn f a c, h) | none => none
    | none => none
  | .makeMap _ none => mmE h
  | .makeSlice t l c => match evE fe l with
    | some l' => match evE fe c with | some c' => mkE P key t l' c' h | none => none
    | none => none
  | .sliceToArrayPointer t x => match evE fe x with | some x' => withH (s2aE P t x') h | none => none
  | .field t x f => match evE fe x with | some x' => withH (fldE P t x' f) h | none => none
  | .lookup t x i ok => match evE fe x with
    | some x' => match evE fe i with | some i' => withH (lkE P (shpOf P o.type) t x' i' ok h) h | none => none
    | none => none
  | .mapUpdate t m k x => match evE fe m with
    | some m' => match evE fe k with
      | some k' => match evE fe x with | some x' => unH (muE P t m' k' x' h) | none => none
      | none => none
    | none => none
  | .insert t m k x => match evE fe m with
    | some m' => match evE fe k with
      | some k' => match evE fe x with | some x' => unH (muE P t m' k' x' h) | none => none
      | none => none
    | none => none
  | _ => none

/-! ### equality -/
def beqB : Bool → Bool → Bool
  | true, true => true
  | false, false => true
  | _, _ => false

mutual
def veq : EV → EV → Bool
  | .int k n, .int k' m => kEq k k' && eqE n m
  | .bool a, .bool b => beqB a b
  | .str s, .str t => eqNL s t
  | .ptr b o, .ptr b' o' => Nat.beq b b' && Nat.beq o o'
  | .nilp, .nilp => true
  | .sl b o l c, .sl b' o' l' c' => Nat.beq b b' && Nat.beq o o' && Nat.beq l l' && Nat.beq c c'
  | .su b o l, .su b' o' l' => Nat.beq b b' && Nat.beq o o' && Nat.beq l l'
  | .st b o l z, .st b' o' l' z' => Nat.beq b b' && Nat.beq o o' && Nat.beq l l' && beqB z z'
  | .nils, .nils => true
  | .mp b, .mp b' => Nat.beq b b'
  | .nilm, .nilm => true
  | .fn f a c, .fn f' a' c' => Nat.beq f f' && veqL a a' && veqL c c'
  | .nilf, .nilf => true
  | .nili, .nili => true
  | .agg l, .agg l' => veqL l l'
  | .tup l, .tup l' => veqL l l'
  | _, _ => false
def veqL : List EV → List EV → Bool
  | [], [] => true
  | a :: r, b :: s => veq a b && veqL r s
  | _, _ => false
end

def veqP : List (EV × EV) → List (EV × EV) → Bool
  | [], [] => true
  | (a, b) :: r, (c, d) :: s => veq a c && veq b d && veqP r s
  | _, _ => false

def meq : MB → MB → Bool
  | .hole, .hole => true
  | .dead, .dead => true
  | .cells e s a cs, .cells e' s' a' cs' => Nat.beq e e' && Nat.beq s s' && beqB a a' && veqL cs cs'
  | .mp l, .mp l' => veqP l l'
  | _, _ => false

def oeq {α : Type} (eq : α → α → Bool) : Option α → Option α → Bool
  | none, none => true
  | some a, some b => eq a b
  | _, _ => false

def teq {α : Type} (eq : α → α → Bool) : Tr α → Tr α → Bool
  | .lf, .lf => true
  | .nd v l r, .nd v' l' r' => oeq eq v v' && teq eq l l' && teq eq r r'
  | _, _ => false

def heq (a b : H) : Bool := Nat.beq a.next b.next && teq meq a.t b.t

/-! ### a region -/
def guardE (ops : List Oper) (o : Oper) (fe : FE) : Option Bool := match o.guard with
  | none => some true
  | some (j, want) => match dstAt ops j with
    | some d => match getE fe d with
      | .bool t => some (bif want then t else !t)
      | _ => some false
    | none => none

def opsE (P : Program) (call : CallT) (ops : List Oper) : List Oper → FE → H → Option (FE × H)
  | [], fe, h => some (fe, h)
  | o :: r, fe, h => match guardE ops o fe with
    | some true => match opE P call none fe o h with
      | some (v, h') => opsE P call ops r (putE fe o.dst v) h'
      | none => none
    | some false => opsE P call ops r (putE fe o.dst .und) h
    | none => none

/-- the quiet ones of a stage -/
def runQE (P : Program) (call : CallT) (ops : List Oper) : List Nat → FE → H → Option (FE × H)
  | [], fe, h => some (fe, h)
  | i :: r, fe, h => match guardE ops (opAt ops i) fe with
    | some true => match opE P call none fe (opAt ops i) h with
      | some (v, h') => runQE P call ops r (putE fe (opAt ops i).dst v) h'
      | none => none
    | some false => runQE P call ops r (putE fe (opAt ops i).dst .und) h
    | none => none

def stillsE (P : Program) (call : CallT) (ops : List Oper) (h : H) (fe : FE) : List Nat → Bool
  | [] => true
  | i :: r => (match guardE ops (opAt ops i) fe with
    | some true => match opE P call none fe (opAt ops i) h with
      | some (v, _) => (match (opAt ops i).dst with | some d => veq v (getE fe d) | none => true)
      | none => false
    | some false => true
    | none => false) && stillsE P call ops h fe r

def keyAt : List (Nat × Nat) → Nat → Option Nat
  | [], _ => none
  | (i, b) :: r, e => bif Nat.beq i e then some b else keyAt r e

/-- the frames alike at the slots that are written -/
def sameAt (fe fe' : FE) : List Nat → Bool
  | [] => true
  | t :: r => veq (getE fe t) (getE fe' t) && sameAt fe fe' r

def dstsL (ops : List Oper) : List Nat := ops.filterMap (·.dst)

/-- all come to one -/
def joinAll : List (Option (FE × H)) → Option (FE × H)
  | [] => none
  | x :: r => match r with
    | [] => x
    | _ :: _ => match x, joinAll r with
      | some (fe1, h1), some (fe2, h2) => bif teq veq fe1 fe2 && heq h1 h2 then some (fe1, h1) else none
      | _, _ => none

def runDE (P : Program) (call : CallT) (ops : List Oper) (ks : List (Nat × Nat)) : Nat → List Nat → FE → H → Option (FE × H)
  | 0, rem, fe, h => match rem with
    | [] => some (fe, h)
    | _ => none
  | n + 1, rem, fe, h => match rem with
    | [] => some (fe, h)
    | _ :: _ => joinAll ((readyE ops rem).map (fun e =>
        match guardE ops (opAt ops e) fe with
          | some true => match opE P call (keyAt ks e) fe (opAt ops e) h with
            | some (v, h') => bif stillsE P call ops h' fe (stillN P ops rem e) then (match runQE P call ops (stageN P ops rem e) (putE fe (opAt ops e).dst v) h' with
              | some (fe'', h'') => runDE P call ops ks n (rem.filter (fun x => !Nat.beq x e)) fe'' h''
              | none => none) else none
            | none => none
          | some false => match runQE P call ops (stageN P ops rem e) (putE fe (opAt ops e).dst .und) h with
            | some (fe'', h'') => runDE P call ops ks n (rem.filter (fun x => !Nat.beq x e)) fe'' h''
            | none => none
          | none => none))

/-- keys that are kept for those that make one block each -/
def mksOne (o : Oper) : Bool := match o.op with
  | .alloc _ => true
  | .box _ _ => true
  | .makeSlice _ _ _ => true
  | .buildSlice _ _ _ => true
  | _ => false

def freeMk (o : Oper) : Bool := mksOne o && (match o.guard with | none => true | some _ => false)

def keep (ops : List Oper) : List Nat → H → Option (List (Nat × Nat) × H)
  | [], h => some ([], h)
  | e :: r, h => bif freeMk (opAt ops e) then (match h.new .hole with
      | some h' => match keep ops r h' with
        | some (ks, h'') => some ((e, h.next) :: ks, h'')
        | none => none
      | none => none) else keep ops r h

def drawE (P : Program) (call : CallT) (ops : List Oper) (fe : FE) (h : H) : Option (FE × H) :=
  bif drawOkB ops then
    match (bif chained (befL [] ops) (effI P ops) then some ([], h) else keep ops (effI P ops) h) with
    | some (ks, h1) => match runQE P call ops (stage0 P ops) fe h1 with
      | some (fe', h2) => runDE P call ops ks (effI P ops).length (effI P ops) fe' h2
      | none => none
    | none => none
  else none

/-! ### the code -/
inductive X where
  | nrm | ext (id : Nat) | ret

abbrev St3 := X × FE × H

def iterE (body : FE → H → Option St3) : Nat → FE → H → Option St3
  | 0, _, _ => none
  | n + 1, fe, h => match body fe h with
    | none => none
    | some (.nrm, fe', h') => iterE body n fe' h'
    | some (.ext i, fe', h') => some (.ext i, fe', h')
    | some (.ret, fe', h') => some (.ret, fe', h')

def exE (P : Program) (call : CallT) (LF : Nat) : Code → FE → H → Option St3
  | .skip, fe, h => some (.nrm, fe, h)
  | .label _, fe, h => some (.nrm, fe, h)
  | .seq a b, fe, h => match exE P call LF a fe h with
    | none => none
    | some (.nrm, fe', h') => exE P call LF b fe' h'
    | some (.ext i, fe', h') => some (.ext i, fe', h')
    | some (.ret, fe', h') => some (.ret, fe', h')
  | .cond c x y, fe, h => match evE fe c with
    | some (.bool true) => exE P call LF x fe h
    | some (.bool false) => exE P call LF y fe h
    | _ => none
  | .block id c, fe, h => match exE P call LF c fe h with
    | none => none
    | some (.nrm, fe', h') => some (.nrm, fe', h')
    | some (.ext i, fe', h') => bif Nat.beq i id then some (.nrm, fe', h') else some (.ext i, fe', h')
    | some (.ret, fe', h') => some (.ret, fe', h')
  | .scope c, fe, h => exE P call LF c fe h
  | .exit id, fe, h => some (.ext id, fe, h)
  | .ret, fe, h => some (.ret, fe, h)
  | .region _ ops draw, fe, h => match (bif draw then drawE P call ops.toList fe h else opsE P call ops.toList ops.toList fe h) with
    | some (fe', h') => some (.nrm, fe', h')
    | none => none
  | .loop c, fe, h => iterE (exE P call LF c) LF fe h
  | _, _, _ => none

/-! ### the call -/
def frame0 : Nat → List EV → FE → FE
  | _, [], fe => fe
  | i, v :: vs, fe => frame0 (i + 1) vs (putE fe (some i) v)

def retE (P : Program) (h : H) (fe : FE) : List ResultVar → Option (List EV)
  | [] => some []
  | .tmp t :: r => match retE P h fe r with | some vs => some (getE fe t :: vs) | none => none
  | .cell a ty :: r => match getE fe a with
    | .ptr b o => match ldE P ty h b o with
      | some v => match retE P h fe r with | some vs => some (v :: vs) | none => none
      | none => none
    | _ => none

def resValE : List EV → EV
  | [v] => v
  | vs => .tup vs

abbrev Sums := FuncId → Option (List EV → H → Option (EV × H))

def callE (P : Program) (sums : Sums) (LF : Nat) : Nat → CallT
  | 0, _, _, _ => none
  | n + 1, f, args, h => match sums f with
    | some s => s args h
    | none => match P.funcs[f]? with
      | some fn => match fn.body with
        | some c => bif wfC fn.ntmps c && Nat.ble (lenE args 0) fn.ntmps && Nat.ble fn.ntmps 100000 then
            match exE P (callE P sums LF n) LF c (frame0 0 args .lf) h with
            | some (.nrm, fe, h') => match retE P h' fe fn.results.toList with | some vs => some (resValE vs, h') | none => none
            | some (.ret, fe, h') => match retE P h' fe fn.results.toList with | some vs => some (resValE vs, h') | none => none
            | _ => none
          else none
        | none => none
      | none => none

end Go.CW.Ex
