/- A part of the proof. -/
import Derived.WalkKit
import Derived.Laws.IdiomCopy
namespace Go.CW
abbrev KV:=Value->World->Prop
abbrev Fr:=List (Nat×Value)
def get:Fr->Nat->Value
 |[],_=>undef
 |(j,v)::r,i=>bif Nat.beq i j then v else get r i
def ev (fr:Fr):Operand->Value
 | .tmp t=>get fr t
 | .const v=>v
 | .global g=>.pointer (some ⟨g,0,none⟩)
 | .func f=>.func (.func f) #[] #[]
def putF (fr:Fr) (d:Option Tmp) (v:Value):Fr:=
 match d with
 |some d=>(d,v)::fr
 |none=>fr
inductive Rep where
 |int (k:IntKind)|bool|str|ptr|val
abbrev Rep.T:Rep->Type
 | .int _=>Int
 | .bool=>Bool
 | .str=>ByteArray
 | .ptr=>Option Addr
 | .val=>Value
def repOf (P:Program) (t:TypeId):Rep:=
 match P.underlying t with
 |some (.int k)=>.int k
 |some .bool=>.bool
 |some .string=>.str
 |some (.pointer _)=>.ptr
 |_=>.val
def exR:(r:Rep)->(Value->Prop)->(Value->Prop)->Prop
 | .int k,φ,K=>∃n:Int,φ (.int k n)/\K (.int k n)
 | .bool,φ,K=>∃b:Bool,φ (.bool b)/\K (.bool b)
 | .str,φ,K=>∃s:ByteArray,φ (.string s)/\K (.string s)
 | .ptr,φ,K=>∃s:Option Addr,φ (.pointer s)/\K (.pointer s)
 | .val,φ,K=>∃v:Value,φ v/\K v
def exRW:(r:Rep)->(Value->World->Prop)->(Value->World->Prop)->Prop
 | .int k,φ,K=>∃(n:Int) (w:World),φ (.int k n) w/\K (.int k n) w
 | .bool,φ,K=>∃(b:Bool) (w:World),φ (.bool b) w/\K (.bool b) w
 | .str,φ,K=>∃(s:ByteArray) (w:World),φ (.string s) w/\K (.string s) w
 | .ptr,φ,K=>∃(s:Option Addr) (w:World),φ (.pointer s) w/\K (.pointer s) w
 | .val,φ,K=>∃(v:Value) (w:World),φ v w/\K v w
def exRs:(rs:List Rep)->(List Value->Prop)->Prop
 |[],K=>K []
 | .int k::rs,K=>∃n:Int,exRs rs (λvs=>K (.int k n::vs))
 | .bool::rs,K=>∃b:Bool,exRs rs (λvs=>K (.bool b::vs))
 | .str::rs,K=>∃s:ByteArray,exRs rs (λvs=>K (.string s::vs))
 | .ptr::rs,K=>∃s:Option Addr,exRs rs (λvs=>K (.pointer s::vs))
 | .val::rs,K=>∃v:Value,exRs rs (λvs=>K (v::vs))
def aggB (P:Program) (t:TypeId):Bool:=
 match P.underlying t with
 |some (.struct _)=>true
 |some (.array _ _)=>true
 |_=>false
def repV:Value->Rep
 | .int k _=>.int k
 | .bool _=>.bool
 | .string _=>.str
 | .pointer _=>.ptr
 |_=>.val
inductive Sh0 where
 |one (r:Rep)
 |agg (rs:List Rep)
def shapeOf (P:Program) (t:TypeId):Sh0:=
 match aggB P t with
 |true=>match(P.info? t).bind (·.zero)with
  |some (.agg cs)=>bif Nat.ble cs.size 64 then .agg (cs.toList.map repV)else .one .val
  |_=>.one .val
 |false=>.one (repOf P t)
inductive Shp where
 |s (x:Sh0)
 |tup (xs:List Sh0)
def shpOf (P:Program) (t:TypeId):Shp:=
 match P.underlying t with
 |some (.tuple ts)=>.tup (ts.toList.map (shapeOf P))
 |_=>.s (shapeOf P t)
def exSh:Sh0->(Value->Prop)->(Value->Prop)->Prop
 | .one r,φ,K=>exR r φ K
 | .agg rs,φ,K=>exRs rs (λvs=>φ (.agg vs.toArray)/\K (.agg vs.toArray))
def exShs:List Sh0->(List Value->Prop)->Prop
 |[],K=>K []
 | .one r::ss,K=>exRs [r] (λvs=>exShs ss (λus=>K (vs++us)))
 | .agg rs::ss,K=>exRs rs (λvs=>exShs ss (λus=>K (.agg vs.toArray::us)))
def exSp:Shp->(Value->Prop)->(Value->Prop)->Prop
 | .s x,φ,K=>exSh x φ K
 | .tup ss,φ,K=>exShs ss (λvs=>φ (.tuple vs.toArray)/\K (.tuple vs.toArray))
def Spec (P:Program) (f:FuncId) (args:Array Value) (w:World) (R:KV):Prop:=
 Calls P f args w λe w'=>∃v,e= .returned v/\R v w'
def resShapes (P:Program) (f:FuncId):List Sh0:=
 match P.funcs[f]? with
 |some fn=>fn.resultTypes.toList.map (shapeOf P)
 |none=>[]
def resTuple (v:Value):(ss:List Sh0)->(Value->Prop)->Prop
 |[.one .val],K=>K v
 |[s],K=>exSh s (λu=>v=u) K
 |ss,K=>exShs ss (λvs=>v= .tuple vs.toArray/\K (.tuple vs.toArray))
def callK (P:Program) (f:FuncId) (args:Array Value) (w:World) (K:KV):Prop:=
 match(P.funcs[f]?).map (λfn=>fn.body.isSome)with
 |some true=>Spec P f args w λv w'=>resTuple v (resShapes P f) (λu=>K u w')
 |_=>False
def mapA {α β:Type} (f:α->β) (xs:Array α):Array β:=(xs.toList.map f).toArray
def app3 (a b c:Array Value):Array Value:=(a.toList++(b.toList++c.toList)).toArray
def setL:List Value->Nat->List Value->List Value
 |cells,_,[]=>cells
 |cells,off,v::vs=>setL (cells.set off v) (off+1) vs
def fillL (place:Nat->Option (Nat×Nat)):List Value->List (Nat×Value)->Option (List Value)
 |cells,[]=>some cells
 |cells,(i,v)::r=>match place i with
  |none=>none
  |some (off,size)=>bif Nat.beq v.cells.size size&&Nat.ble (off+v.cells.size) cells.length then fillL place (setL cells off v.cells.toList) r else none
def withAddr:Value->(Addr->Prop)->Prop
 | .pointer (some a),K=>K a
 |_,_=>False
def pickK:Value->Prop->Prop->Prop
 | .bool t,A,B=>cond t A B
 |_,_,_=>False
def leK:Int->Prop->Prop
 | .ofNat _,A=>A
 | .negSucc _,_=>False
def nzK:Int->Prop->Prop
 | .ofNat (_+1),A=>A
 | .negSucc _,A=>A
 |_,_=>False
def bitsI (op:BinOp) (k:IntKind) (x y:Int):Int:=
 k.wrap (match op with
  | .and=>BitVec.ofInt k.bits x&&& BitVec.ofInt k.bits y
  | .or=>BitVec.ofInt k.bits x|||BitVec.ofInt k.bits y
  | .xor=>BitVec.ofInt k.bits x ^^^ BitVec.ofInt k.bits y
  |_=>BitVec.ofInt k.bits x&&& ~~~ BitVec.ofInt k.bits y).toNat
def sliceLen:Value->Option Nat
 | .slice _ n _=>some n
 |_=>none
def isNilS:Value->Option Bool
 | .slice a _ _=>some a.isNone
 |_=>none
def isNilM:Value->Option Bool
 | .map r=>some r.isNone
 |_=>none
def isNilP:Value->Option Bool
 | .pointer a=>some a.isNone
 |_=>none
def isNilF:Value->Option Bool
 | .nilFunc=>some true
 | .func _ _ _=>some false
 |_=>none
def negIf:BinOp->Bool->Bool
 | .neq,b=>!b
 |_,b=>b
def nilEqK (P:Program) (op:BinOp) (t:TypeId) (x y:Value) (w:World) (K:KV):Prop:=
 match P.underlying t,y with
 |some (.slice _),.slice none _ _=>∃b,isNilS x=some b/\K (.bool (negIf op b)) w
 |some (.map _ _),.map none=>∃b,isNilM x=some b/\K (.bool (negIf op b)) w
 |some (.pointer _),.pointer none=>∃b,isNilP x=some b/\K (.bool (negIf op b)) w
 |some (.func _ _ _),.nilFunc=>∃b,isNilF x=some b/\K (.bool (negIf op b)) w
 |_,_=>False
def guardOk (P:Program) (op:BinOp) (t:TypeId) (x y:Value) (cy:Bool) (w:World):Prop:=
 match cy with
 |true=>∀a v,(eqGuard op t a (.const v) x y).run P w= .ok () w
 |false=>∀a b,(eqGuard op t a b x y).run P w= .ok () w
def eqK (P:Program) (op:BinOp) (t:TypeId) (x y:Value) (cy:Bool) (w:World) (K:KV):Prop:=
 match P.underlying t,cy with
 |some .bool,_=>match x,y with
  | .bool a,.bool b=>K (.bool (negIf op (a==b))) w
  |_,_=>False
 |some (.slice _),_=>nilEqK P op t x y w K
 |some (.map _ _),_=>nilEqK P op t x y w K
 |some (.func _ _ _),_=>nilEqK P op t x y w K
 |some (.pointer _),true=>nilEqK P op t x y w K
 |_,_=>∃b,(binOp op t x y).run P w= .ok (.bool b) w/\guardOk P op t x y cy w/\K (.bool b) w
def intK (op:BinOp) (k:IntKind) (a b:Int) (w:World) (K:KV):Prop:=
 match op with
 | .add=>K (.int k (k.wrap (a+b))) w
 | .sub=>K (.int k (k.wrap (a - b))) w
 | .mul=>K (.int k (k.wrap (a*b))) w
 | .quo=>nzK b (K (.int k (k.wrap (a.tdiv b))) w)
 | .rem=>nzK b (K (.int k (a.tmod b)) w)
 | .and| .or| .xor| .andNot=>K (.int k (bitsI op k a b)) w
 | .eql=>K (.bool (a==b)) w
 | .neq=>K (.bool (a !=b)) w
 | .lss=>K (.bool (a < b)) w
 | .leq=>K (.bool (a<=b)) w
 | .gtr=>K (.bool (a > b)) w
 | .geq=>K (.bool (a≥b)) w
 |_=>False
def strK (op:BinOp) (a b:ByteArray) (w:World) (K:KV):Prop:=
 match op with
 | .add=>a.size+b.size<=9223372036854775807/\K (.string (a++b)) w
 | .eql=>K (.bool (a.toList==b.toList)) w
 | .neq=>K (.bool !(a.toList==b.toList)) w
 | .lss=>K (.bool (Op.bytesLess a.toList b.toList)) w
 | .leq=>K (.bool (Op.bytesLess a.toList b.toList||a.toList==b.toList)) w
 | .gtr=>K (.bool !(Op.bytesLess a.toList b.toList||a.toList==b.toList)) w
 | .geq=>K (.bool !Op.bytesLess a.toList b.toList) w
 |_=>False
def binIntK (op:BinOp) (x y:Value) (w:World) (K:KV):Prop:=
 match op with
 | .shl=>match x,y with
   | .int k a,.int _ b=>leK b (K (.int k (k.wrap (a*2 ^ (min b.toNat k.bits)))) w)
   |_,_=>False
 | .shr=>match x,y with
   | .int k a,.int _ b=>leK b (K (.int k (a.fdiv (2 ^ (min b.toNat k.bits)))) w)
   |_,_=>False
 |op=>match x,y with
  | .int k a,.int k' b=>match decEq k k' with|isTrue _=>intK op k a b w K|isFalse _=>False
  |_,_=>False
def isConstO:Operand->Bool
 | .const _=>true
 |_=>false
def binK (P:Program) (op:BinOp) (t:TypeId) (x y:Value) (cy:Bool) (w:World) (K:KV):Prop:=
 match P.underlying t with
 |some (.int _)=>binIntK op x y w K
 |some .string=>match x,y with
  | .string a,.string b=>strK op a b w K
  |_,_=>False
 |_=>match op with
  | .eql=>eqK P .eql t x y cy w K
  | .neq=>eqK P .neq t x y cy w K
  |_=>False
def unK (op:UnOp) (x:Value) (w:World) (K:KV):Prop:=
 match op,x with
 | .not,.bool b=>K (.bool !b) w
 | .neg,.int k n=>K (.int k (k.wrap (0 - n))) w
 | .xor,.int k n=>K (.int k (bitsI .xor k (if k.signed then -1 else k.max) n)) w
 |_,_=>False
def rawS (P:Program) (r:Rep) (s:Sem Value) (w:World) (K:KV):Prop:=
 exRW r (λv w'=>s.run P w= .ok v w') K
def rawQ (P:Program) (r:Shp) (s:Sem Value) (w:World) (K:KV):Prop:=
 exSp r (λv=>s.run P w= .ok v w) (λv=>K v w)
def rawU (P:Program) (s:Sem Unit) (w:World) (K:KV):Prop:=
 ∃w',s.run P w= .ok () w'/\K undef w'
def nextShapes:List (Sh0×Sh0):=[(.one (.int .i64),.one .ptr),(.one (.int .u64),.agg [.int .i64,.int .i64,.int .i64,.val,.int .i64])]
def nextK (P:Program) (s:Sem Value) (w:World) (K:KV):Prop:=
 (∃w':World,s.run P w= .ok (.tuple #[.bool false]) w'/\K (.tuple #[.bool false]) w')\/
 (∃(k v:Value) (w':World),s.run P w= .ok (.tuple #[.bool true,k,v]) w'/\K (.tuple #[.bool true,k,v]) w')
def entryK (P:Program) (s:Sem Value) (w:World) (K:KV):List (Sh0×Sh0)->Prop
 |[]=>False
 |(a,b)::r=>exShs [a,b] (λvs=>s.run P w= .ok (.tuple vs.toArray) w/\K (.tuple vs.toArray) w)\/entryK P s w K r
def convK (P:Program) (s d:TypeId) (x:Value) (w:World) (K:KV):Prop:=
 match P.underlying s,P.underlying d with
 |some (.int _),some (.int k)=>match x with
  | .int _ n=>K (.int k (k.wrap n)) w
  |_=>False
 |some .string,some .string=>match x with
  | .string b=>K (.string b) w
  |_=>False
 |_,some (.slice _)=>rawS P .val (convert s d x) w K
 |_,_=>rawQ P (shpOf P d) (convert s d x) w K
def ldCells (w:World) (a:Addr) (n:Nat) (cs:Array Value):Prop:=
 cs.size=n/\∀i,i < n->w.cell? (a.add i)=cs[i]?
def ldK (P:Program) (t:TypeId) (a:Addr) (w:World) (K:KV):Prop:=
 match P.underlying t with
 |none=>False
 |some _=>match aggB P t with
  |true=>match(P.info? t).map (·.size)with
   |some n=>match shapeOf P t with
    | .agg rs=>exRs rs (λvs=>ldCells w a n vs.toArray/\K (.agg vs.toArray) w)
    | .one _=>∃cs:Array Value,ldCells w a n cs/\K (.agg cs) w
   |none=>False
  |false=>exR (repOf P t) (λv=>w.cell? a=some v) (λv=>K v w)
def isOne:Value->Bool
 | .agg _=>false
 | .tuple _=>false
 |_=>true
def oneL:List Value->Bool
 |[]=>true
 |v::vs=>isOne v&&oneL vs
def oneK:Value->Prop->Prop
 | .int _ _,A=>A
 | .bool _,A=>A
 | .string _,A=>A
 | .pointer _,A=>A
 | .slice _ _ _,A=>A
 | .map _,A=>A
 | .nilIface,A=>A
 | .nilFunc,A=>A
 |v,A=>isOne v=true/\A
def St1 (w:World) (a:Addr):Prop:=(∃u,w.cell? a=some u)/\w.frozen? a=false
def StRow (w:World) (a:Addr) (cs:Array Value):Prop:=
 oneL cs.toList=true/\∀i,i < cs.size->(∃u,w.cell? (a.add i)=some u)/\w.frozen? (a.add i)=false
def stRow (w:World) (a:Addr) (cs:Array Value):World:=w.setCells a.block a.off cs.toList
def stK (P:Program) (t:TypeId) (a:Addr) (v:Value) (w:World) (K:World->Prop):Prop:=
 match aggB P t with
 |true=>match v with
  | .agg cs=>match(P.info? t).map (·.size)with
    |some n=>bif Nat.beq n cs.size then StRow w a cs/\K (stRow w a cs)else False
    |none=>False
  |_=>False
 |false=>match(P.info? t).map (·.size)with
  |some 1=>oneK v (St1 w a/\K (w.setCell a v))
  |_=>False
def nilK:Value->(Value->Prop)->Prop
 | .func (.func f) first captured,K=>K (.func (.func f) first captured)
 |v,K=>withAddr v (λa=>K (.pointer (some a)))
def fieldOff (P:Program) (t:TypeId) (f:Nat):Option Nat:=
 match P.underlying t with
 |some (.struct fs)=>match fs[f]? with
  |some fd=>match(P.info? fd.type).map (·.size)with
   |some (_+1)=>some fd.offset
   |_=>none
  |none=>none
 |_=>none
def faK (P:Program) (t:TypeId) (f:Nat) (a:Addr) (K:Addr->Prop):Prop:=
 match fieldOff P t f with
 |some n=>K (a.add n)
 |none=>False
def inR (n:Int) (len:Nat):Prop:=0<=n/\n < (len:Int)
def sliceAt (v:Value) (i:Int) (size:Nat):Option Addr:=
 match v with
 | .slice (some a) len _=>if 0<=i/\i < len then some (a.add (i.toNat*size))else none
 |_=>none
def iaK (P:Program) (t:TypeId) (x i:Value) (K:Addr->Prop):Prop:=
 match P.underlying t,i with
 |some (.slice e),.int _ n=>match(P.info? e).map (·.size)with
  |some size=>∃a,sliceAt x n size=some a/\K a
  |none=>False
 |some (.array len e),.int _ n=>match(P.info? e).map (·.size)with
  |some size=>withAddr x (λa=>inR n len/\K (a.add (n.toNat*size)))
  |none=>False
 |_,_=>False
def ixK (P:Program) (r:Shp) (t:TypeId) (x i:Value) (w:World) (K:KV):Prop:=
 match P.underlying t,x,i with
 |some .string,.string s,.int _ n=>inR n s.size/\K (.int .u8 (s.get! n.toNat).toNat) w
 |some .string,_,_=>False
 |_,_,_=>rawQ P r (Instr.index t x i) w K
def fldK (P:Program) (sp:Shp) (t:TypeId) (x:Value) (f:Nat) (w:World) (K:KV):Prop:=
 match P.underlying t,x with
 |some (.struct fs),.agg cs=>match fs[f]? with
  |some fd=>match P.underlying fd.type with
   |none=>False
   |some _=>match aggB P fd.type with
    |true=>match(P.info? fd.type).map (·.size)with
     |some n=>K (.agg ((cs.toList.drop fd.offset).take n).toArray) w
     |none=>False
    |false=>match cs.toList[fd.offset]? with
     |some v=>K v w
     |none=>False
  |none=>False
 |_,_=>rawQ P sp (Instr.field t x f) w K
def boundOf (x:Value) (y:Nat):Option Nat:=
 match x with
 | .int _ i=>if 0<=i/\i<=y then some i.toNat else none
 |_=>none
def boundsOf (len cap:Nat) (lo hi mx:Option Value):Option (Nat×Nat×Nat):=
 match(match mx with|some v=>boundOf v cap|none=>some cap)with
 |none=>none
 |some m=>match(match hi with|some v=>boundOf v m|none=>match mx with|none=>some len|some _=>none)with
  |none=>none
  |some h=>match(match lo with|some v=>boundOf v h|none=>some 0)with
   |none=>none
   |some l=>some (l,h,m)
def subSlice (x:Value) (size:Nat) (lo hi mx:Option Value):Option Value:=
 match x with
 | .slice a len cap=>match boundsOf len cap lo hi mx with
   |some (l,h,m)=>some (.slice (if m=l then a else a.map (·.add (l*size))) (h - l) (m - l))
   |none=>none
 |_=>none
def slK (P:Program) (t:TypeId) (x:Value) (lo hi mx:Option Value) (w:World) (K:KV):Prop:=
 match P.underlying t,x with
 |some .string,.string s=>match mx with
  |none=>∃l h m,boundsOf s.size s.size lo hi none=some (l,h,m)/\K (.string (s.extract l h)) w
  |some _=>False
 |some (.slice e),x=>match(P.info? e).map (·.size)with
  |some size=>∃v,subSlice x size lo hi mx=some v/\K v w
  |none=>False
 |some (.array n e),x=>match(P.info? e).map (·.size)with
  |some size=>match lo,hi,mx with
   |none,none,none=>withAddr x (λa=>K (.slice (some a) n n) w)
   |lo,hi,mx=>withAddr x (λa=>∃l h m,boundsOf n n lo hi mx=some (l,h,m)/\K (.slice (some (if m=l then a else a.add (l*size))) (h - l) (m - l)) w)
  |none=>False
 |_,_=>False
def oneK':Value->Prop->Prop
 | .int _ _,A=>A
 | .bool _,A=>A
 | .string _,A=>A
 | .pointer _,A=>A
 | .slice _ _ _,A=>A
 | .map _,A=>A
 | .nilIface,A=>A
 | .nilFunc,A=>A
 |v,A=>isOne v=true/\A
def fillK (place:Nat->Option (Nat×Nat)) (K:List Value->Prop):List Value->List (Nat×Value)->Prop
 |cells,[]=>K cells
 |cells,(i,v)::r=>match place i with
  |none=>False
  |some (off,size)=>bif Nat.beq size 1 then oneK' v (bif Nat.ble (off+1) cells.length then fillK place K (cells.set off v) r else False)
   else bif Nat.beq v.cells.size size&&Nat.ble (off+v.cells.size) cells.length then fillK place K (setL cells off v.cells.toList) r else False
def bdK (P:Program) (t:TypeId) (parts:Array (Nat×Value)) (w:World) (K:KV):Prop:=
 match(P.info? t).bind (·.zero),P.underlying t with
 |some z,some (.struct fields)=>
  match fields.toList.mapM (λf=>(P.info? f.type).map (λi=>(f.offset,i.size)))with
  |some places=>fillK (λi=>places[i]?) (λcells=>K (.agg cells.toArray) w) z.cells.toList parts.toList
  |none=>False
 |some z,some (.array _ e)=>
  match(P.info? e).map (·.size)with
  |some size=>fillK (λi=>some (i*size,size)) (λcells=>K (.agg cells.toArray) w) z.cells.toList parts.toList
  |none=>False
 |_,_=>False
def bsK (P:Program) (t:TypeId) (len:Nat) (parts:Array (Nat×Value)) (w:World) (K:KV):Prop:=
 match P.underlying t with
 |some (.slice e)=>match(P.info? e).map (λi=>(i.size,i.zero))with
  |some (size,some z)=>match Nat.ble (len*size) 1024&&Nat.blt 0 size&&Nat.beq z.cells.size size with
   |true=>fillK (λi=>some (i*size,size)) (λcells=>K (.slice (some ⟨w.heap.size,0,none⟩) len len) (w.alloc (.cells cells.toArray e))) (List.flatten (List.replicate len z.cells.toList)) parts.toList
   |false=>False
  |_=>False
 |_=>False
def alK (P:Program) (t:TypeId) (w:World) (K:KV):Prop:=
 match(P.info? t).bind (·.zero)with
 |some z=>K (.pointer (some ⟨w.heap.size,0,none⟩)) (w.alloc (.cells z.cells t))
 |none=>False
def exK (x:Value) (i:Nat) (K:Value->Prop):Prop:=
 match x with
 | .tuple vs=>match vs[i]? with
   |some v=>K v
   |none=>False
 |_=>False
def lenK (P:Program) (t:TypeId) (x:Value) (w:World) (K:KV):Prop:=
 match P.underlying t,x with
 |some .string,.string s=>K (.int .i64 (s.size:Int)) w
 |some .string,_=>False
 |some (.array n _),_=>K (.int .i64 (n:Int)) w
 |some (.slice _),v=>∃n:Nat,sliceLen v=some n/\K (.int .i64 (n:Int)) w
 |_,_=>rawQ P (.s (.one (.int .i64))) (Builtin.len_ #[t] 0 #[x]) w K
def builtinK (P:Program) (r:Rep) (b:Builtin) (ts:Array TypeId) (ty:TypeId) (vs:Array Value) (w:World) (K:KV):Prop:=
 match b,ts.toList,vs.toList with
 | .len,[t],[v]=>lenK P t v w K
 | .min,_,[.int k x,.int _ y]=>K (.int k (if y < x then y else x)) w
 | .max,_,[.int k x,.int _ y]=>K (.int k (if x < y then y else x)) w
 | .append,_,_=>rawS P r (Builtin.append_ ts ty vs) w K
 | .copy,_,_=>rawS P r (Builtin.copy_ ts ty vs) w K
 | .cap,_,_=>rawQ P (.s (.one r)) (Builtin.cap_ ts ty vs) w K
 | .clear,_,_=>rawS P .val (Builtin.clear_ ts ty vs) w K
 | .delete,_,_=>rawS P .val (Builtin.delete_ ts ty vs) w K
 | .min,_,_=>rawQ P (.s (.one r)) (Builtin.min_ ts ty vs) w K
 | .max,_,_=>rawQ P (.s (.one r)) (Builtin.max_ ts ty vs) w K
 |_,_,_=>False
def callU (P:Program) (f:Value) (args:Array Value) (w:World) (K:KV):Prop:=
 match f with
 | .func (.func g) first captured=>match(P.funcs[g]?).map (λfn=>fn.body.isSome)with
   |some true=>Spec P g (app3 first args captured) w K
   |_=>False
 |v=>∃g first captured,v= .func (.func g) first captured/\((P.funcs[g]?).map (λfn=>fn.body.isSome)=some true)/\Spec P g (app3 first args captured) w K
def callV (P:Program) (f:Value) (args:Array Value) (w:World) (ty:TypeId) (K:KV):Prop:=
 callU P f args w λv w'=>resTuple v (match P.underlying ty with|some (.tuple ts)=>ts.toList.map (shapeOf P)|_=>[shapeOf P ty]) (λu=>K u w')
def opK (P:Program) (ρ:Operand->Value) (o:Oper) (w:World) (K:KV):Prop:=
 match o.op with
 | .move x=>K (ρ x) w
 | .assign x=>K (ρ x) w
 | .pick c a b=>pickK (ρ c) (K (ρ a) w) (K (ρ b) w)
 | .binOp op t x y _=>binK P op t (ρ x) (ρ y) (isConstO y) w K
 | .unOp op _ x=>unK op (ρ x) w K
 | .convert s d x=>convK P s d (ρ x) w K
 | .load t a=>withAddr (ρ a) (λa=>ldK P t a w K)
 | .store t a x=>withAddr (ρ a) (λa=>stK P t a (ρ x) w (λw'=>K undef w'))
 | .nilCheck x=>nilK (ρ x) (λv=>K v w)
 | .fieldAddr t x f=>withAddr (ρ x) (λa=>faK P t f a (λa'=>K (.pointer (some a')) w))
 | .indexAddr t x i=>iaK P t (ρ x) (ρ i) (λa=>K (.pointer (some a)) w)
 | .index t x i=>ixK P (shpOf P o.type) t (ρ x) (ρ i) w K
 | .slice t x lo hi mx=>slK P t (ρ x) (lo.map ρ) (hi.map ρ) (mx.map ρ) w K
 | .build t parts=>bdK P t (mapA (λp=>(p.1,ρ p.2)) parts) w K
 | .buildSlice t n parts=>bsK P t n (mapA (λp=>(p.1,ρ p.2)) parts) w K
 | .alloc t=>alK P t w K
 | .box t x=>K (.pointer (some ⟨w.heap.size,0,none⟩)) (w.alloc (.cells (ρ x).cells t))
 | .extract x i=>exK (ρ x) i (λv=>K v w)
 | .call c=>match c.callee with
   | .builtin b=>builtinK P (repOf P o.type) b c.argTypes o.type (mapA ρ c.args) w K
   | .value (.func f)=>callK P f (mapA ρ c.args) w K
   | .value x=>callV P (ρ x) (mapA ρ c.args) w o.type K
   |_=>False
 | .makeInterface t x=>rawQ P (.s (.one .val)) (Instr.makeInterface t (ρ x)) w K
 | .makeFunc fn first captured=>K (.func fn (mapA ρ first) (mapA ρ captured)) w
 | .makeMap t r=>rawS P .val (Instr.makeMap t (r.map ρ)) w K
 | .makeSlice t l c=>rawS P .val (Instr.makeSlice t (ρ l) (ρ c)) w K
 | .sliceToArrayPointer t x=>rawQ P (.s (.one .val)) (Instr.arrayAt t (ρ x)) w K
 | .field t x f=>fldK P (shpOf P o.type) t (ρ x) f w K
 | .lookup t x i ok=>rawQ P (shpOf P o.type) (Instr.lookup t (ρ x) (ρ i) ok) w K
 | .mapUpdate t m k x=>rawU P (Instr.mapUpdate t (ρ m) (ρ k) (ρ x)) w K
 | .insert t m k x=>rawU P (Instr.mapUpdate t (ρ m) (ρ k) (ρ x)) w K
 | .range t x=>rawS P .val (Instr.range t (ρ x)) w K
 | .next it isString=>nextK P (Instr.next (ρ it) isString o.type) w K
 | .entry it=>entryK P (Instr.entry (ρ it)) w K nextShapes
 | .typeAssert x t asserted ok=>rawQ P (shpOf P o.type) (Instr.typeAssert (ρ x) t asserted ok) w K
 |_=>False
section
variable {P:Program}
def runsTo (P:Program) (ρ:Operand->Value) (o:Oper) (w:World) (K:KV):Prop:=
 match(execOp ρ o).run P w with
 | .ok (.value v) w'=>K v w'
 | .ok .skip w'=>K undef w'
 | .ok (.enter f args) w'=>Spec P f args w' K
 |_=>False
def RV (P:Program) (s:Sem Value) (w:World) (K:KV):Prop:=∃v w',s.run P w= .ok v w'/\K v w'
theorem runsTo_of_RV {ρ:Operand->Value} {o:Oper} {w:World} {K:KV} {s:Sem Value} (he:execOp ρ o=(do pure (.value (←s)))) (h:RV P s w K):runsTo P ρ o w K:=by
 obtain⟨v,w',h,hK⟩:=h
 unfold runsTo;rw[he];simp [h];exact hK
theorem runsTo_of_RU {ρ:Operand->Value} {o:Oper} {w:World} {K:KV} {s:Sem Unit} (he:execOp ρ o=(do s;pure .skip)) (h:∃w',s.run P w= .ok () w'/\K undef w'):runsTo P ρ o w K:=by
 obtain⟨w',h,hK⟩:=h
 unfold runsTo;rw[he];simp [h];exact hK
theorem exR_iff {r:Rep} {φ K:Value->Prop} (h:exR r φ K):∃v,φ v/\K v:=by
 cases r<;>exact let ⟨x,h1,h2⟩:=h;⟨_,h1,h2⟩
theorem exRW_iff {r:Rep} {φ K:Value->World->Prop} (h:exRW r φ K):∃v w,φ v w/\K v w:=by
 cases r<;>exact let ⟨x,w,h1,h2⟩:=h;⟨_,w,h1,h2⟩
theorem exRs_iff {rs:List Rep}:∀{K:List Value->Prop},exRs rs K->∃vs,K vs:=by
 induction rs with
 |nil=>intro K h;exact⟨[],h⟩
 |cons r rs ih=>
  intro K h
  cases r<;>(obtain⟨x,hx⟩:=h;obtain⟨vs,hv⟩:=ih hx;exact⟨_,hv⟩)
theorem exSh_iff {s:Sh0} {φ K:Value->Prop} (h:exSh s φ K):∃v,φ v/\K v:=by
 cases s with
 |one r=>exact exR_iff h
 |agg rs=>obtain⟨vs,h1,h2⟩:=exRs_iff h;exact⟨_,h1,h2⟩
theorem exShs_iff {ss:List Sh0}:∀{K:List Value->Prop},exShs ss K->∃vs,K vs:=by
 induction ss with
 |nil=>intro K h;exact⟨[],h⟩
 |cons s ss ih=>
  intro K h
  cases s<;>(obtain⟨vs,hx⟩:=exRs_iff h;obtain⟨us,hv⟩:=ih hx;exact⟨_,hv⟩)
theorem exSp_iff {s:Shp} {φ K:Value->Prop} (h:exSp s φ K):∃v,φ v/\K v:=by
 cases s with
 |s x=>exact exSh_iff h
 |tup ss=>obtain⟨vs,h1,h2⟩:=exShs_iff h;exact⟨_,h1,h2⟩
theorem resTuple_iff {v:Value} {rs:List Sh0} {K:Value->Prop} (h:resTuple v rs K):K v:=by
 unfold resTuple at h
 split at h
 ·exact h
 ·obtain⟨u,rfl,hK⟩:=exSh_iff h;exact hK
 ·obtain⟨vs,rfl,hK⟩:=exShs_iff h;exact hK
theorem Spec.mono {f:FuncId} {args:Array Value} {w:World} {R R':KV} (h:Spec P f args w R) (hr:∀v w',R v w'->R' v w'):Spec P f args w R':=
 Calls.mono h λ_ w' ⟨v,he,hv⟩=>⟨v,he,hr v w' hv⟩
theorem withAddr_iff {v:Value} {K:Addr->Prop} (h:withAddr v K):∃a,v= .pointer (some a)/\K a:=by
 unfold withAddr at h
 split at h
 ·exact⟨_,rfl,h⟩
 ·exact h.elim
theorem pickK_iff {c:Value} {A B:Prop} (h:pickK c A B):∃t:Bool,c= .bool t/\(if t then A else B):=by
 unfold pickK at h
 split at h
 ·rename_i t;exact⟨t,rfl,by cases t<;>exact h⟩
 ·exact h.elim
theorem leK_iff {b:Int} {A:Prop} (h:leK b A):0<=b/\A:=by
 cases b with
 |ofNat n=>exact⟨Int.natCast_nonneg n,h⟩
 |negSucc n=>exact h.elim
theorem nzK_iff {b:Int} {A:Prop} (h:nzK b A):b≠0/\A:=by
 cases b with
 |ofNat n=>
  cases n with
  |zero=>exact h.elim
  |succ n=>exact⟨by simp;omega,h⟩
 |negSucc n=>exact⟨by simp,h⟩
theorem run_typeInfo {t:TypeId} {w:World} {i:TypeInfo} (h:P.info? t=some i):(typeInfo t).run P w= .ok i w:=by
 unfold typeInfo;simp [h]
theorem run_sizeOf' {t:TypeId} {w:World} {n:Nat} (h:(P.info? t).map (·.size)=some n):(sizeOf t).run P w= .ok n w:=by
 obtain⟨i,hi,rfl⟩:=Option.map_eq_some_iff.1 h
 simp [sizeOf,run_typeInfo hi]
theorem run_und {t:TypeId} {w:World} {d:TypeDesc} (h:P.underlying t=some d):(underlying t).run P w= .ok d w:=run_underlying h w
theorem RV_pure {v:Value} {w:World} {K:KV} (h:K v w):RV P (pure v) w K:=⟨v,w,rfl,h⟩
theorem eqGuard_int {op:BinOp} {t:TypeId} {x y:Operand} {k k':IntKind} {a b:Int} {w:World}:(eqGuard op t x y (.int k a) (.int k' b)).run P w= .ok () w:=by
 unfold eqGuard;cases op<;>rfl
theorem eqGuard_str {op:BinOp} {t:TypeId} {x y:Operand} {a b:ByteArray} {w:World}:(eqGuard op t x y (.string a) (.string b)).run P w= .ok () w:=by
 unfold eqGuard;cases op<;>rfl
theorem intK_sound {op:BinOp} {k:IntKind} {a b:Int} {w:World} {K:KV} {t:TypeId} (hs:op≠.shl/\op≠.shr) (h:intK op k a b w K):
 RV P (binOp op t (.int k a) (.int k b)) w K:=by
 unfold RV
 cases op
 case shl=>simp at hs
 case shr=>simp at hs
 case quo=>
  obtain⟨h1,h2⟩:=nzK_iff h
  refine⟨_,w,?_,h2⟩
  simp [binOp,Op.intDiv,h1]
 case rem=>
  obtain⟨h1,h2⟩:=nzK_iff h
  refine⟨_,w,?_,h2⟩
  simp [binOp,Op.intDiv,h1]
 all_goals
  refine⟨_,w,?_,h⟩
  simp [binOp,Op.intArith,Op.intCmp,Op.intBits,bitsI]
theorem strK_sound {op:BinOp} {a b:ByteArray} {w:World} {K:KV} {t:TypeId} (h:strK op a b w K):
 RV P (binOp op t (.string a) (.string b)) w K:=by
 unfold RV
 cases op
 case add=>
  obtain⟨h1,h2⟩:=h
  refine⟨_,w,?_,h2⟩
  have:¬((a.size+b.size:Nat):Int) > IntKind.i64.max:=by simp [IntKind.max,IntKind.signed,IntKind.bits];omega
  show Sem.run P (if((a.size+b.size:Nat):Int) > IntKind.i64.max then _ else _) w=_
  rw[if_neg this];rfl
 case eql=>exact⟨_,w,rfl,h⟩
 case neq=>exact⟨_,w,rfl,h⟩
 case lss=>exact⟨_,w,rfl,h⟩
 case leq=>exact⟨_,w,rfl,h⟩
 case gtr=>exact⟨_,w,rfl,h⟩
 case geq=>exact⟨_,w,rfl,h⟩
 all_goals exact h.elim
theorem eqGuard_ok {op:BinOp} {t:TypeId} {x y:Operand} {a b:Value} {w:World} (h1:a≠.nilIface\/b≠.nilIface) (h2:(∀c,a≠.agg c)\/(∀c,b≠.agg c)):
 (eqGuard op t x y a b).run P w= .ok () w:=by
 unfold eqGuard
 repeat' split
 all_goals first|rfl|(simp at h1;done)|(exfalso;rcases h2 with h2|h2<;>exact h2 _ rfl)
theorem equal_succ {t:TypeId} {a b:Value}:Op.equal t a b=Op.equalIn (9999+1) t a b:=rfl
theorem nilEqK_sound {op:BinOp} {t:TypeId} {x y:Operand} {a b:Value} {w:World} {K:KV} (ho:op= .eql\/op= .neq) (h:nilEqK P op t a b w K):
 RV P (do eqGuard op t x y a b;binOp op t a b) w K:=by
 have fin:∀{r:Bool},(eqGuard op t x y a b).run P w= .ok () w->(∀(op':BinOp),op'= .eql\/op'= .neq->binOp op' t a b=(do pure (.bool (negIf op' (←Op.equal t a b)))))->(Op.equal t a b).run P w= .ok r w->K (.bool (negIf op r)) w->RV P (do eqGuard op t x y a b;binOp op t a b) w K:=by
  intro r hg hb he hK
  exact⟨_,w,by simp [hg,hb op ho,he],hK⟩
 unfold nilEqK at h
 split at h
 case h_5=>exact h.elim
 all_goals
  rename_i hu
  obtain⟨r,hr,hK⟩:=h
 ·unfold isNilS at hr;split at hr<;>simp at hr
  refine fin (eqGuard_ok (by simp) (by simp)) (by rintro _ (rfl|rfl)<;>rfl) ?_ hK
  rw[equal_succ,Op.equalIn,Sem.run_bind,run_und hu]
  rename_i a _ _;cases a<;>(simp at hr;subst hr;rfl)
 ·unfold isNilM at hr;split at hr<;>simp at hr
  refine fin (eqGuard_ok (by simp) (by simp)) (by rintro _ (rfl|rfl)<;>rfl) ?_ hK
  rw[equal_succ,Op.equalIn,Sem.run_bind,run_und hu]
  rename_i a;cases a<;>(simp at hr;subst hr;rfl)
 ·unfold isNilP at hr;split at hr<;>simp at hr
  refine fin (eqGuard_ok (by simp) (by simp)) (by rintro _ (rfl|rfl)<;>rfl) ?_ hK
  rw[equal_succ,Op.equalIn,Sem.run_bind,run_und hu]
  rename_i a;cases a<;>(simp at hr;subst hr;rfl)
 ·unfold isNilF at hr;split at hr<;>simp at hr<;>
   (refine fin (eqGuard_ok (by simp) (by simp)) (by rintro _ (rfl|rfl)<;>rfl) ?_ hK
    rw[equal_succ,Op.equalIn,Sem.run_bind,run_und hu]
    subst hr;rfl)
theorem guardOk_use {op:BinOp} {t:TypeId} {x y:Operand} {a b:Value} {cy:Bool} {w:World} (hcy:cy=isConstO y) (h:guardOk P op t a b cy w):(eqGuard op t x y a b).run P w= .ok () w:=by
 unfold guardOk at h
 cases cy with
 |true=>cases y<;>first|exact h _ _|cases hcy
 |false=>exact h _ _
theorem eqK_sound {op:BinOp} {t:TypeId} {x y:Operand} {a b:Value} {cy:Bool} {w:World} {K:KV} (hcy:cy=isConstO y) (ho:op= .eql\/op= .neq) (h:eqK P op t a b cy w K):
 RV P (do eqGuard op t x y a b;binOp op t a b) w K:=by
 unfold eqK at h
 split at h
 case h_1=>
  rename_i hu
  split at h
  case h_2=>exact h.elim
  rename_i p q
  have he:(Op.equal t (.bool p) (.bool q)).run P w= .ok (p==q) w:=by
   rw[equal_succ,Op.equalIn,Sem.run_bind,run_und hu];rfl
  refine⟨_,w,?_,h⟩
  rw[Sem.run_bind,eqGuard_ok (by simp) (by simp)]
  rcases ho with rfl|rfl
  ·simp only[binOp,Result.andThen_ok,Sem.run_bind,he];rfl
  ·simp only[binOp,Result.andThen_ok,Sem.run_bind,he];rfl
 case h_6=>
  obtain⟨r,h1,h2,h3⟩:=h
  exact⟨_,w,by simp [h1,guardOk_use hcy h2],h3⟩
 all_goals exact nilEqK_sound ho h
theorem binIntK_sound {op:BinOp} {t:TypeId} {x y:Operand} {a b:Value} {w:World} {K:KV} (h:binIntK op a b w K):
 RV P (do eqGuard op t x y a b;binOp op t a b) w K:=by
 have fin:∀{s:Sem Value},(eqGuard op t x y a b).run P w= .ok () w->RV P s w K->RV P (do eqGuard op t x y a b;s) w K:=λhg ⟨v,w',hr,hK⟩=>⟨v,w',by simp [hg,hr],hK⟩
 unfold binIntK at h
 split at h
 ·split at h
  case h_2=>exact h.elim
  obtain⟨h1,h2⟩:=leK_iff h
  refine fin eqGuard_int ⟨_,w,?_,h2⟩
  have h1':=Int.not_lt.2 h1
  simp [binOp,Op.shift,h1']
 ·split at h
  case h_2=>exact h.elim
  obtain⟨h1,h2⟩:=leK_iff h
  refine fin eqGuard_int ⟨_,w,?_,h2⟩
  have h1':=Int.not_lt.2 h1
  simp [binOp,Op.shift,h1']
 ·rename_i n1 n2
  split at h
  case h_2=>exact h.elim
  split at h
  ·rename_i hk _
   subst hk
   exact fin eqGuard_int (intK_sound ⟨n1,n2⟩ h)
  ·exact h.elim
theorem binK_sound {op:BinOp} {t:TypeId} {x y:Operand} {a b:Value} {cy:Bool} {w:World} {K:KV} (hcy:cy=isConstO y) (h:binK P op t a b cy w K):
 RV P (do eqGuard op t x y a b;binOp op t a b) w K:=by
 have fin:∀{s:Sem Value},(eqGuard op t x y a b).run P w= .ok () w->RV P s w K->RV P (do eqGuard op t x y a b;s) w K:=λhg ⟨v,w',hr,hK⟩=>⟨v,w',by simp [hg,hr],hK⟩
 unfold binK at h
 split at h
 ·exact binIntK_sound h
 ·split at h
  case h_2=>exact h.elim
  exact fin eqGuard_str (strK_sound h)
 ·split at h
  ·exact eqK_sound hcy (.inl rfl) h
  ·exact eqK_sound hcy (.inr rfl) h
  ·exact h.elim
theorem unK_sound {op:UnOp} {a:Value} {w:World} {K:KV} (h:unK op a w K):RV P (Op.unary op a) w K:=by
 unfold unK at h
 split at h
 ·exact⟨_,w,rfl,h⟩
 ·exact⟨_,w,rfl,h⟩
 ·exact⟨_,w,rfl,h⟩
 ·exact h.elim
theorem rawS_iff {r:Rep} {s:Sem Value} {w:World} {K:KV} (h:rawS P r s w K):RV P s w K:=exRW_iff h
theorem nextK_iff {s:Sem Value} {w:World} {K:KV} (h:nextK P s w K):RV P s w K:=by
 rcases h with ⟨w',h1,h2⟩|⟨k,v,w',h1,h2⟩
 ·exact⟨_,w',h1,h2⟩
 ·exact⟨_,w',h1,h2⟩
theorem entryK_iff {s:Sem Value} {w:World} {K:KV}:∀{l:List (Sh0×Sh0)},entryK P s w K l->RV P s w K
 |[],h=>h.elim
 |(a,b)::r,h=>by
  rcases h with h|h
  ·obtain⟨vs,h1,h2⟩:=exShs_iff h;exact⟨_,w,h1,h2⟩
  ·exact entryK_iff h
theorem rawQ_iff {r:Shp} {s:Sem Value} {w:World} {K:KV} (h:rawQ P r s w K):RV P s w K:=let ⟨v,h1,h2⟩:=exSp_iff h;⟨v,w,h1,h2⟩
theorem convK_sound {s d:TypeId} {x:Value} {w:World} {K:KV} (h:convK P s d x w K):RV P (convert s d x) w K:=by
 unfold convK at h
 split at h
 ·rename_i h1 h2
  split at h
  case h_2=>exact h.elim
  refine⟨_,w,?_,h⟩
  simp only[convert,Sem.run_bind,run_und h1,run_und h2,Result.andThen_ok]
  simp [Conv.intToInt]
 ·rename_i h1 h2
  split at h
  case h_2=>exact h.elim
  refine⟨_,w,?_,h⟩
  simp only[convert,Sem.run_bind,run_und h1,run_und h2,Result.andThen_ok]
  rfl
 ·exact rawS_iff h
 ·exact rawQ_iff h
theorem ldCells_run {w:World} {a:Addr} {n:Nat} {cs:Array Value} (h:ldCells w a n cs):(loadCells a n).run P w= .ok cs w:=by
 obtain⟨h1,h2⟩:=h
 have key:∀(m i:Nat) (acc:Array Value),i+m=n->acc=cs.extract 0 i->(loadCellsFrom a i m acc).run P w= .ok cs w:=by
  intro m
  induction m with
  |zero=>
   intro i acc hi ha
   obtain rfl:i=cs.size:=by omega
   simp [loadCellsFrom,ha]
  |succ m ih=>
   intro i acc hi ha
   have hc:=h2 i (by omega)
   have hlt:i < cs.size:=by omega
   rw[Array.getElem?_eq_getElem hlt]at hc
   simp only[loadCellsFrom,Sem.run_bind,run_load,hc,Result.andThen_ok]
   refine ih (i+1) _ (by omega) ?_
   subst ha
   rw[Array.push_extract_getElem hlt]
   simp
 exact key n 0 #[] (by omega) (by simp)
theorem ldK_same {t:TypeId} {a:Addr} {w:World} {K:KV} (h:ldK P t a w K):∃v,(loadVar t a).run P w= .ok v w/\K v w:=by
 unfold ldK at h
 split at h
 ·exact h.elim
 rename_i d hd
 have hag:(isAgg t).run P w= .ok (aggB P t) w:=by
  simp only[isAgg,Sem.run_bind,run_und hd,Result.andThen_ok]
  unfold aggB;rw[hd]
  cases d<;>rfl
 split at h
 ·rename_i hb
  split at h
  ·rename_i n hn
   split at h
   ·obtain⟨vs,h1,h2⟩:=exRs_iff h
    refine⟨_,?_,h2⟩
    simp [loadVar,hag,hb,run_sizeOf' hn,ldCells_run h1]
   ·obtain⟨cs,h1,h2⟩:=h
    refine⟨_,?_,h2⟩
    simp [loadVar,hag,hb,run_sizeOf' hn,ldCells_run h1]
  ·exact h.elim
 ·rename_i hb
  obtain⟨v,h1,h2⟩:=exR_iff h
  refine⟨_,?_,h2⟩
  simp [loadVar,hag,hb,h1]
theorem ldK_sound {t:TypeId} {a:Addr} {w:World} {K:KV} (h:ldK P t a w K):RV P (loadVar t a) w K:=let ⟨v,h1,h2⟩:=ldK_same h;⟨v,w,h1,h2⟩
theorem isOk {w:World} {p q:Addr} {x v:Value} (h:w.cell? q=some v):∃v',(w.setCell p x).cell? q=some v':=by
 by_cases e:p=q
 ·subst e;exact⟨x,World.cell?_setCell_same w p x h⟩
 ·exact⟨v,(World.cell?_setCell_other w p q x e).trans h⟩
theorem storeCells_run {a:Addr}:∀(vs:List Value) (i:Nat) (w:World),oneL vs=true->(∀j,j < vs.length->(∃u,w.cell? (a.add (i+j))=some u)/\w.frozen? (a.add (i+j))=false)->
 (storeCells a vs i).run P w= .ok () (w.setCells a.block (a.off+i) vs):=by
 intro vs
 induction vs with
 |nil=>intro i w _ _;rfl
 |cons v vs ih=>
  intro i w h1 h2
  simp only[oneL,Bool.and_eq_true]at h1
  have hv:v.oneCell'=true:=by cases v<;>first|rfl|(simp [isOne]at h1)
  obtain⟨⟨u,hu⟩,hf⟩:=h2 0 (by simp)
  rw[Nat.add_zero]at hu hf
  have ha:a.add i=⟨a.block,a.off+i,none⟩:=by
   by_cases e:i=0
   ·subst e
    have hs:a.spot=none:=by
     have h0:a.add 0=a:=rfl
     rw[h0]at hu
     unfold World.cell? at hu
     split at hu
     ·split at hu
      ·cases hu
      ·rename_i hs;simpa using hs
     ·cases hu
    obtain⟨b,o,s⟩:=a
    simp only at hs
    subst hs;rfl
   ·simp [Addr.add,e]
  have hr:=ih (i+1) (w.setCell (a.add i) v) h1.2 (λj hj=>by
   have h3:=h2 (j+1) (by simp;omega)
   have e:i+1+j=i+(j+1):=by omega
   rw[e]
   obtain⟨⟨u',hu'⟩,hf'⟩:=h3
   exact⟨isOk hu',(World.frozen?_setCell _ _ _ _).trans hf'⟩)
  simp only[storeCells,Sem.run_bind,run_store _ _ _ _ _ hv,hu,hf]
  simp only[Bool.false_eq_true,if_false,Result.andThen_ok,hr]
  rw[ha];rfl
theorem oneK_iff {v:Value} {A:Prop} (h:oneK v A):isOne v=true/\A:=by
 unfold oneK at h
 split at h<;>first|exact⟨rfl,h⟩|exact h
theorem cond_of {b:Bool} {A:Prop} (h:bif b then A else False):b=true/\A:=by
 cases b
 ·exact h.elim
 ·exact⟨rfl,h⟩
theorem stK_sound {t:TypeId} {a:Addr} {v:Value} {w:World} {K:World->Prop} (h:stK P t a v w K):∃w',(storeVar t a v).run P w= .ok () w'/\K w':=by
 unfold stK at h
 split at h
 ·split at h
  ·split at h
   case h_2=>exact h.elim
   rename_i n hn
   obtain⟨h1,⟨h2,h3⟩,h4⟩:=cond_of h
   have h1:(P.info? t).map (·.size)=some _:=hn.trans (congrArg some (Nat.eq_of_beq_eq_true h1))
   refine⟨_,?_,h4⟩
   have hr:=storeCells_run (P:=P) (a:=a) _ 0 w h2 (λj hj=>by rw[Nat.zero_add];exact h3 j (by simpa using hj))
   simp [storeVar,run_sizeOf' h1,Value.cells,hr,stRow]
  ·exact h.elim
 ·split at h
  ·rename_i hn
   obtain⟨h0,⟨⟨u,h1⟩,h2⟩,h3⟩:=oneK_iff h
   refine⟨_,?_,h3⟩
   have hc:v.cells= #[v]:=by cases v<;>first|rfl|(simp [isOne]at h0)
   have hv:v.oneCell'=true:=by cases v<;>first|rfl|(simp [isOne]at h0)
   have ha:a.add 0=a:=rfl
   simp [storeVar,run_sizeOf' hn,hc,storeCells,run_store _ _ _ _ _ hv,ha,h1,h2]
  ·exact h.elim
theorem nilK_sound {x:Value} {K:Value->Prop} (h:nilK x K):(∃f first captured,x= .func (.func f) first captured/\K x)\/∃a,x= .pointer (some a)/\K x:=by
 unfold nilK at h
 split at h
 ·exact .inl ⟨_,_,_,rfl,h⟩
 ·obtain⟨a,rfl,hK⟩:=withAddr_iff h;exact .inr ⟨a,rfl,hK⟩
theorem faK_sound {t:TypeId} {f:Nat} {a:Addr} {w:World} {K:Addr->Prop} (h:faK P t f a K):∃a',(Instr.fieldAt t (.pointer (some a)) f).run P w= .ok (.pointer (some a')) w/\K a':=by
 unfold faK at h
 split at h
 case h_2=>exact h.elim
 rename_i n hn
 refine⟨_,?_,h⟩
 unfold fieldOff at hn
 split at hn
 case h_2=>cases hn
 rename_i fs hfs
 split at hn
 case h_2=>cases hn
 rename_i fd hfd
 split at hn
 case h_2=>cases hn
 rename_i sz hsz
 injection hn with hn;subst hn
 simp [Instr.fieldAt,run_und hfs,hfd,Instr.sureAddr,fieldPlace,run_sizeOf' hsz]
theorem iaK_sound {t:TypeId} {x i:Value} {w:World} {K:Addr->Prop} (h:iaK P t x i K):∃a,(Instr.indexAt t x i).run P w= .ok (.pointer (some a)) w/\K a:=by
 unfold iaK at h
 split at h
 ·rename_i hu
  split at h
  case h_2=>exact h.elim
  rename_i size hs
  obtain⟨a,ha,hK⟩:=h
  refine⟨a,?_,hK⟩
  unfold sliceAt at ha
  split at ha
  case h_2=>cases ha
  split at ha
  case isFalse=>cases ha
  rename_i hlt
  injection ha with ha;subst ha
  simp [Instr.indexAt,asIntOf,run_und hu,run_sizeOf' hs,hlt]
 ·rename_i hu
  split at h
  case h_2=>exact h.elim
  rename_i size hs
  obtain⟨a,rfl,hlt,hK⟩:=withAddr_iff h
  refine⟨_,?_,hK⟩
  unfold inR at hlt
  simp [Instr.indexAt,asIntOf,run_und hu,run_sizeOf' hs,hlt,Instr.sureAddr]
 ·exact h.elim
theorem run_isAgg {t:TypeId} {w:World} {d:TypeDesc} (h:P.underlying t=some d):(isAgg t).run P w= .ok (aggB P t) w:=by
 simp only[isAgg,Sem.run_bind,run_und h,Result.andThen_ok]
 unfold aggB;rw[h]
 cases d<;>rfl
theorem fldK_sound {sp:Shp} {t:TypeId} {x:Value} {f:Nat} {w:World} {K:KV} (h:fldK P sp t x f w K):RV P (Instr.field t x f) w K:=by
 unfold fldK at h
 split at h
 ·rename_i fs cs hu
  split at h
  case h_2=>exact h.elim
  rename_i fd hfd
  split at h
  case h_1=>exact h.elim
  rename_i d hd
  have hag:=run_isAgg (P:=P) (w:=w) hd
  split at h
  ·rename_i hb
   rw[hb]at hag
   split at h
   case h_2=>exact h.elim
   rename_i n hn
   refine⟨_,w,?_,h⟩
   have he:cs.extract fd.offset (fd.offset+n)=((cs.toList.drop fd.offset).take n).toArray:=by
    obtain⟨l⟩:=cs;simp
   simp [Instr.field,run_und hu,hfd,part,asAgg,hag,run_sizeOf' hn,he]
  ·rename_i hb
   rw[hb]at hag
   split at h
   case h_2=>exact h.elim
   rename_i v hv
   refine⟨_,w,?_,h⟩
   have hv':cs[fd.offset]? =some v:=by obtain⟨l⟩:=cs;simpa using hv
   simp [Instr.field,run_und hu,hfd,part,asAgg,hag,hv']
 ·exact rawQ_iff h
theorem ixK_sound {r:Shp} {t:TypeId} {x i:Value} {w:World} {K:KV} (h:ixK P r t x i w K):RV P (Instr.index t x i) w K:=by
 unfold ixK at h
 split at h
 ·rename_i s k n hu
  obtain⟨⟨h1,h2⟩,h3⟩:=h
  refine⟨_,w,?_,h3⟩
  obtain⟨m,rfl⟩:=Int.eq_ofNat_of_zero_le h1
  have hm:m < s.size:=by omega
  have e1:s[m]? =some s[m]:=by simp [hm]
  have e2:s.get! m=s[m]:=by
   show s.data[m]! =s.data[m]
   exact getElem!_pos s.data m hm
  simp [Instr.index,asIntOf,run_und hu,e1,e2]
 ·exact h.elim
 ·exact rawQ_iff h
theorem run_zeroValue {t:TypeId} {w:World} {z:Value} (h:(P.info? t).bind (·.zero)=some z):(zeroValue t).run P w= .ok z w:=by
 obtain⟨i,hi,hz'⟩:=Option.bind_eq_some_iff.1 h
 simp [zeroValue,run_typeInfo hi,hz']
theorem run_places {w:World}:∀(fs:List Field) (ps:List (Nat×Nat)),fs.mapM (λf=>(P.info? f.type).map (λi=>(f.offset,i.size)))=some ps->
 (fs.mapM (m:=Sem) (λf=>do pure (f.offset,←sizeOf f.type))).run P w= .ok ps w:=by
 intro fs
 induction fs with
 |nil=>intro ps h;simp at h;subst h;rfl
 |cons f fs ih=>
  intro ps h
  simp only[List.mapM_cons,Option.bind_eq_bind,Option.pure_def,Option.bind_eq_some_iff,Option.map_eq_some_iff,Option.some.injEq]at h
  obtain⟨_,⟨i,hi,rfl⟩,qs,hq,rfl⟩:=h
  have hs:(sizeOf f.type).run P w= .ok i.size w:=run_sizeOf' (by simp [hi])
  simp only[List.mapM_cons,Sem.run_bind,hs,ih _ hq,Result.andThen_ok,Sem.run_pure]
theorem mapA_eq {α β:Type} (f:α->β) (xs:Array α):mapA f xs=xs.map f:=by
 obtain⟨l⟩:=xs;simp [mapA]
theorem app3_eq (a b c:Array Value):app3 a b c=a++b++c:=by
 obtain⟨a⟩:=a;obtain⟨b⟩:=b;obtain⟨c⟩:=c;simp [app3]
theorem setL_fold:∀(vs:List Value) (cells:List Value) (off k:Nat),(vs.zipIdx k).foldl (λ(cs:Array Value) (p:Value×Nat)=>cs.setIfInBounds (off+p.2) p.1) cells.toArray=(setL cells (off+k) vs).toArray:=by
 intro vs
 induction vs with
 |nil=>intro cells off k;rfl
 |cons v vs ih=>
  intro cells off k
  simp only[List.zipIdx_cons,List.foldl_cons,setL]
  rw[List.setIfInBounds_toArray,ih];rfl
theorem fillL_eq (place:Nat->Option (Nat×Nat)):∀(parts:List (Nat×Value)) (cells out:List Value),fillL place cells parts=some out->Instr.fill place cells.toArray parts=some out.toArray:=by
 intro parts
 induction parts with
 |nil=>intro cells out h;simp only[fillL,Option.some.injEq]at h;subst h;rfl
 |cons p parts ih=>
  intro cells out h
  obtain⟨i,v⟩:=p
  simp only[fillL]at h
  simp only[Instr.fill]
  cases hp:place i with
  |none=>rw[hp]at h;cases h
  |some q=>
   obtain⟨off,size⟩:=q
   rw[hp]at h
   simp only at h ⊢
   cases hb:Nat.beq v.cells.size size&&Nat.ble (off+v.cells.size) cells.length
   ·rw[hb]at h;cases h
   ·rw[hb]at h
    simp only[cond_true]at h
    simp only[Bool.and_eq_true,Nat.ble_eq]at hb
    have h1:=Nat.eq_of_beq_eq_true hb.1
    have hc:¬((decide (v.cells.size≠size)||decide (off+v.cells.size > cells.toArray.size))=true):=by
     simp [h1];rw[h1]at hb;omega
    rw[if_neg hc]
    have e:v.cells.zipIdx.foldl (λcs x=>cs.setIfInBounds (off+x.2) x.1) cells.toArray=(setL cells off v.cells.toList).toArray:=by
     rw[←Array.foldl_toList,Array.toList_zipIdx]
     exact setL_fold _ _ off 0
    have e':(v.cells.zipIdx.foldl (λcs (c,j)=>cs.setIfInBounds (off+j) c) cells.toArray)=(setL cells off v.cells.toList).toArray:=e
    rw[e']
    exact ih _ _ h
theorem oneK'_iff {v:Value} {A:Prop} (h:oneK' v A):isOne v=true/\A:=by
 unfold oneK' at h
 split at h<;>first|exact⟨rfl,h⟩|exact h
theorem cells_one {v:Value} (h:isOne v=true):v.cells= #[v]:=by cases v<;>first|rfl|(simp [isOne]at h)
theorem fillK_iff (place:Nat->Option (Nat×Nat)) {K:List Value->Prop}:∀(parts:List (Nat×Value)) (cells:List Value),fillK place K cells parts->∃out,fillL place cells parts=some out/\K out:=by
 intro parts
 induction parts with
 |nil=>intro cells h;exact⟨cells,rfl,h⟩
 |cons p parts ih=>
  intro cells h
  obtain⟨i,v⟩:=p
  simp only[fillK]at h
  simp only[fillL]
  cases hp:place i with
  |none=>rw[hp]at h;exact h.elim
  |some q=>
   obtain⟨off,size⟩:=q
   rw[hp]at h
   simp only at h ⊢
   cases h1:Nat.beq size 1
   ·rw[h1]at h
    simp only[cond_false]at h
    obtain⟨h2,h3⟩:=cond_of h
    rw[h2]
    exact ih _ h3
   ·rw[h1]at h
    simp only[cond_true]at h
    obtain⟨h2,h3⟩:=oneK'_iff h
    obtain⟨h4,h5⟩:=cond_of h3
    have e:size=1:=Nat.eq_of_beq_eq_true h1
    have hc:=cells_one h2
    rw[hc,e]
    have e1:(#[v]:Array Value).size=1:=rfl
    have e2:Nat.beq 1 1=true:=rfl
    rw[e1,e2,h4]
    exact ih _ h5
theorem fillK_mono (place:Nat->Option (Nat×Nat)) {K K':List Value->Prop} (hk:∀c,K c->K' c):∀(parts:List (Nat×Value)) (cells:List Value),fillK place K cells parts->fillK place K' cells parts:=by
 intro parts
 induction parts with
 |nil=>intro cells h;exact hk _ h
 |cons p parts ih=>
  intro cells h
  obtain⟨i,v⟩:=p
  simp only[fillK]at h ⊢
  cases hp:place i with
  |none=>rw[hp]at h;exact h.elim
  |some q=>
   obtain⟨off,size⟩:=q
   rw[hp]at h
   simp only at h ⊢
   cases h1:Nat.beq size 1
   ·rw[h1]at h
    simp only[cond_false]at h ⊢
    obtain⟨h2,h3⟩:=cond_of h
    rw[h2]
    exact ih _ h3
   ·rw[h1]at h
    simp only[cond_true]at h ⊢
    have key:∀{A B:Prop},(A->B)->oneK' v A->oneK' v B:=by
     intro A B hab hA
     unfold oneK' at hA ⊢
     split at hA<;>first|exact hab hA|exact⟨hA.1,hab hA.2⟩
    refine key (λh3=>?_) h
    obtain⟨h4,h5⟩:=cond_of h3
    rw[h4]
    exact ih _ h5
theorem fillK_pick (place:Nat->Option (Nat×Nat)) {K:List Value->Prop} (parts:List (Nat×Value)) (cells:List Value) (h:fillK place K cells parts):∃out,K out/\fillK place (λo=>o=out) cells parts:=by
 obtain⟨out,h1,h2⟩:=fillK_iff place parts cells h
 refine⟨out,h2,fillK_mono place (K:=λo=>some o=some out) (λc hc=>Option.some.inj hc) parts cells ?_⟩
 have key:∀(parts:List (Nat×Value)) (cells:List Value),fillK place K cells parts->fillK place (λo=>fillL place cells parts=some o) cells parts:=by
  intro parts
  induction parts with
  |nil=>intro cells _;rfl
  |cons p parts ih=>
   intro cells h
   obtain⟨i,v⟩:=p
   simp only[fillK,fillL]at h ⊢
   cases hp:place i with
   |none=>rw[hp]at h;exact h.elim
   |some q=>
    obtain⟨off,size⟩:=q
    rw[hp]at h
    simp only at h ⊢
    cases h1:Nat.beq size 1
    ·rw[h1]at h
     simp only[cond_false]at h ⊢
     obtain⟨h2,h3⟩:=cond_of h
     rw[h2]
     exact ih _ h3
    ·rw[h1]at h
     simp only[cond_true]at h ⊢
     have e:size=1:=Nat.eq_of_beq_eq_true h1
     have k2:=(oneK'_iff h).1
     have hc:=cells_one k2
     rw[hc,e]
     have e1:(#[v]:Array Value).size=1:=rfl
     have e2:Nat.beq 1 1=true:=rfl
     rw[e1,e2,Bool.true_and]
     have key:∀{A B:Prop},(A->B)->oneK' v A->oneK' v B:=by
      intro A B hab hA
      unfold oneK' at hA ⊢
      split at hA<;>first|exact hab hA|exact⟨hA.1,hab hA.2⟩
     refine key (λh3=>?_) h
     obtain⟨h4,h5⟩:=cond_of h3
     rw[h4]
     exact ih _ h5
 exact fillK_mono place (λc hc=>by rw[h1]at hc;exact hc.symm) parts cells (key parts cells h)
theorem bdK_sound {t:TypeId} {parts:Array (Nat×Value)} {w:World} {K:KV} (h:bdK P t parts w K):RV P (Instr.build t parts) w K:=by
 unfold bdK at h
 split at h
 ·rename_i z fields hz hu
  split at h
  case h_2=>exact h.elim
  rename_i places hp
  obtain⟨cells,hc,h⟩:=fillK_iff _ _ _ h
  refine⟨_,w,?_,h⟩
  have hm:(fields.mapM (m:=Sem) (λf=>do pure (f.offset,←sizeOf f.type))).run P w= .ok places.toArray w:=by
   rw[Array.mapM_eq_mapM_toList,Sem.run_map,run_places _ _ hp];rfl
  simp only[Instr.build,Sem.run_bind,run_zeroValue hz,Result.andThen_ok,run_und hu,hm]
  have:(λ(x:Nat)=>places.toArray[x]?)=λ(i:Nat)=>places[i]? :=by funext x;simp
  have hc':=fillL_eq _ _ _ _ hc
  rw[Array.toArray_toList]at hc'
  rw[this,hc'];rfl
 ·rename_i z n e hz hu
  split at h
  case h_2=>exact h.elim
  rename_i size hs
  obtain⟨cells,hc,h⟩:=fillK_iff _ _ _ h
  refine⟨_,w,?_,h⟩
  have hc':=fillL_eq _ _ _ _ hc
  rw[Array.toArray_toList]at hc'
  simp only[Instr.build,Sem.run_bind,run_zeroValue hz,Result.andThen_ok,run_und hu,run_sizeOf' hs,hc'];rfl
 ·exact h.elim
theorem flat_eq (z:Array Value) (size:Nat) (hz:z.size=size):∀n,(List.flatten (List.replicate n z.toList)).toArray=(Array.range (n*size)).map (λi=>z[i % size]!):=by
 intro n
 subst hz
 induction n with
 |zero=>simp
 |succ n ih=>
  rw[List.replicate_succ',List.flatten_concat,←List.append_toArray,ih]
  have hsz:((Array.range (n*z.size)).map (λi=>z[i % z.size]!)).size=n*z.size:=by simp
  apply Array.ext
  ·simp [Nat.add_mul]
  ·intro j h1 h2
   have h3:j < (n+1)*z.size:=by simpa using h2
   rw[Nat.add_mul]at h3
   rw[Array.getElem_append]
   by_cases hj:j < n*z.size
   ·simp [hj]
   ·have e:j % z.size=j - n*z.size:=by
     have e1:j=n*z.size+(j - n*z.size):=by omega
     have e2:(j - n*z.size) < z.size:=by omega
     generalize j - n*z.size=m at e1 e2 ⊢
     rw[e1,Nat.mul_comm,Nat.mul_add_mod,Nat.mod_eq_of_lt e2]
    have hlt:j - n*z.size < z.size:=by omega
    simp [hj,e,hlt]
theorem bsK_sound {t:TypeId} {n:Nat} {parts:Array (Nat×Value)} {w:World} {K:KV} (h:bsK P t n parts w K):RV P (Instr.buildSlice t n parts) w K:=by
 unfold bsK at h
 split at h
 case h_2=>exact h.elim
 rename_i e hu
 split at h
 case h_2=>exact h.elim
 rename_i size z hs
 obtain⟨i,hi,hi2⟩:=Option.map_eq_some_iff.1 hs
 simp only[Prod.mk.injEq]at hi2
 obtain⟨h1,h2⟩:=hi2
 split at h
 case h_2=>exact h.elim
 rename_i hb
 obtain⟨cells,hc,h⟩:=fillK_iff _ _ _ h
 simp only[Bool.and_eq_true,Nat.ble_eq,Nat.blt_eq]at hb
 obtain⟨⟨hb1,hb2⟩,hb3⟩:=hb
 have hb3:=Nat.eq_of_beq_eq_true hb3
 refine⟨_,_,?_,h⟩
 have hz:(zeroValue e).run P w= .ok z w:=run_zeroValue (by simp [hi,h2])
 have hsz:(sizeOf e).run P w= .ok size w:=run_sizeOf' (by simp [hi,h1])
 have hle:¬(n*size > 2 ^ 24):=by omega
 have hc:=fillL_eq _ _ _ _ hc
 rw[flat_eq z.cells size hb3]at hc
 have key:∀zero:Array Value,(Array.range (n*size)).map (λi=>zero[i % zero.size]!)=(Array.range (n*size)).map (λi=>z.cells[i % size]!)->
  (do
   let some cells:=Instr.fill (λi=>some (i*size,size)) ((Array.range (n*size)).map (zero[· % zero.size]!)) parts.toList
    |stuck "buildSlice: a part of the wrong size"
   pure (.slice (some (←newRow e cells)) n n):Sem Value).run P w= .ok (Value.slice (some {block:=w.heap.size,off:=0}) n n) (w.alloc (Obj.cells cells.toArray e)):=by
  intro zero hzero
  rw[hzero,hc];rfl
 unfold Instr.buildSlice
 simp only[Sem.run_bind,run_und hu,hsz,Result.andThen_ok]
 rw[if_neg hle]
 by_cases h0:n*size=0
 ·rw[if_pos h0]
  exact key #[] (by simp [h0])
 ·rw[if_neg h0]
  simp only[Sem.run_bind,hz,Result.andThen_ok,Sem.run_pure]
  exact key z.cells (by rw[hb3])
theorem boundOf_run {x:Value} {y n:Nat} {c:BoundsCode} {w:World} (h:boundOf x y=some n):(Instr.sliceBound x y c).run P w= .ok n w:=by
 unfold boundOf at h
 split at h
 case h_2=>cases h
 split at h
 case isFalse=>cases h
 rename_i hc
 injection h with h;subst h
 simp [Instr.sliceBound,asIntOf,hc]
theorem boundsOf_run {b:Bool} {len cap l h m:Nat} {lo hi mx:Option Value} {w:World} (hh:boundsOf len cap lo hi mx=some (l,h,m)):(Instr.sliceBounds b len cap lo hi mx).run P w= .ok (l,h,m) w:=by
 unfold boundsOf at hh
 split at hh
 case h_1=>cases hh
 rename_i m' hm'
 split at hh
 case h_1=>cases hh
 rename_i h' hh'
 split at hh
 case h_1=>cases hh
 rename_i l' hl'
 injection hh with hh
 simp only[Prod.mk.injEq]at hh
 obtain⟨rfl,rfl,rfl⟩:=hh
 cases mx with
 |none=>
  simp at hm';subst hm'
  cases hi with
  |none=>
   simp at hh';subst hh'
   cases lo with
   |none=>simp at hl';subst hl';simp [Instr.sliceBounds]
   |some lo=>simp [Instr.sliceBounds,boundOf_run hl']
  |some hi=>
   cases lo with
   |none=>simp at hl';subst hl';simp [Instr.sliceBounds,boundOf_run hh']
   |some lo=>simp [Instr.sliceBounds,boundOf_run hl',boundOf_run hh']
 |some mx=>
  cases hi with
  |none=>simp at hh'
  |some hi=>
   cases lo with
   |none=>simp at hl';subst hl';simp [Instr.sliceBounds,boundOf_run hh',boundOf_run hm']
   |some lo=>simp [Instr.sliceBounds,boundOf_run hl',boundOf_run hh',boundOf_run hm']
theorem slK_sound {t:TypeId} {x:Value} {lo hi mx:Option Value} {w:World} {K:KV} (h:slK P t x lo hi mx w K):RV P (Instr.sliceAt t x lo hi mx) w K:=by
 unfold slK at h
 split at h
 ·rename_i s hu
  split at h
  case h_2=>exact h.elim
  obtain⟨l,h',m,hb,hK⟩:=h
  exact⟨_,w,by simp [Instr.sliceAt,Instr.slice,run_und hu,boundsOf_run hb],hK⟩
 ·rename_i e hu
  split at h
  case h_2=>exact h.elim
  rename_i size hs
  obtain⟨v,hv,hK⟩:=h
  unfold subSlice at hv
  split at hv
  case h_2=>cases hv
  split at hv
  case h_2=>cases hv
  rename_i a len cap l h' m hb
  injection hv with hv;subst hv
  refine⟨_,w,?_,hK⟩
  simp [Instr.sliceAt,Instr.slice,run_und hu,boundsOf_run hb,run_sizeOf' hs]
 ·rename_i n e hu
  split at h
  case h_2=>exact h.elim
  rename_i size hs
  split at h
  ·obtain⟨a,rfl,hK⟩:=withAddr_iff h
   have hb:boundsOf n n none none none=some (0,n,n):=by simp [boundsOf]
   refine⟨_,w,?_,hK⟩
   have e0:(if n=0 then a else a.add (0*size))=a:=by rw[Nat.zero_mul];split<;>rfl
   simp [Instr.sliceAt,Instr.sureAddr,run_und hu,boundsOf_run hb,run_sizeOf' hs]
   intro _;rfl
  ·obtain⟨a,rfl,l,h',m,hb,hK⟩:=withAddr_iff h
   exact⟨_,w,by simp [Instr.sliceAt,Instr.sureAddr,run_und hu,boundsOf_run hb,run_sizeOf' hs],hK⟩
 ·exact h.elim
theorem alK_sound {t:TypeId} {w:World} {K:KV} (h:alK P t w K):RV P (Instr.alloc t true (.tuple #[])) w K:=by
 unfold alK at h
 split at h
 case h_2=>exact h.elim
 rename_i z hz
 refine⟨_,_,?_,h⟩
 obtain⟨i,hi,hz'⟩:=Option.bind_eq_some_iff.1 hz
 simp [Instr.alloc,zeroValue,run_typeInfo hi,hz',newVar,newRow]
theorem exK_sound {x:Value} {i:Nat} {w:World} {K:Value->Prop} (h:exK x i K):RV P (Instr.extract x i) w (λv _=>K v):=by
 unfold exK at h
 split at h
 case h_2=>exact h.elim
 split at h
 case h_2=>exact h.elim
 rename_i v hv
 exact⟨v,w,by simp [Instr.extract,hv],h⟩
theorem lenK_sound {t:TypeId} {x:Value} {w:World} {K:KV} {ty:TypeId} (h:lenK P t x w K):RV P (Builtin.len_ #[t] ty #[x]) w K:=by
 unfold lenK at h
 split at h
 ·rename_i hu
  exact⟨_,w,by simp [Builtin.len_,run_und hu,goInt],h⟩
 ·exact h.elim
 ·rename_i n e hu
  exact⟨_,w,by simp [Builtin.len_,run_und hu,goInt],h⟩
 ·rename_i e hu
  obtain⟨n,hn,hK⟩:=h
  unfold sliceLen at hn
  split at hn
  case h_2=>cases hn
  injection hn with hn;subst hn
  exact⟨_,w,by simp [Builtin.len_,run_und hu,goInt],hK⟩
 ·exact rawQ_iff h
theorem builtinK_sound {r:Rep} {b:Builtin} {ts:Array TypeId} {ty:TypeId} {cs:Array Bool} {vs:Array Value} {w:World} {K:KV} (h:builtinK P r b ts ty vs w K):
 ∃s:Sem Value,builtin b ts ty cs vs=(do pure (.value (←s)))/\RV P s w K:=by
 unfold builtinK at h
 split at h
 ·rename_i t v ht hv
  obtain⟨l⟩:=ts;obtain⟨l'⟩:=vs
  simp only at ht hv;subst ht;subst hv
  exact⟨_,rfl,lenK_sound h⟩
 ·rename_i k x k' y hv
  obtain⟨l'⟩:=vs
  simp only at hv;subst hv
  exact⟨_,rfl,_,w,rfl,h⟩
 ·rename_i k x k' y hv
  obtain⟨l'⟩:=vs
  simp only at hv;subst hv
  exact⟨_,rfl,_,w,rfl,h⟩
 all_goals first|exact h.elim|exact⟨_,rfl,rawS_iff h⟩|exact⟨_,rfl,rawQ_iff h⟩
def NamesOk (P:Program):Prop:=∀(f:FuncId) (fn:Func),P.funcs[f]? =some fn->fn.body.isSome=true->(fn.name== "runtime.NumGoroutine")=false
theorem callK_sound {f:FuncId} {args:Array Value} {w:World} {K:KV} (hn:NamesOk P) (h:callK P f args w K):
 (callFunc f args).run P w= .ok (.enter f args) w/\Spec P f args w K:=by
 unfold callK at h
 split at h
 case h_2=>exact h.elim
 rename_i hb
 obtain⟨fn,hf,hb'⟩:=Option.map_eq_some_iff.1 hb
 refine⟨?_,h.mono λv w' hv=>resTuple_iff hv⟩
 have h1:=hn f fn hf hb'
 have h2:fn.body.isNone=false:=by cases hfb:fn.body<;>simp_all
 simp only[callFunc,Sem.run_bind,run_program,Result.andThen_ok,hf]
 rw[if_neg (by rw[h1];decide),if_neg (by rw[h2];decide)];rfl
theorem callU_iff {f:Value} {args:Array Value} {w:World} {K:KV} (h:callU P f args w K):
 ∃g first captured,f= .func (.func g) first captured/\((P.funcs[g]?).map (λfn=>fn.body.isSome)=some true)/\Spec P g (first++args++captured) w K:=by
 unfold callU at h
 split at h
 ·split at h
  ·rename_i hb
   rw[app3_eq]at h
   exact⟨_,_,_,rfl,hb,h⟩
  ·exact h.elim
 ·obtain⟨g,first,captured,hv,hb,h⟩:=h
  rw[app3_eq]at h
  exact⟨g,first,captured,hv,hb,h⟩
theorem runsTo_enter {ρ:Operand->Value} {o:Oper} {w:World} {K:KV} {f:FuncId} {args:Array Value} (he:(execOp ρ o).run P w= .ok (.enter f args) w) (h:Spec P f args w K):runsTo P ρ o w K:=by
 unfold runsTo;rw[he];exact h
theorem run_ofValue {g:FuncId} {first captured args:Array Value} {w:World}:
 (Deferred.ofValue (.func (.func g) first captured) args).run P w= .ok {target:=.fn (.func g) captured,args:=first++args} w:=rfl
theorem opK_sound (hn:NamesOk P) {ρ:Operand->Value} {o:Oper} {w:World} {K:KV} (hρ:∀f,ρ (.func f)= .func (.func f) #[] #[]) (h:opK P ρ o w K):runsTo P ρ o w K:=by
 obtain⟨dst,op,type,pos,after,guard⟩:=o
 unfold opK at h
 cases op<;>simp only[mapA_eq]at h
 case move x=>exact runsTo_of_RV (s:=pure (ρ x)) rfl (RV_pure h)
 case assign x=>exact runsTo_of_RV (s:=pure (ρ x)) rfl (RV_pure h)
 case pick c a b=>
  obtain⟨t,hc,hK⟩:=pickK_iff h
  unfold runsTo
  simp only[execOp,hc,asBool]
  cases t<;>exact hK
 case binOp op t x y yt=>exact runsTo_of_RV rfl (binK_sound rfl h)
 case unOp op t x=>exact runsTo_of_RV rfl (unK_sound h)
 case convert s d x=>exact runsTo_of_RV rfl (convK_sound h)
 case load t a=>
  obtain⟨x,ha,hK⟩:=withAddr_iff h
  obtain⟨v,w',hr,hv⟩:=ldK_sound hK
  refine runsTo_of_RV (s:=Instr.loadAt t (ρ a)) rfl ⟨v,w',?_,hv⟩
  simp [Instr.loadAt,Instr.sureAddr,ha,hr]
 case store t a x=>
  obtain⟨x',ha,hK⟩:=withAddr_iff h
  obtain⟨w',hr,hv⟩:=stK_sound hK
  refine runsTo_of_RU (s:=Instr.storeAt t (ρ a) (ρ x)) rfl ⟨w',?_,hv⟩
  simp [Instr.storeAt,Instr.sureAddr,ha,hr]
 case nilCheck x=>
  rcases nilK_sound h with ⟨f,first,captured,hx,hK⟩|⟨a,hx,hK⟩
  ·unfold runsTo;simp only[execOp,hx];rw[←hx];exact hK
  ·unfold runsTo;simp only[execOp,hx];rw[←hx];exact hK
 case fieldAddr t x f=>
  obtain⟨a,ha,hK⟩:=withAddr_iff h
  obtain⟨a',hr,hv⟩:=faK_sound (w:=w) hK
  exact runsTo_of_RV (s:=Instr.fieldAt t (ρ x) f) rfl ⟨_,w,by rw[ha];exact hr,hv⟩
 case indexAddr t x i=>
  obtain⟨a,hr,hK⟩:=iaK_sound (w:=w) h
  exact runsTo_of_RV rfl ⟨_,w,hr,hK⟩
 case index t x i=>exact runsTo_of_RV rfl (ixK_sound h)
 case slice t x lo hi mx=>exact runsTo_of_RV rfl (slK_sound h)
 case build t parts=>exact runsTo_of_RV rfl (bdK_sound h)
 case buildSlice t n parts=>exact runsTo_of_RV rfl (bsK_sound h)
 case alloc t=>exact runsTo_of_RV rfl (alK_sound h)
 case box t x=>exact runsTo_of_RV (s:=Instr.box t (ρ x)) rfl ⟨_,_,rfl,h⟩
 case extract x i=>
  obtain⟨v,w',hr,hK⟩:=exK_sound (w:=w) h
  have hw:w'=w:=by
   unfold exK at h
   split at h
   case h_2=>exact h.elim
   rename_i vs hx
   split at h
   case h_2=>exact h.elim
   rename_i u hu
   simp [Instr.extract,hx,hu]at hr
   exact hr.2.symm
  subst hw
  exact runsTo_of_RV rfl ⟨v,w',hr,hK⟩
 case call c=>
  obtain⟨callee,args,ats⟩:=c
  dsimp only at h
  split at h
  ·rename_i b
   obtain⟨s,he,hv⟩:=builtinK_sound (cs:=args.map λ| .const _=>true|_=>false) h
   refine runsTo_of_RV (s:=s) ?_ hv
   show(do let d ←resolve ρ _ type;invoke d.target d.args)=_
   simp only[resolve,pure_bind,invoke]
   exact he
  ·rename_i f
   obtain⟨h1,h2⟩:=callK_sound hn h
   refine runsTo_enter ?_ h2
   show(do let d ←resolve ρ _ type;invoke d.target d.args:Sem Next).run P w=_
   simp only[resolve,hρ,Sem.run_bind,run_ofValue,Result.andThen_ok,invoke,Array.append_empty,Array.empty_append]
   exact h1
  ·rename_i x hx
   unfold callV at h
   have step:∀{g:FuncId} {first captured:Array Value},ρ x= .func (.func g) first captured->(callFunc g (first++args.map ρ++captured)).run P w= .ok (.enter g (first++args.map ρ++captured)) w->
    Spec P g (first++args.map ρ++captured) w K->runsTo P ρ {dst,op:=.call {callee:=.value x,args,argTypes:=ats},type,pos,after,guard} w K:=by
    intro g first captured hx h1 h2
    refine runsTo_enter ?_ h2
    show(do let d ←resolve ρ _ type;invoke d.target d.args:Sem Next).run P w=_
    simp only[resolve,hx,Sem.run_bind,run_ofValue,Result.andThen_ok,invoke]
    exact h1
   obtain⟨g,first,captured,hx,hb,h2⟩:=callU_iff h
   refine step hx ?_ (h2.mono λv w' hv=>resTuple_iff hv)
   obtain⟨fn,hf,hb'⟩:=Option.map_eq_some_iff.1 hb
   have h1:=hn g fn hf hb'
   have h2:fn.body.isNone=false:=by cases hfb:fn.body<;>simp_all
   simp only[callFunc,Sem.run_bind,run_program,Result.andThen_ok,hf]
   rw[if_neg (by rw[h1];decide),if_neg (by rw[h2];decide)];rfl
  ·exact h.elim
 case makeInterface t x=>exact runsTo_of_RV rfl (rawQ_iff h)
 case makeFunc fn first captured=>exact runsTo_of_RV (s:=Instr.makeFunc fn (first.map ρ) (captured.map ρ)) rfl ⟨_,w,rfl,h⟩
 case makeMap t r=>exact runsTo_of_RV rfl (rawS_iff h)
 case makeSlice t l c=>exact runsTo_of_RV rfl (rawS_iff h)
 case sliceToArrayPointer t x=>exact runsTo_of_RV rfl (rawQ_iff h)
 case field t x f=>exact runsTo_of_RV rfl (fldK_sound h)
 case lookup t x i ok=>exact runsTo_of_RV rfl (rawQ_iff h)
 case mapUpdate t m k x=>exact runsTo_of_RU rfl h
 case insert t m k x=>exact runsTo_of_RU rfl h
 case range t x=>exact runsTo_of_RV rfl (rawS_iff h)
 case next it b=>exact runsTo_of_RV rfl (nextK_iff h)
 case entry it=>exact runsTo_of_RV rfl (entryK_iff h)
 case typeAssert x t asserted ok=>exact runsTo_of_RV rfl (rawQ_iff h)
 all_goals exact h.elim
end
end Go.CW
