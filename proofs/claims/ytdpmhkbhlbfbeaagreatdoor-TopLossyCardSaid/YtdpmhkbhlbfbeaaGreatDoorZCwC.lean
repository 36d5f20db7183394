/- A part of the proof. -/
import Derived.Test.YtdpmhkbhlbfbeaaGreatDoorZBX1
namespace Go.CW
def addB (L t:Nat):Nat:=L|||(1 <<< t)
def remB (L t:Nat):Nat:=bif L.testBit t then L ^^^ (1 <<< t)else L
def opnds:Op->List Operand
 | .alloc _| .ready _| .waits _=>[]
 | .move x| .assign x| .box _ x| .load _ x| .nilCheck x| .unOp _ _ x| .convert _ _ x| .sliceToArrayPointer _ x| .makeInterface _ x
 | .makeChan _ x| .fieldAddr _ x _| .field _ x _| .range _ x| .next x _| .entry x| .typeAssert x _ _ _| .extract x _| .panic x| .recv _ x _=>[x]
 | .pick c a b=>[c,a,b]
 | .build _ ps| .buildSlice _ _ ps=>ps.toList.map (·.2)
 | .store _ a v| .binOp _ _ a v _| .makeSlice _ a v| .indexAddr _ a v| .index _ a v| .lookup _ a v _| .mapEntry _ a v| .send a v=>[a,v]
 | .makeFunc _ first captured=>first.toList++captured.toList
 | .makeMap _ r=>r.toList
 | .slice _ x l h m=>x::(l.toList++(h.toList++m.toList))
 | .mapUpdate _ m k v| .entryStore _ m k v| .insert _ m k v=>[m,k,v]
 | .call c| .go c| .defer c=>match c.callee with
   | .value f=>f::c.args.toList
   | .invoke r _=>r::c.args.toList
   | .builtin _=>c.args.toList
 | .select _ _=>[]
def rdOpd:Operand->Nat->Nat
 | .tmp t,L=>addB L t
 |_,L=>L
def rdOpds:List Operand->Nat->Nat
 |[],L=>L
 |x::r,L=>rdOpd x (rdOpds r L)
def dstAt (ops:List Oper) (j:Nat):Option Tmp:=(ops[j]?).bind (·.dst)
def rdGuard (ops:List Oper) (o:Oper) (L:Nat):Nat:=
 match o.guard with
 |none=>L
 |some (j,_)=>match dstAt ops j with
  |some d=>addB L d
  |none=>L
def remDst (o:Oper) (L:Nat):Nat:=match o.dst with|some d=>remB L d|none=>L
def lvOps (ops:List Oper):List Oper->Nat->Nat
 |[],L=>L
 |o::r,L=>rdGuard ops o (rdOpds (opnds o.op) (remDst o (lvOps ops r L)))
def dstsOps:List Oper->Nat
 |[]=>0
 |o::r=>match o.dst with|some d=>addB (dstsOps r) d|none=>dstsOps r
def dsts:Code->Nat
 | .region _ ops _=>dstsOps ops.toList
 | .seq a b=>dsts a|||dsts b
 | .cond _ x y=>dsts x|||dsts y
 | .block _ c=>dsts c
 | .loop c=>dsts c
 | .scope c=>dsts c
 |_=>0
def tyOps:List Oper->Nat->Option TypeId
 |[],_=>none
 |o::r,t=>match o.dst with
  |some d=>bif Nat.beq d t then some o.type else tyOps r t
  |none=>tyOps r t
def tyOf:Code->Nat->Option TypeId
 | .region _ ops _,t=>tyOps ops.toList t
 | .seq a b,t=>match tyOf a t with|some x=>some x|none=>tyOf b t
 | .cond _ x y,t=>match tyOf x t with|some x=>some x|none=>tyOf y t
 | .block _ c,t=>tyOf c t
 | .loop c,t=>tyOf c t
 | .scope c,t=>tyOf c t
 |_,_=>none
def slotsOf (N D:Nat):List Nat:=(List.range N).filter (λt=>D.testBit t)
def shSlot (P:Program) (c:Code) (t:Nat):Sh0:=match tyOf c t with|some ty=>shapeOf P ty|none=>.one .val
def bLive:List (Nat×Nat)->Nat->Nat
 |[],_=>0
 |(i,L)::r,id=>bif Nat.beq i id then L else bLive r id
def lv:Code->List (Nat×Nat)->Nat->Nat->Nat
 | .skip,_,_,L=>L
 | .label _,_,_,L=>L
 | .seq a b,B,r,L=>lv a B r (lv b B r L)
 | .cond c x y,B,r,L=>rdOpd c (lv x B r L|||lv y B r L)
 | .block id c,B,r,L=>lv c ((id,L)::B) r L
 | .loop c,B,r,_=>lv c B r 0
 | .exit id,B,_,_=>bLive B id
 | .ret,_,r,_=>r
 | .region _ ops _,_,_,L=>lvOps ops.toList ops.toList L
 | .scope c,B,r,L=>lv c B r L
 |_,_,_,_=>0
def exitsTo (id:Nat):Code->Nat
 | .exit i=>bif Nat.beq i id then 1 else 0
 | .seq a b=>exitsTo id a+exitsTo id b
 | .cond _ x y=>exitsTo id x+exitsTo id y
 | .block _ c=>exitsTo id c
 | .loop c=>exitsTo id c
 | .scope c=>exitsTo id c
 |_=>0
def guardedOps:List Oper->Bool
 |[]=>false
 |o::r=>match o.guard with|some _=>true|none=>guardedOps r
def FunR:List Rep->Type
 |[]=>World->Prop
 |r::rs=>r.T->FunR rs
def FunN:List Rep->Type
 |[]=>World->Nat
 |r::rs=>r.T->FunN rs
def curryR:(rs:List Rep)->(List Value->World->Prop)->FunR rs
 |[],k=>k []
 | .int k'::rs,k=>λ(n:Int)=>curryR rs (λvs=>k (.int k' n::vs))
 | .bool::rs,k=>λ(b:Bool)=>curryR rs (λvs=>k (.bool b::vs))
 | .str::rs,k=>λ(s:ByteArray)=>curryR rs (λvs=>k (.string s::vs))
 | .ptr::rs,k=>λ(s:Option Addr)=>curryR rs (λvs=>k (.pointer s::vs))
 | .val::rs,k=>λ(v:Value)=>curryR rs (λvs=>k (v::vs))
def appR:(rs:List Rep)->FunR rs->List Value->World->Prop
 |[],j,_,w=>j w
 | .int k::rs,j,.int k' n::vs,w=>match decEq k k' with|isTrue _=>appR rs (j n) vs w|isFalse _=>False
 | .bool::rs,j,.bool b::vs,w=>appR rs (j b) vs w
 | .str::rs,j,.string s::vs,w=>appR rs (j s) vs w
 | .ptr::rs,j,.pointer s::vs,w=>appR rs (j s) vs w
 | .val::rs,j,v::vs,w=>appR rs (j v) vs w
 |_::_,_,_,_=>False
def shReps:List Sh0->List Rep
 |[]=>[]
 | .one r::ss=>r::shReps ss
 | .agg rs::ss=>rs++shReps ss
def okC:List Rep->List Value->Bool
 |[],[]=>true
 |_::rs,_::vs=>okC rs vs
 |_,_=>false
def okF:List Sh0->List Value->Bool
 |[],_=>true
 | .one _::ss,_::vs=>okF ss vs
 | .agg rs::ss,.agg cs::vs=>okC rs cs.toList&&okF ss vs
 |_,_=>false
def flatT:List Sh0->List Value->List Value
 | .one _::ss,v::vs=>v::flatT ss vs
 | .agg _::ss,.agg cs::vs=>cs.toList++flatT ss vs
 |_,_=>[]
def takeR:List Rep->List Value->List Value
 |_::rs,v::vs=>v::takeR rs vs
 |_,_=>[]
def dropR:List Rep->List Value->List Value
 |_::rs,_::vs=>dropR rs vs
 |_,vs=>vs
def packS:List Sh0->List Value->List Value
 |[],_=>[]
 | .one _::ss,v::us=>v::packS ss us
 | .one _::_,[]=>[]
 | .agg rs::ss,us=>.agg (takeR rs us).toArray::packS ss (dropR rs us)
def appS (ss:List Sh0) (j:FunR (shReps ss)) (vs:List Value) (w:World):Prop:=
 bif okF ss vs then appR (shReps ss) j (flatT ss vs) w else False
def allR:(rs:List Rep)->FunR rs->Prop
 |[],j=>∀w,j w
 | .int _::rs,j=>∀n:Int,allR rs (j n)
 | .bool::rs,j=>∀b:Bool,allR rs (j b)
 | .str::rs,j=>∀s:ByteArray,allR rs (j s)
 | .ptr::rs,j=>∀s:Option Addr,allR rs (j s)
 | .val::rs,j=>∀v:Value,allR rs (j v)
def mapR2:(rs:List Rep)->(Prop->Prop->Prop)->FunR rs->FunR rs->FunR rs
 |[],f,a,b=>λw=>f (a w) (b w)
 | .int _::rs,f,a,b=>λn=>mapR2 rs f (a n) (b n)
 | .bool::rs,f,a,b=>λn=>mapR2 rs f (a n) (b n)
 | .str::rs,f,a,b=>λn=>mapR2 rs f (a n) (b n)
 | .ptr::rs,f,a,b=>λn=>mapR2 rs f (a n) (b n)
 | .val::rs,f,a,b=>λn=>mapR2 rs f (a n) (b n)
def ltN:(rs:List Rep)->FunN rs->Nat->FunR rs
 |[],μ,m=>λw=>μ w < m
 | .int _::rs,μ,m=>λn=>ltN rs (μ n) m
 | .bool::rs,μ,m=>λn=>ltN rs (μ n) m
 | .str::rs,μ,m=>λn=>ltN rs (μ n) m
 | .ptr::rs,μ,m=>λn=>ltN rs (μ n) m
 | .val::rs,μ,m=>λn=>ltN rs (μ n) m
def eqN:(rs:List Rep)->FunN rs->Nat->FunR rs
 |[],μ,m=>λw=>μ w=m
 | .int _::rs,μ,m=>λn=>eqN rs (μ n) m
 | .bool::rs,μ,m=>λn=>eqN rs (μ n) m
 | .str::rs,μ,m=>λn=>eqN rs (μ n) m
 | .ptr::rs,μ,m=>λn=>eqN rs (μ n) m
 | .val::rs,μ,m=>λn=>eqN rs (μ n) m
def JoinP (rs:List Rep) (rest:FunR rs) (body:FunR rs->Prop):Prop:=body rest
def LoopP (rs:List Rep) (round:FunR rs->FunR rs) (start:FunR rs->Prop):Prop:=
 ∃(I:FunR rs) (μ:FunN rs),start I/\∀m:Nat,allR rs (mapR2 rs (λa b=>a->b) (mapR2 rs And I (eqN rs μ m)) (round (mapR2 rs And I (ltN rs μ m))))
def guardV (want:Bool) (d:Nat) (v:Value) (fr:Fr) (yes no:Fr->Prop):Prop:=
 match v with
 | .bool t=>cond t (bif want then yes ((d,.bool true)::fr)else no ((d,.bool true)::fr)) (bif want then no ((d,.bool false)::fr)else yes ((d,.bool false)::fr))
 |_=>no fr
def guardK (ops:List Oper) (o:Oper) (fr:Fr) (yes no:Fr->Prop):Prop:=
 match o.guard with
 |none=>yes fr
 |some (j,want)=>match dstAt ops j with
  |some d=>guardV want d (get fr d) fr yes no
  |none=>False
def opsK (P:Program) (ops:List Oper) (K:Fr->World->Prop):List Oper->Fr->World->Prop
 |[],fr,w=>K fr w
 |o::r,fr,w=>guardK ops o fr (λfr'=>opK P (ev fr') o w (λv w'=>opsK P ops K r (putF fr' o.dst v) w')) (λfr'=>opsK P ops K r (putF fr' o.dst undef) w)
abbrev DrawT:=Program->List Oper->(Fr->World->Prop)->Fr->World->Prop
def isEff (P:Program) (o:Oper):Bool:=
 match o.op with
 | .move _| .assign _| .pick _ _ _| .binOp _ _ _ _ _| .unOp _ _ _| .load _ _| .nilCheck _| .fieldAddr _ _ _| .indexAddr _ _ _| .index _ _ _| .slice _ _ _ _ _
 | .build _ _| .extract _ _| .makeInterface _ _| .makeFunc _ _ _| .sliceToArrayPointer _ _| .field _ _ _| .lookup _ _ _ _| .typeAssert _ _ _ _=>false
 | .convert _ d _=>match P.underlying d with|some (.slice _)=>true|_=>false
 | .call c=>match c.callee with
   | .builtin .len| .builtin .min| .builtin .max| .builtin .cap=>false
   |_=>true
 |_=>true
def isPure (P:Program) (o:Oper):Bool:=
 match o.op with
 | .move _| .assign _| .pick _ _ _| .unOp _ _ _| .nilCheck _| .fieldAddr _ _ _| .indexAddr _ _ _| .slice _ _ _ _ _| .build _ _| .extract _ _| .makeFunc _ _ _=>true
 | .binOp _ t _ y _=>match P.underlying t,isConstO y with
   |some (.int _),_|some .string,_|some .bool,_|some (.slice _),_|some (.map _ _),_|some (.func _ _ _),_|some (.pointer _),true=>true
   |_,_=>false
 | .convert s d _=>match P.underlying s,P.underlying d with
   |some (.int _),some (.int _)=>true
   |_,_=>false
 | .index t _ _=>match P.underlying t with|some .string=>true|_=>false
 | .call c=>match c.callee,(c.argTypes.toList.head?).map P.underlying with
   | .builtin .len,some (some (.slice _))| .builtin .len,some (some .string)=>true
   |_,_=>false
 |_=>false
def opAt (ops:List Oper) (i:Nat):Oper:=ops.getD i default
def befOf (acc:List Nat):List Edge->Nat
 |[]=>0
 |e::r=>bif Region.binds .any e then befOf acc r|||(1 <<< e.on)|||acc.getD e.on 0 else befOf acc r
def befL:List Nat->List Oper->List Nat
 |acc,[]=>acc
 |acc,o::r=>befL (acc++[befOf acc o.after.toList]) r
def effI (P:Program) (ops:List Oper):List Nat:=(List.range ops.length).filter (λi=>isEff P (opAt ops i))
def waitsFor (B:List Nat) (l:List Nat) (i:Nat):Bool:=l.any (λe=>(B.getD i 0).testBit e)
def stage0 (P:Program) (ops:List Oper):List Nat:=(List.range ops.length).filter (λi=>!isEff P (opAt ops i)&&!waitsFor (befL [] ops) (effI P ops) i)
def stageN (P:Program) (ops:List Oper) (rem:List Nat) (e:Nat):List Nat:=
 (List.range ops.length).filter (λi=>!isEff P (opAt ops i)&&((befL [] ops).getD i 0).testBit e&&!waitsFor (befL [] ops) (rem.filter (λx=>!Nat.beq x e)) i)
def readyE (ops:List Oper) (rem:List Nat):List Nat:=rem.filter (λe=>!waitsFor (befL [] ops) rem e)
def runQ (P:Program) (ops:List Oper) (w:World) (K:Fr->Prop):List Nat->Fr->Prop
 |[],fr=>K fr
 |i::r,fr=>guardK ops (opAt ops i) fr (λfr'=>opK P (ev fr') (opAt ops i) w (λv _=>runQ P ops w K r (putF fr' (opAt ops i).dst v))) (λfr'=>runQ P ops w K r (putF fr' (opAt ops i).dst undef))
def stillK (P:Program) (ops:List Oper) (w:World) (fr:Fr) (i:Nat):Prop:=
 guardK ops (opAt ops i) fr (λfr'=>opK P (ev fr') (opAt ops i) w (λv _=>v=(match(opAt ops i).dst with|some d=>get fr d|none=>v))) (λ_=>True)
def stills (P:Program) (ops:List Oper) (w:World) (fr:Fr) (X:Prop):List Nat->Prop
 |[]=>X
 |i::r=>stillK P ops w fr i/\stills P ops w fr X r
def stillN (P:Program) (ops:List Oper) (rem:List Nat) (e:Nat):List Nat:=
 (List.range ops.length).filter (λi=>!isEff P (opAt ops i)&&!isPure P (opAt ops i)&&!waitsFor (befL [] ops) rem i&& !((befL [] ops).getD e 0).testBit i)
def eachE (f:Nat->Prop):List Nat->Prop
 |[]=>False
 |[e]=>f e
 |e::r=>f e/\eachE f r
def runD (P:Program) (ops:List Oper) (K:Fr->World->Prop):Nat->List Nat->Fr->World->Prop
 |0,rem,fr,w=>match rem with
  |[]=>K fr w
  |_=>False
 |n+1,rem,fr,w=>match rem with
  |[]=>K fr w
  |rem=>eachE (λe=>guardK ops (opAt ops e) fr
   (λfr'=>opK P (ev fr') (opAt ops e) w (λv w'=>stills P ops w' fr' (runQ P ops w' (λfr''=>runD P ops K n (rem.filter (λx=>!Nat.beq x e)) fr'' w') (stageN P ops rem e) (putF fr' (opAt ops e).dst v)) (stillN P ops rem e)))
   (λfr'=>runQ P ops w (λfr''=>runD P ops K n (rem.filter (λx=>!Nat.beq x e)) fr'' w) (stageN P ops rem e) (putF fr' (opAt ops e).dst undef))) (readyE ops rem)
def looks (ops:List Oper) (o:Oper):List Nat:=
 (match o.guard with|some (j,_)=>(dstAt ops j).toList|none=>[])++(opnds o.op).filterMap (λ| .tmp t=>some t|_=>none)
def chained (B:List Nat):List Nat->Bool
 |e::e'::r=>(B.getD e' 0).testBit e&&chained B (e'::r)
 |_=>true
def uniqueD (ops:List Oper):List Oper->Bool
 |[]=>true
 |o::r=>(match o.dst with|none=>true|some d=>r.all (λo'=> !(o'.dst==some d)))&&uniqueD ops r
def mvOf (o:Oper):Option Tmp:=
 match o.guard,o.op with
 |none,.move (.tmp t)=>some t
 |_,_=>none
def drawOkB (ops:List Oper):Bool:=
 let B:=befL [] ops
 uniqueD ops ops&&
 (List.range ops.length).all (λi=>(looks ops (opAt ops i)).all (λt=>(List.range ops.length).all (λj=> !((opAt ops j).dst==some t)||(B.getD i 0).testBit j||((B.getD j 0).testBit i&&mvOf (opAt ops i)==some t))))&&
 (List.range ops.length).all (λi=>(opAt ops i).after.toList.all (λe=>!Region.binds .any e||Nat.blt e.on i))&&
 (List.range ops.length).all (λi=>(List.range i).all (λj=> !(B.getD i 0).testBit j||Nat.beq ((B.getD i 0)|||(B.getD j 0)) (B.getD i 0)))
def drawK:DrawT:=λP ops K fr w=>
 bif drawOkB ops then runQ P ops w.drew (λfr'=>runD P ops K (effI P ops).length (effI P ops) fr' w.drew) (stage0 P ops) fr else False
def paths (P:Program):Code->Nat
 | .region _ ops draw=>bif guardedOps ops.toList||(draw&&!chained (befL [] ops.toList) (effI P ops.toList))then 2 else 1
 | .seq a b=>bif Nat.beq (paths P a) 0 then 0 else paths P b
 | .cond _ x y=>paths P x+paths P y
 | .block id c=>bif Nat.beq (paths P c+exitsTo id c) 0 then 0 else 1
 | .scope c=>paths P c
 | .skip=>1
 | .label _=>1
 |_=>0
abbrev Blk:=Nat×Nat×(Fr->World->Prop)
def bk:List Blk->Nat->Fr->World->Prop
 |[],_=>λ_ _=>False
 |(i,_,k)::r,id=>bif Nat.beq i id then k else bk r id
def bls (B:List Blk):List (Nat×Nat):=B.map (λb=>(b.1,b.2.1))
def zipS:List Nat->List Value->Fr
 |t::ts,v::vs=>(t,v)::zipS ts vs
 |_,_=>[]
def joinK (P:Program) (N:Nat) (a:Code) (L:Nat) (rest:Fr->World->Prop) (body:(Fr->World->Prop)->Prop) (fr:Fr):Prop:=
 JoinP (shReps ((slotsOf N (dsts a&&& L)).map (shSlot P a)))
  (curryR (shReps ((slotsOf N (dsts a&&& L)).map (shSlot P a))) (λvs w=>rest (zipS (slotsOf N (dsts a&&& L)) (packS ((slotsOf N (dsts a&&& L)).map (shSlot P a)) vs)++fr) w))
  (λj=>body (λfr' w'=>appS ((slotsOf N (dsts a&&& L)).map (shSlot P a)) j ((slotsOf N (dsts a&&& L)).map (get fr')) w'))
def cw (P:Program) (D:DrawT) (N:Nat):Code->List Blk->Nat->(Fr->World->Prop)->Nat->(Fr->World->Prop)->Fr->World->Prop
 | .skip,_,_,_,_,k=>k
 | .label _,_,_,_,_,k=>k
 | .seq a b,B,rL,r,L,k=>bif Nat.ble 2 (paths P a)then
  λfr w=>joinK P N a (lv b (bls B) rL L) (cw P D N b B rL r L k) (λk'=>cw P D N a B rL r (lv b (bls B) rL L) k' fr w) fr
   else cw P D N a B rL r (lv b (bls B) rL L) (cw P D N b B rL r L k)
 | .cond c x y,B,rL,r,L,k=>λfr w=>pickK (ev fr c) (cw P D N x B rL r L k fr w) (cw P D N y B rL r L k fr w)
 | .block id c,B,rL,r,L,k=>bif Nat.ble 2 (paths P c+exitsTo id c)then
  λfr w=>joinK P N c L k (λk'=>cw P D N c ((id,L,k')::B) rL r L k' fr w) fr
   else cw P D N c ((id,L,k)::B) rL r L k
 | .loop c,B,rL,r,_,_=>λfr w=>
   bif Nat.beq (lv c (bls B) rL (lv c (bls B) rL 0)|||lv c (bls B) rL 0) (lv c (bls B) rL 0)then
    LoopP (shReps ((slotsOf N (dsts c&&& lv c (bls B) rL 0)).map (shSlot P c)))
     (λnext=>curryR (shReps ((slotsOf N (dsts c&&& lv c (bls B) rL 0)).map (shSlot P c))) (λvs w'=>cw P D N c B rL r (lv c (bls B) rL 0)
      (λfr' w''=>appS ((slotsOf N (dsts c&&& lv c (bls B) rL 0)).map (shSlot P c)) next ((slotsOf N (dsts c&&& lv c (bls B) rL 0)).map (get fr')) w'')
      (zipS (slotsOf N (dsts c&&& lv c (bls B) rL 0)) (packS ((slotsOf N (dsts c&&& lv c (bls B) rL 0)).map (shSlot P c)) vs)++fr) w'))
     (λs=>appS ((slotsOf N (dsts c&&& lv c (bls B) rL 0)).map (shSlot P c)) s ((slotsOf N (dsts c&&& lv c (bls B) rL 0)).map (get fr)) w)
   else False
 | .exit id,B,_,_,_,_=>bk B id
 | .ret,_,_,r,_,_=>r
 | .region _ ops draw,_,_,_,_,k=>bif draw then D P ops.toList k else opsK P ops.toList k ops.toList
 | .scope c,B,rL,r,L,k=>cw P D N c B rL r L k
 |_,_,_,_,_,_=>λ_ _=>False
def resVal:List Value->Value
 |[v]=>v
 |vs=>.tuple vs.toArray
def retVs (P:Program):List ResultVar->Fr->World->(List Value->Prop)->Prop
 |[],_,_,K=>K []
 | .tmp t::r,fr,w,K=>retVs P r fr w (λvs=>K (get fr t::vs))
 | .cell a ty::r,fr,w,K=>withAddr (get fr a) (λad=>ldK P ty ad w (λv _=>retVs P r fr w (λvs=>K (v::vs))))
def retL:List ResultVar->Nat
 |[]=>0
 | .tmp t::r=>addB (retL r) t
 | .cell a _::r=>addB (retL r) a
def fr0:Nat->List Value->Fr
 |_,[]=>[]
 |i,v::vs=>(i,v)::fr0 (i+1) vs
def wfOps (N:Nat):List Oper->Bool
 |[]=>true
 |o::r=>(match o.dst with|some d=>Nat.blt d N|none=>true)&&wfOps N r
def wfC (N:Nat):Code->Bool
 | .region _ ops _=>wfOps N ops.toList
 | .seq a b=>wfC N a&&wfC N b
 | .cond _ x y=>wfC N x&&wfC N y
 | .block _ c=>wfC N c
 | .loop c=>wfC N c
 | .scope c=>wfC N c
 |_=>true
def fnK (P:Program) (D:DrawT) (fn:Func) (args:Array Value) (w:World) (R:KV):Prop:=
 match fn.body with
 |some c=>cw P D fn.ntmps c [] (retL fn.results.toList) (λfr w=>retVs P fn.results.toList fr w (λvs=>R (resVal vs) w)) (retL fn.results.toList)
  (λfr w=>retVs P fn.results.toList fr w (λvs=>R (resVal vs) w)) (fr0 0 args.toList) w
 |none=>False
end Go.CW
