/- Runs in which nothing is unknown: a form that the kernel reckons faster; definitions. -/
import Derived.Test.YtghineciiljeoaaGreatDoorQExU
namespace Go.CW.Ex
noncomputable section
inductive Pth where
 | e
 | z (r : Pth)
 | o (r : Pth)
def pthOf : Nat → Nat → Pth
 | 0, _ => .e
 | _ + 1, 0 => .e
 | f + 1, n + 1 => bif Nat.beq (n % 2) 0 then .z (pthOf f (n / 2)) else .o (pthOf f (n / 2))
def oV : Option EV → EV := fun x => Option.rec (motive := fun _ => EV) EV.und (fun v => v) x
def getP (p : Pth) : FE → EV :=
 Pth.rec (motive := fun _ => FE → EV)
  (fun t => Tr.rec (motive := fun _ => EV) EV.und (fun v _ _ _ _ => oV v) t)
  (fun _ ih t => Tr.rec (motive := fun _ => EV) EV.und (fun _ l _ _ _ => ih l) t)
  (fun _ ih t => Tr.rec (motive := fun _ => EV) EV.und (fun _ _ r _ _ => ih r) t) p
def setP {R : Type} (p : Pth) (x : EV) : FE → (FE → R) → R :=
 Pth.rec (motive := fun _ => FE → (FE → R) → R)
  (fun t K => Tr.rec (motive := fun _ => R) (K (.nd (some x) .lf .lf)) (fun _ l r _ _ => K (.nd (some x) l r)) t)
  (fun _ ih t K => Tr.rec (motive := fun _ => R) (ih .lf fun l => K (.nd none l .lf)) (fun v l r _ _ => ih l fun l => K (.nd v l r)) t)
  (fun _ ih t K => Tr.rec (motive := fun _ => R) (ih .lf fun r => K (.nd none .lf r)) (fun v l r _ _ => ih r fun r => K (.nd v l r)) t) p
inductive COpd where
 | slot (p : Pth)
 | val (v : EV)
 | bad
def cOpd : Operand → COpd
 | .tmp t => bif Nat.blt t 1000000000 then .slot (pthOf deep t) else .bad
 | .const v => match dnV v with | some x => .val x | none => .bad
 | .global _ => .bad
 | .func f => .val (.fn f [] [])
def gv {R : Type} (c : COpd) (fe : FE) (K : EV → Option R) : Option R :=
 COpd.rec (motive := fun _ => Option R) (fun p => K (getP p fe)) (fun v => K v) none c
abbrev Res := Option (EV × H)
inductive COp where
 | mv (x : COpd)
 | fx (x : COpd) (f : EV → Option EV)
 | fxy (x y : COpd) (f : EV → EV → Option EV)
 | ld (x : COpd) (f : EV → H → Option EV)
 | gen (f : CallT → FE → H → Res)
inductive CD where
 | no
 | to (p : Pth)
 | bad
inductive CG where
 | no
 | on (p : Pth) (want : Bool)
 | bad
inductive CS where
 | mk (g : CG) (c : COp) (d : CD) (s : List Nat)
def int2 (f : IntKind → Int → Int → Option EV) (x y : EV) : Option EV := match x with
 | .int k a => match y with
   | .int k' b => bif kEq k k' then f k a b else none
   | _ => none
 | _ => none
inductive I2 where
 | mk (f : IntKind → Int → Int → Option EV)
 | no
def intF (op : BinOp) : I2 := match op with
 | .add => .mk fun k a b => some (.int k (wrapE k (a + b)))
 | .sub => .mk fun k a b => some (.int k (wrapE k (a - b)))
 | .mul => .mk fun k a b => some (.int k (wrapE k (a * b)))
 | .and => .mk fun k a b => some (.int k (landE k a b))
 | .or => .mk fun k a b => some (.int k (lorE k a b))
 | .xor => .mk fun k a b => some (.int k (lxorE k a b))
 | .eql => .mk fun _ a b => some (.bool (eqE a b))
 | .neq => .mk fun _ a b => some (.bool (!eqE a b))
 | .lss => .mk fun _ a b => some (.bool (ltE a b))
 | .leq => .mk fun _ a b => some (.bool (!ltE b a))
 | .gtr => .mk fun _ a b => some (.bool (ltE b a))
 | .geq => .mk fun _ a b => some (.bool (!ltE a b))
 | _ => .no
def cBin (P : Program) (op : BinOp) (t : TypeId) (cy : Bool) (x y : COpd) : COp := match nkOf P t with
 | .int => match intF op with
   | .mk f => .fxy x y (int2 f)
   | .no => .fxy x y (fun a b => binE P op t a b cy)
 | _ => .fxy x y (fun a b => binE P op t a b cy)
def gvL {R : Type} (fe : FE) : List Operand → (List EV → Option R) → Option R
 | [], K => K []
 | x :: r, K => gv (cOpd x) fe fun v => gvL fe r fun vs => K (v :: vs)
inductive LdK where
 | agg (n : Nat) (rs : List Rep)
 | one (r : Rep)
 | no
def ldC (P : Program) (t : TypeId) : LdK := match P.underlying t with
 | none => .no
 | some _ => match aggB P t with
   | true => match szOf P t with
     | some n => match shapeOf P t with
       | .agg rs => .agg n rs
       | .one _ => .no
     | none => .no
   | false => .one (repOf P t)
def cellE : Nat → List EV → Option EV
 | _, [] => none
 | 0, v :: _ => some v
 | n + 1, _ :: r => cellE n r
def ldF (P : Program) (t : TypeId) (x : EV) (h : H) : Option EV := match x with
 | .ptr b o => match h.cells b with
   | some cs => match ldC P t with
     | .one r => match cellE o cs with
       | some v => bif repE r v then some v else none
       | none => none
     | .agg n rs => match partE o n cs with
       | some vs => bif repsE rs vs then some (.agg vs) else none
       | none => none
     | .no => none
   | none => none
 | _ => none
inductive FaK where | mk (n : Nat) | no
def faC (P : Program) (t : TypeId) (f : Nat) : FaK := match fieldOff P t f with | some n => .mk n | none => .no
def faF (P : Program) (t : TypeId) (f : Nat) (x : EV) : Option EV := match x with
 | .ptr b o => match faC P t f with | .mk n => some (.ptr b (o + n)) | .no => none
 | _ => none
def cOp (P : Program) (o : Oper) : COp := match o.op with
 | .move x => .mv (cOpd x)
 | .assign x => .mv (cOpd x)
 | .binOp op t x y _ => cBin P op t (isConstO y) (cOpd x) (cOpd y)
 | .unOp op _ x => .fx (cOpd x) (unE op)
 | .load t a => .ld (cOpd a) (ldF P t)
 | .nilCheck x => .fx (cOpd x) (fun v => match v with
   | .ptr b o => some (.ptr b o)
   | .fn f a c => some (.fn f a c)
   | _ => none)
 | .fieldAddr t x f => .fx (cOpd x) (faF P t f)
 | .indexAddr t x i => .fxy (cOpd x) (cOpd i) (iaE P t)
 | .index t x i => .fxy (cOpd x) (cOpd i) (ixE P t)
 | .field t x f => .fx (cOpd x) (fun v => fldE P t v f)
 | .store t a x => .gen fun _ fe h => gv (cOpd a) fe fun a' => match a' with
   | .ptr b q => gv (cOpd x) fe fun v => unH (stE P t h b q v)
   | _ => none
 | .extract x i => .fx (cOpd x) (fun v => match v with | .tup vs => nthE vs i | _ => none)
 | .call c => match c.callee with
   | .value (.func f) => .gen fun call fe h => gvL fe c.args.toList fun vs => bif hasBody P f then (match call f vs h with
    | some (v, h') => bif resE v (resShapes P f) then some (v, h') else none
    | none => none) else none
   | .builtin b => .gen fun _ fe h => gvL fe c.args.toList fun vs => match bltE P b c.argTypes.toList vs h with
    | some (v, h') => bif repE (repOf P o.type) v then some (v, h') else none
    | none => none
   | _ => .gen fun call fe h => opE P call none fe o h
 | _ => .gen fun call fe h => opE P call none fe o h
def cDst : Option Tmp → CD
 | some t => bif Nat.blt t 1000000000 then .to (pthOf deep t) else .bad
 | none => .no
def cGuard (ops : List Oper) (o : Oper) : CG := match o.guard with
 | none => .no
 | some (j, want) => match dstAt ops j with
   | some d => bif Nat.blt d 1000000000 then .on (pthOf deep d) want else .bad
   | none => .bad
def rG {R : Type} (g : CG) (fe : FE) (yes no : Option R) : Option R :=
 CG.rec (motive := fun _ => Option R) yes (fun p want => match getP p fe with
  | .bool t => bif (bif want then t else !t) then yes else no
  | _ => no) none g
def rO {R : Type} (c : COp) (call : CallT) (fe : FE) (h : H) (K : EV → H → Option R) : Option R :=
 COp.rec (motive := fun _ => Option R)
  (fun x => gv x fe fun v => K v h)
  (fun x f => gv x fe fun v => match f v with | some u => K u h | none => none)
  (fun x y f => gv x fe fun v => gv y fe fun u => match f v u with | some z => K z h | none => none)
  (fun x f => gv x fe fun v => match f v h with | some u => K u h | none => none)
  (fun f => match f call fe h with | some (v, h') => K v h' | none => none) c
def rD {R : Type} (d : CD) (v : EV) (fe : FE) (K : FE → Option R) : Option R :=
 CD.rec (motive := fun _ => Option R) (K fe) (fun p => setP p v fe K) none d
inductive CL where
 | nil
 | cons (s : CS) (r : CL)
 | bad
def cOps (P : Program) (ops : List Oper) (l : List Oper) : CL :=
 List.rec (motive := fun _ => CL) .nil (fun o _ ih => .cons (.mk (cGuard ops o) (cOp P o) (cDst o.dst) []) ih) l
def rS {R : Type} (P : Program) (ops : List Oper) (call : CallT) (s : CS) (fe : FE) (h : H) (K : FE → H → Option R) : Option R :=
 CS.rec (motive := fun _ => Option R) (fun g c d l => rG g fe
  (rO c call fe h fun v h' => match l with
   | [] => rD d v fe fun fe' => K fe' h'
   | l => bif stillsE P call ops h' fe l then rD d v fe (fun fe' => K fe' h') else none)
  (rD d .und fe fun fe' => K fe' h)) s
def rL (P : Program) (ops : List Oper) (call : CallT) (c : CL) : FE → H → Option (FE × H) :=
 CL.rec (motive := fun _ => FE → H → Option (FE × H)) (fun fe h => some (fe, h)) (fun s _ ih fe h => rS P ops call s fe h ih) (fun _ _ => none) c
def catC (a b : CL) : CL := CL.rec (motive := fun _ => CL) b (fun s _ ih => .cons s ih) .bad a
def cQ (P : Program) (ops : List Oper) (l : List Nat) : CL :=
 List.rec (motive := fun _ => CL) .nil (fun i _ ih => .cons (.mk (cGuard ops (opAt ops i)) (cOp P (opAt ops i)) (cDst (opAt ops i).dst) []) ih) l
def cDE (P : Program) (ops : List Oper) : Nat → List Nat → CL
 | 0, rem => match rem with | [] => .nil | _ => .bad
 | n + 1, rem => match rem with
   | [] => .nil
   | _ :: _ => match readyE ops rem with
     | [e] => .cons (.mk (cGuard ops (opAt ops e)) (cOp P (opAt ops e)) (cDst (opAt ops e).dst) (stillN P ops rem e))
      (catC (cQ P ops (stageN P ops rem e)) (cDE P ops n (rem.filter (fun x => !Nat.beq x e))))
     | _ => .bad
def cDraw (P : Program) (ops : List Oper) : CL := bif drawOkB ops && chained (befL [] ops) (effI P ops) then catC (cQ P ops (stage0 P ops)) (cDE P ops (effI P ops).length (effI P ops)) else .bad
inductive CC where
 | skip
 | seq (a b : CC)
 | cond (c : COpd) (x y : CC)
 | block (id : Nat) (c : CC)
 | exit (id : Nat)
 | ret
 | list (ops : List Oper) (l : CL)
 | draw (ops : List Oper)
 | loop (c : CC)
 | bad
def isBad (c : CL) : Bool := CL.rec (motive := fun _ => Bool) false (fun _ _ ih => ih) true c
def cC (P : Program) (c : Code) : CC :=
 Code.rec (motive := fun _ => CC) .skip
  (fun _ ops draw => bif draw then (bif isBad (cDraw P ops.toList) then .draw ops.toList else .list ops.toList (cDraw P ops.toList)) else .list ops.toList (cOps P ops.toList ops.toList))
  (fun _ _ a b => .seq a b) (fun c _ _ x y => .cond (cOpd c) x y) (fun id _ c => .block id c) (fun _ c => .loop c) (fun _ _ _ _ _ _ => .bad) (fun id => .exit id) (fun _ c => c) (fun _ => .skip) (fun _ => .bad) .ret (fun _ => .bad) c
inductive Out where
 | nrm (fe : FE) (h : H)
 | ext (id : Nat) (fe : FE) (h : H)
 | ret (fe : FE) (h : H)
 | no
def iterF (n : Nat) (body : FE → H → Out) : FE → H → Out :=
 Nat.rec (motive := fun _ => FE → H → Out) (fun _ _ => .no)
  (fun _ ih fe h => Out.rec (motive := fun _ => Out) ih (fun i fe h => .ext i fe h) (fun fe h => .ret fe h) .no (body fe h)) n
def exF (P : Program) (call : CallT) (LF : Nat) (c : CC) : FE → H → Out :=
 CC.rec (motive := fun _ => FE → H → Out)
  (fun fe h => .nrm fe h)
  (fun _ _ a b fe h => Out.rec (motive := fun _ => Out) b (fun i fe h => .ext i fe h) (fun fe h => .ret fe h) .no (a fe h))
  (fun c _ _ x y fe h => match gv c fe some with
   | some (.bool true) => x fe h
   | some (.bool false) => y fe h
   | _ => .no)
  (fun id _ c fe h => Out.rec (motive := fun _ => Out) (fun fe h => .nrm fe h) (fun i fe h => bif Nat.beq i id then .nrm fe h else .ext i fe h) (fun fe h => .ret fe h) .no (c fe h))
  (fun id fe h => .ext id fe h)
  (fun fe h => .ret fe h)
  (fun ops l fe h => match rL P ops call l fe h with | some (fe', h') => .nrm fe' h' | none => .no)
  (fun ops fe h => match drawE P call ops fe h with | some (fe', h') => .nrm fe' h' | none => .no)
  (fun _ c fe h => iterF LF c fe h)
  (fun _ _ => .no) c
inductive CF where
 | mk (n : Nat) (c : CC) (rs : List ResultVar)
 | sum (s : List EV → H → Res)
 | no
def cF (P : Program) (sums : Sums) (f : FuncId) : CF := match sums f with
 | some s => .sum s
 | none => match P.funcs[f]? with
   | some fn => match fn.body with
     | some c => bif wfC fn.ntmps c && Nat.ble fn.ntmps 100000 then .mk fn.ntmps (cC P c) fn.results.toList else .no
     | none => .no
   | none => .no
def finF (P : Program) (rs : List ResultVar) (fe : FE) (h : H) : Res := match retE P h fe rs with | some vs => some (resValE vs, h) | none => none
def callF (P : Program) (sums : Sums) (LF : Nat) (n : Nat) : CallT :=
 Nat.rec (motive := fun _ => CallT) (fun _ _ _ => none)
  (fun _ ih f args h => match cF P sums f with
   | .sum s => s args h
   | .mk k c rs => bif Nat.ble (lenE args 0) k && hasBody P f then Out.rec (motive := fun _ => Res) (fun fe h => finF P rs fe h) (fun _ _ _ => none) (fun fe h => finF P rs fe h) none (exF P ih LF c (frame0 0 args .lf) h) else none
   | .no => none) n
end
end Go.CW.Ex
