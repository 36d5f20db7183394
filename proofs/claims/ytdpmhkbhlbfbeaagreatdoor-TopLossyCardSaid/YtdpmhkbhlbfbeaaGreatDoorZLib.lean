/- A part of the proof. -/
import Derived.Test.YtdpmhkbhlbfbeaaGreatDoorZCwG
import Derived.Below
import Derived.Laws.AppendOwn
import Derived.Laws.OwnMore
import Derived.Maps.AppendAt
import Derived.Laws.BytesString
import Derived.Laws.BitsLemmas
import Derived.Laws.Bits64
import Derived.Laws.Cells
namespace Go.CW
open Go.RowKit
theorem JoinP.bool {rest:Bool->World->Prop} {body:(Bool->World->Prop)->Prop} (Q:Bool->World->Prop) (hb:∀j:Bool->World->Prop,(∀b w,Q b w->j b w)->body j) (h:∀b w,Q b w->rest b w):JoinP [.bool] rest body:=hb rest h
theorem JoinP.int {k:IntKind} {rest:Int->World->Prop} {body:(Int->World->Prop)->Prop} (Q:Int->World->Prop) (hb:∀j:Int->World->Prop,(∀b w,Q b w->j b w)->body j) (h:∀b w,Q b w->rest b w):JoinP [.int k] rest body:=hb rest h
theorem JoinP.val {rest:Value->World->Prop} {body:(Value->World->Prop)->Prop} (Q:Value->World->Prop) (hb:∀j:Value->World->Prop,(∀b w,Q b w->j b w)->body j) (h:∀b w,Q b w->rest b w):JoinP [.val] rest body:=hb rest h
theorem JoinP.unit {rest:World->Prop} {body:(World->Prop)->Prop} (Q:World->Prop) (hb:∀j:World->Prop,(∀w,Q w->j w)->body j) (h:∀w,Q w->rest w):JoinP [] rest body:=hb rest h
theorem cond_intro {b:Bool} {A B:Prop} (h1:b=true->A) (h2:b=false->B):cond b A B:=by cases b<;>simp_all
theorem cond_t {b:Bool} {A B:Prop} (h:b=true) (h1:A):cond b A B:=by subst h;exact h1
theorem cond_f {b:Bool} {A B:Prop} (h:b=false) (h1:B):cond b A B:=by subst h;exact h1
theorem leK_intro {n:Int} {A:Prop} (h:0<=n) (a:A):leK n A:=by cases n with|ofNat _=>exact a|negSucc _=>omega
theorem nzK_intro {n:Int} {A:Prop} (h:n≠0) (a:A):nzK n A:=by
 cases n with
 |ofNat k=>cases k with|zero=>exact absurd rfl h|succ _=>exact a
 |negSucc _=>exact a
theorem w8 (n:Int):IntKind.wrap .u8 n=n % 256:=IntKind.wrap_u8 n
theorem w32 (n:Int):IntKind.wrap .u32 n=n % 4294967296:=IntKind.wrap_u32 n
theorem w64 (n:Int):IntKind.wrap .u64 n=n % 18446744073709551616:=IntKind.wrap_u64 n
theorem wi32 (n:Int):IntKind.wrap .i32 n=(n+2147483648) % 4294967296 - 2147483648:=IntKind.wrap_i32 n
theorem wi64 (n:Int):IntKind.wrap .i64 n=(n+9223372036854775808) % 18446744073709551616 - 9223372036854775808:=IntKind.wrap_i64 n
theorem wi64_id {n:Int} (h0: -9223372036854775808<=n) (h1:n < 9223372036854775808):IntKind.wrap .i64 n=n:=by rw[wi64];omega
theorem w64_id {n:Int} (h0:0<=n) (h1:n < 18446744073709551616):IntKind.wrap .u64 n=n:=by rw[w64];omega
theorem w32_id {n:Int} (h0:0<=n) (h1:n < 4294967296):IntKind.wrap .u32 n=n:=by rw[w32];omega
theorem w8_id {n:Int} (h0:0<=n) (h1:n < 256):IntKind.wrap .u8 n=n:=by rw[w8];omega
def Fits (k:IntKind) (n:Int):Prop:=k.min<=n/\n<=k.max
instance (k:IntKind) (n:Int):Decidable (Fits k n):=inferInstanceAs (Decidable (_/\_))
theorem Fits.u8 {n:Int} (h:Fits .u8 n):0<=n/\n < 256:=by
 obtain⟨a,b⟩:=h;simp [IntKind.min,IntKind.max,IntKind.bits,IntKind.signed]at a b;omega
theorem Fits.u32 {n:Int} (h:Fits .u32 n):0<=n/\n < 4294967296:=by
 obtain⟨a,b⟩:=h;simp [IntKind.min,IntKind.max,IntKind.bits,IntKind.signed]at a b;omega
theorem Fits.i64 {n:Int} (h:Fits .i64 n): -9223372036854775808<=n/\n < 9223372036854775808:=by
 obtain⟨a,b⟩:=h;simp [IntKind.min,IntKind.max,IntKind.bits,IntKind.signed]at a b;omega
theorem Fits.of_wf {k:IntKind} {n:Int} (h:(Lit.int k n).wf=true):Fits k n:=by
 simpa[Lit.wf,Fits]using h
abbrev Grow (w w':World):Prop:=Below w.heap.size w w'
theorem Grow.refl (w:World):Grow w w:=Below.refl _ _
theorem Grow.then {a b c:World} (h:Grow a b) (k:Grow b c):Grow a c:=h.trans (k.mono h.size)
theorem Grow.al {a w:World} (h:Grow a w) (o:Obj):Grow a (w.alloc o):=Below.alloc h h.size o
theorem Grow.dr {a w:World} (h:Grow a w):Grow a w.drew:=Below.drew h
theorem add_add (a:Addr) (l j:Nat):(a.add l).add j=a.add (l+j):=by
 unfold Addr.add
 by_cases hl:l=0
 ·subst hl;simp
 ·by_cases hj:j=0
  ·subst hj;simp [hl]
  ·simp [hl,hj,Nat.add_assoc]
theorem add_zero (a:Addr):a.add 0=a:=by simp [Addr.add]
theorem add_block (a:Addr) (j:Nat):(a.add j).block=a.block:=by unfold Addr.add;split<;>rfl
def Rd (w:World) (v:Value) (xs:List Value):Prop:=
 ∃a cap,v= .slice a xs.length cap/\xs.length<=cap/\cap<=maxLen/\(a=none->cap=0)/\∀j u,xs[j]? =some u->∃x,a=some x/\w.cell? (x.add j)=some u
theorem Rd.nil (w:World):Rd w (.slice none 0 0) []:=⟨none,0,rfl,Nat.le_refl _,by simp [maxLen],λ_=>rfl,by simp⟩
theorem Rd.len {w:World} {v:Value} {xs:List Value} (h:Rd w v xs):sliceLen v=some xs.length:=by
 obtain⟨a,cap,rfl,_⟩:=h;rfl
theorem Rd.le {w:World} {v:Value} {xs:List Value} (h:Rd w v xs):xs.length<=9223372036854775807:=by
 obtain⟨a,cap,rfl,h1,h2,_⟩:=h;simp only[maxLen]at h2;omega
theorem Rd.kept {w w':World} {v:Value} {xs:List Value} (h:Rd w v xs) (hk:∀a u,w.cell? a=some u->v.ownBlock=some a.block->w'.cell? a=some u):Rd w' v xs:=by
 obtain⟨a,cap,rfl,h1,h2,h3,h4⟩:=h
 refine⟨a,cap,rfl,h1,h2,h3,λj u hj=>?_⟩
 obtain⟨x,rfl,hx⟩:=h4 j u hj
 exact⟨x,rfl,hk _ _ hx (by simp [Value.ownBlock,add_block])⟩
theorem Rd.grow {w w':World} {v:Value} {xs:List Value} (h:Rd w v xs) (g:Grow w w'):Rd w' v xs:=
 h.kept λa _ ha _=>(g.cell (World.block_lt_of_cell? w a ha)).trans ha
theorem Rd.at {w:World} {v:Value} {xs:List Value} (h:Rd w v xs) {i:Int} {u:Value} (h0:0<=i) (hu:xs[i.toNat]? =some u):∃a,sliceAt v i 1=some a/\w.cell? a=some u:=by
 obtain⟨a,cap,rfl,h1,h2,h3,h4⟩:=h
 obtain⟨x,rfl,hx⟩:=h4 _ _ hu
 have hlt:=(List.getElem?_eq_some_iff.1 hu).1
 refine⟨x.add (i.toNat*1),?_,by simpa using hx⟩
 simp only[sliceAt]
 rw[if_pos (by omega)]
theorem Rd.isNil {w:World} {v:Value} {xs:List Value} (h:Rd w v xs):∃b,isNilS v=some b/\(b=true->xs=[]/\v= .slice none 0 0):=by
 obtain⟨a,cap,rfl,h1,h2,h3,h4⟩:=h
 refine⟨a.isNone,rfl,λhb=>?_⟩
 cases a with
 |some a=>simp at hb
 |none=>
  have hc:=h3 rfl
  have hx:xs=[]:=List.eq_nil_of_length_eq_zero (by omega)
  subst hx;subst hc
  exact⟨rfl,rfl⟩
theorem bounds_ii {k k':IntKind} {a b:Int} {len cap:Nat} (h0:0<=a) (h1:a<=b) (h2:b<=cap):boundsOf len cap (some (.int k a)) (some (.int k' b)) none=some (a.toNat,b.toNat,cap):=by
 have h3:(0:Int)<=b:=by omega
 have h4:a<=max b 0:=by omega
 simp [boundsOf,boundOf,h0,h2,h3,h4]
theorem bounds_in {k:IntKind} {a:Int} {len cap:Nat} (h0:0<=a) (h1:a<=len):boundsOf len cap (some (.int k a)) none none=some (a.toNat,len,cap):=by
 simp [boundsOf,boundOf,h0,h1]
theorem bounds_ni {k:IntKind} {b:Int} {len cap:Nat} (h0:0<=b) (h1:b<=cap):boundsOf len cap none (some (.int k b)) none=some (0,b.toNat,cap):=by
 simp [boundsOf,boundOf,h0,h1]
theorem Rd.sub {w:World} {v:Value} {xs:List Value} (h:Rd w v xs) {lo hi:Option Value} {l r:Nat}
 (hb:∀cap,xs.length<=cap->boundsOf xs.length cap lo hi none=some (l,r,cap)) (hlr:l<=r) (hrx:r<=xs.length):
 ∃v',subSlice v 1 lo hi none=some v'/\Rd w v' ((xs.drop l).take (r - l))/\(v'.ownBlock=v.ownBlock):=by
 obtain⟨a,cap,rfl,h1,h2,h3,h4⟩:=h
 have hb:=hb cap h1
 have hlen:((xs.drop l).take (r - l)).length=r - l:=by simp;omega
 refine⟨.slice (if cap=l then a else a.map (·.add (l*1))) (r - l) (cap - l),by simp only[subSlice,hb],⟨if cap=l then a else a.map (·.add (l*1)),cap - l,by rw[hlen],by rw[hlen];omega,by omega,?_,?_⟩,?_⟩
 ·intro hn
  by_cases hc:cap=l
  ·omega
  ·rw[if_neg hc]at hn
   have:=h3 (by simpa using hn)
   omega
 ·intro j u hj
  rw[List.getElem?_take]at hj
  split at hj
  ·rw[List.getElem?_drop]at hj
   obtain⟨x,rfl,hx⟩:=h4 _ _ hj
   have:cap≠l:=by omega
   refine⟨x.add (l*1),by simp [this],?_⟩
   rw[add_add,Nat.mul_one];exact hx
  ·cases hj
 ·by_cases hc:cap=l
  ·rw[if_pos hc];cases a<;>rfl
  ·rw[if_neg hc]
   cases a with
   |none=>rfl
   |some a=>simp [Value.ownBlock,add_block]
abbrev Own (w:World) (B:Nat) (e:TypeId) (v:Value) (xs:List Value):Prop:=w.ownsRow B e 1 v xs.length xs
theorem Own.rd {w:World} {B:Nat} {e:TypeId} {v:Value} {xs:List Value} (h:Own w B e v xs):Rd w v xs:=by
 rcases h.2 with ⟨rfl,hn⟩|⟨g,cap,cur,rfl,hb,hg,hn,hm,hs,ht⟩
 ·obtain rfl:xs=[]:=List.eq_nil_of_length_eq_zero hn
  exact Rd.nil w
 ·refine⟨some ⟨g,0,none⟩,cap,rfl,hn,hm,λhh=>(by cases hh),λj u hj=>⟨_,rfl,?_⟩⟩
  have h0:=World.ownsRow.cells h (g:=g) rfl j u hj
  exact h0
theorem Own.mono {w:World} {B B':Nat} {e:TypeId} {v:Value} {xs:List Value} (h:Own w B e v xs) (hB:B'<=B):Own w B' e v xs:=by
 refine⟨h.1,?_⟩
 rcases h.2 with hn|⟨g,cap,cur,hv,hb,r⟩
 ·exact .inl hn
 ·exact .inr ⟨g,cap,cur,hv,Nat.le_trans hB hb,r⟩
theorem Own.grow {w w':World} {B:Nat} {e:TypeId} {v:Value} {xs:List Value} (h:Own w B e v xs) (g:Grow w w'):Own w' B e v xs:=by
 refine⟨h.1,?_⟩
 rcases h.2 with hn|⟨b,cap,cur,hv,hb,hg,r⟩
 ·exact .inl hn
 ·exact .inr ⟨b,cap,cur,hv,hb,(g.block b (Array.getElem?_eq_some_iff.1 hg).1).trans hg,r⟩
theorem Own.nil (w:World) (B:Nat) (e:TypeId):Own w B e (.slice none 0 0) []:=World.ownsRow_nil w B e 1
theorem Own.lit (w:World) {B:Nat} (hB:B<=w.heap.size) (e:TypeId) (cs:Array Value) (n:Nat) (hn:cs.size=n) (hm:n<=maxLen):
 Own (w.alloc (.cells cs e)) B e (.slice (some ⟨w.heap.size,0,none⟩) n n) cs.toList:=by
 have:=World.ownsRow_lit (base:=B) (e:=e) (size:=1) w cs n hB hm (by omega)
 rw[←hn]at this ⊢
 simpa[Own]using this
structure SlTy (P:Program) (t e:TypeId) (b:Nat):Prop where
 und:P.underlying t=some (.slice e)
 info:∃i z,P.info? e=some i/\i.zero=some z/\i.size=1/\i.bytes=b/\z.cells.size=1
structure OwnNext (w0:World) (v0:Value) (w:World) (v:Value):Prop where
 by_:w0.grownBy w v0.ownBlock
 at_:v.ownBlock=v0.ownBlock\/∀g,v.ownBlock=some g->w0.heap.size<=g
theorem grownBy_refl (w:World) (r:Option Nat):w.grownBy w r:=⟨rfl,rfl,rfl,Nat.le_refl _,λ_ _ _=>rfl⟩
theorem Grow.by_ {w w':World} (g:Grow w w') (r:Option Nat):w.grownBy w' r:=⟨g.os,g.tape,g.output,g.size,λk hk _=>g.block k hk⟩
theorem OwnNext.refl (w:World) (v:Value):OwnNext w v w v:=⟨grownBy_refl _ _,.inl rfl⟩
theorem OwnNext.behind {w0 w1 w2:World} {v v':Value} (g:Grow w0 w1) (n:OwnNext w1 v w2 v'):OwnNext w0 v w2 v':=by
 refine⟨⟨n.by_.os.trans g.os,n.by_.tape.trans g.tape,n.by_.output.trans g.output,Nat.le_trans g.size n.by_.size,λk hk hne=>?_⟩,?_⟩
 ·exact(n.by_.block k (Nat.lt_of_lt_of_le hk g.size) hne).trans (g.block k hk)
 ·exact n.at_.imp id λh k hk=>Nat.le_trans g.size (h k hk)
theorem OwnNext.below {B:Nat} {w0 w:World} {v0 v:Value} (n:OwnNext w0 v0 w v) (hB:B<=w0.heap.size) (h:∀k,v0.ownBlock=some k->B<=k):Below B w0 w:=(Below.refl B w0).grown n.by_ hB h
def slTyB (P:Program) (t e:TypeId) (b:Nat):Bool:=
 match P.underlying t,P.info? e with
 |some (.slice e'),some i=>match i.zero with
  |some z=>Nat.beq e' e&&Nat.beq i.size 1&&Nat.beq i.bytes b&&Nat.beq z.cells.size 1
  |none=>false
 |_,_=>false
theorem SlTy.of {P:Program} {t e:TypeId} {b:Nat} (h:slTyB P t e b=true):SlTy P t e b:=by
 unfold slTyB at h
 split at h
 ·next e' i h1 h2=>
  split at h
  ·next z h3=>
   simp only[Bool.and_eq_true,Nat.beq_eq]at h
   obtain⟨⟨⟨rfl,k1⟩,k2⟩,k3⟩:=h
   exact⟨h1,i,z,h2,h3,k1,k2,k3⟩
  ·cases h
 ·cases h
theorem app_own {P:Program} {t e:TypeId} {b:Nat} (T:SlTy P t e b) {w:World} {B:Nat} {v src:Value} {xs news:List Value} (ho:Own w B e v xs) (hr:Rd w src news)
 (h1:∀u∈news,u.oneCell'=true) (hb:(xs.length+news.length)*(b+1)<=140737488355328) (hB:B<=w.heap.size):
 ∃v' w',Sem.run P (Builtin.append_ #[t,t] t #[v,src]) w= .ok v' w'/\Own w' B e v' (xs++news)/\OwnNext w v w' v':=by
 obtain⟨i,z,hi,hz,hs,hby,hzs⟩:=T.info
 have hb':xs.length+news.length<=140737488355328:=Nat.le_trans (Nat.le_mul_of_pos_right _ (by omega)) hb
 have hb2:(xs.length+news.length)*b<=140737488355328:=Nat.le_trans (Nat.mul_le_mul_left _ (by omega)) hb
 obtain⟨a,cap,rfl,k1,k2,k3,k4⟩:=hr
 cases a with
 |none=>
  have hc:=k3 rfl
  obtain rfl:news=[]:=List.eq_nil_of_length_eq_zero (by omega)
  subst hc
  refine⟨v,w,run_append_owned_none w B t t e i 1 T.und hi v _ xs ho,?_,OwnNext.refl _ _⟩
  simpa[Own]using ho
 |some a=>
  obtain⟨v',w',hr,ho',hg,_,hat⟩:=run_append_own_at (P:=P) w B t t e i z 1 b T.und hi hz hs hby hzs (by omega) v xs.length xs ho a news.length cap news (by omega)
   (λj u hj=>by obtain⟨x,hx,hc⟩:=k4 j u hj;cases hx;exact hc) h1 (by simp only[maxLen];omega) hb2 hB
  refine⟨v',w',hr,?_,hg,hat.imp id λh g hg=>by rw[h]at hg;cases hg;exact Nat.le_refl _⟩
  simpa[Own,List.length_append]using ho'
def NewV (w:World) (v:Value):Prop:=∀g,v.ownBlock=some g->w.heap.size<=g
theorem NewV.of {w w':World} {v:Value} (h:NewV w' v) (g:w.heap.size<=w'.heap.size):NewV w v:=λk hk=>Nat.le_trans g (h k hk)
theorem grownBy.below {w w':World} {row:Option Nat} {B:Nat} (g:w.grownBy w' row) (hB:B<=w.heap.size) (hr:∀k,row=some k->B<=k):Below B w w':=(Below.refl B w).grown g hB hr
theorem Own.blk {w:World} {B:Nat} {e:TypeId} {v:Value} {xs:List Value} (h:Own w B e v xs):∀k,v.ownBlock=some k->B<=k:=λk hk=>(World.ownsRow.lt h k hk).1
theorem madeCells_one (u:Value) (n:Nat):(madeCells #[u] n).toList=List.replicate n u:=by
 apply List.ext_getElem
 ·simp [size_madeCells]
 ·intro i h1 h2
  simp [madeCells,Nat.mod_one]
theorem make_own {P:Program} {t e:TypeId} {b:Nat} (T:SlTy P t e b) {u:Value} (hu:(P.info? e).bind (·.zero)=some u) (hc:u.cells= #[u]) {w:World} (n:Nat) (hn:n*(b+1)<=140737488355328):
 ∃v' w',Sem.run P (Instr.makeSlice t (.int .i64 (n:Int)) (.int .i64 (n:Int))) w= .ok v' w'/\Own w' w.heap.size e v' (List.replicate n u)/\Grow w w':=by
 obtain⟨i,z,hi,hz,hs,hby,hzs⟩:=T.info
 have hn':n<=140737488355328:=Nat.le_trans (Nat.le_mul_of_pos_right _ (by omega)) hn
 have hn2:n*b<=140737488355328:=Nat.le_trans (Nat.mul_le_mul_left _ (by omega)) hn
 rw[hi]at hu
 simp only[Option.bind_some,hz,Option.some.injEq]at hu
 subst hu
 obtain⟨w',h1,h2,h3⟩:=run_make_full (P:=P) w w.heap.size t e i z 1 T.und hi hz hs .i64 .i64 n (by rw[hby,Nat.mul_comm];omega) (by simp only[maxLen];omega) (Nat.le_refl _)
 rw[hc,Nat.mul_one,madeCells_one]at h2
 refine⟨_,w',h1,?_,grownBy.below h3 (Nat.le_refl _) (λk hk=>by cases hk)⟩
 simpa[Own]using h2
def BK (w:World) (b:Nat) (cs:Array Value) (e:TypeId):Prop:=w.heap[b]? =some (.cells cs e (0,0))
theorem ad0 (b j:Nat):Addr.add ⟨b,0,none⟩ j=⟨b,j,none⟩:=by
 unfold Addr.add
 split
 ·next h=>subst h;rfl
 ·simp
theorem al_size (w:World) (o:Obj):(w.alloc o).heap.size=w.heap.size+1:=by simp
theorem BK.lt {w:World} {b:Nat} {cs:Array Value} {e:TypeId} (h:BK w b cs e):b < w.heap.size:=(Array.getElem?_eq_some_iff.1 h).1
theorem BK.new (w:World) (cs:Array Value) (e:TypeId):BK (w.alloc (.cells cs e)) w.heap.size cs e:=by
 show(w.heap.push (Obj.cells cs e))[w.heap.size]? =_
 simp
theorem BK.grow {w w':World} {b:Nat} {cs:Array Value} {e:TypeId} (h:BK w b cs e) (g:Grow w w'):BK w' b cs e:=(g.block b h.lt).trans h
theorem BK.al {w:World} {b:Nat} {cs:Array Value} {e:TypeId} (h:BK w b cs e) (o:Obj):BK (w.alloc o) b cs e:=h.grow (Grow.al (Grow.refl w) o)
theorem BK.dr {w:World} {b:Nat} {cs:Array Value} {e:TypeId} (h:BK w b cs e):BK w.drew b cs e:=h.grow (Grow.dr (Grow.refl w))
theorem BK.at {w:World} {b:Nat} {cs:Array Value} {e:TypeId} (h:BK w b cs e) (j:Nat):w.cell? ⟨b,j,none⟩=cs[j]? :=by
 have h':w.heap[b]? =some (.cells cs e (0,0)):=h
 simp [World.cell?,h']
theorem BK.cell {w:World} {b:Nat} {cs:Array Value} {e:TypeId} (h:BK w b cs e) (j:Nat):w.cell? (Addr.add ⟨b,0,none⟩ j)=cs[j]? :=by rw[ad0];exact h.at j
theorem BK.thaw {w:World} {b:Nat} {cs:Array Value} {e:TypeId} (h:BK w b cs e) (j:Nat):w.frozen? ⟨b,j,none⟩=false:=by
 have h':w.heap[b]? =some (.cells cs e (0,0)):=h
 simp [World.frozen?,h']
theorem BK.st1 {w:World} {b:Nat} {cs:Array Value} {e:TypeId} (h:BK w b cs e) {j:Nat} (hj:j < cs.size):St1 w ⟨b,j,none⟩:=
 ⟨⟨cs[j],by rw[h.at j,Array.getElem?_eq_getElem hj]⟩,h.thaw j⟩
theorem BK.set {w:World} {b:Nat} {cs:Array Value} {e:TypeId} (h:BK w b cs e) (j:Nat) (v:Value):BK (w.setCell ⟨b,j,none⟩ v) b (cs.setIfInBounds j v) e:=by
 have h':w.heap[b]? =some (.cells cs e (0,0)):=h
 simp [BK,World.setCell,Array.getElem?_modify,h']
theorem BK.other {w:World} {b b':Nat} {cs:Array Value} {e:TypeId} (h:BK w b cs e) (hne:b≠b') (j:Nat) (v:Value):BK (w.setCell ⟨b',j,none⟩ v) b cs e:=
 (Below.heap_setCell w ⟨b',j,none⟩ v b hne).trans h
theorem BK.ld {w:World} {b:Nat} {cs:Array Value} {e:TypeId} (h:BK w b cs e) {n:Nat} (hn:cs.size=n):ldCells w ⟨b,0,none⟩ n cs:=
 ⟨hn,λi _=>h.cell i⟩
theorem BK.row {w:World} {b:Nat} {cs ds:Array Value} {e:TypeId} (h:BK w b cs e) (hn:ds.size=cs.size) (h1:oneL ds.toList=true):StRow w ⟨b,0,none⟩ ds:=
 ⟨h1,λi hi=>by rw[ad0];exact h.st1 (by omega)⟩
theorem setCells_set {b:Nat} {e:TypeId}:∀(vs:List Value) (o:Nat) (w:World) (cs:Array Value),BK w b cs e->o+vs.length<=cs.size->BK (w.setCells b o vs) b (cs.toList.take o++vs++cs.toList.drop (o+vs.length)).toArray e:=by
 intro vs
 induction vs with
 |nil=>intro o w cs h _;simpa[World.setCells]using h
 |cons v vs ih=>
  intro o w cs h hle
  simp only[List.length_cons]at hle
  have:=ih (o+1) (w.setCell ⟨b,o,none⟩ v) (cs.setIfInBounds o v) (h.set o v) (by simp;omega)
  show BK (World.setCells _ _ _ _) _ _ _
  have e2:((cs.setIfInBounds o v).toList.take (o+1)++vs++(cs.setIfInBounds o v).toList.drop (o+1+vs.length))=cs.toList.take o++(v::vs)++cs.toList.drop (o+(v::vs).length):=by
   rw[Array.toList_setIfInBounds,List.take_set,List.drop_set]
   have e3:o < o+1+vs.length:=by omega
   rw[if_pos e3]
   have e4:(cs.toList.take (o+1)).set o v=cs.toList.take o++[v]:=by
    apply List.ext_getElem?
    intro i
    by_cases hi:i < o
    ·rw[List.getElem?_set_ne (by omega),List.getElem?_append_left (by simp;omega)]
     rw[List.getElem?_take_of_lt (by omega),List.getElem?_take_of_lt hi]
    ·by_cases hi2:i=o
     ·subst hi2
      rw[List.getElem?_set_self (by simp;omega),List.getElem?_append_right (by simp;omega)]
      have:i - (cs.toList.take i).length=0:=by simp;omega
      rw[this];rfl
     ·rw[List.getElem?_eq_none (by simp;omega),List.getElem?_eq_none (by simp;omega)]
   have e5:o+1+vs.length=o+(v::vs).length:=by simp;omega
   rw[e4,e5];simp
  rw[e2]at this
  exact this
theorem BK.strow {w:World} {b:Nat} {cs ds:Array Value} {e:TypeId} (h:BK w b cs e) (hn:ds.size=cs.size):BK (stRow w ⟨b,0,none⟩ ds) b ds e:=by
 have:=setCells_set ds.toList 0 w cs h (by simp;omega)
 have e2:(cs.toList.take 0++ds.toList++cs.toList.drop (0+ds.toList.length)).toArray=ds:=by
  have:cs.toList.drop (0+ds.toList.length)=[]:=List.drop_eq_nil_of_le (by simp;omega)
  rw[this];simp
 rw[e2]at this
 exact this
theorem heap_setCells_ne (b:Nat) (k:Nat) (hk:k≠b):∀(vs:List Value) (o:Nat) (w:World),(w.setCells b o vs).heap[k]? =w.heap[k]? :=by
 intro vs
 induction vs with
 |nil=>intro o w;rfl
 |cons v vs ih=>intro o w;exact(ih (o+1) _).trans (Below.heap_setCell w ⟨b,o,none⟩ v k hk)
theorem BK.strow_other {w:World} {b b':Nat} {cs:Array Value} {e:TypeId} (h:BK w b cs e) (hne:b≠b') (o:Nat) (s:Option Nat) (ds:Array Value):BK (stRow w ⟨b',o,s⟩ ds) b cs e:=
 (heap_setCells_ne b' b hne ds.toList o w).trans h
theorem Below.strow {B:Nat} {a w:World} (h:Below B a w) {p:Addr} (hp:B<=p.block) (cs:Array Value):Below B a (stRow w p cs):=by
 unfold stRow
 have:∀(vs:List Value) (o:Nat) (w:World),Below B a w->Below B a (w.setCells p.block o vs):=by
  intro vs
  induction vs with
  |nil=>intro o w h;exact h
  |cons v vs ih=>intro o w h;exact ih (o+1) _ (h.setCell (p:=⟨p.block,o,none⟩) hp v)
 exact this _ _ _ h
def Wr (w:World) (B:Nat) (v:Value) (xs:List Value):Prop:=
 Rd w v xs/\(xs≠[]->∃g cap cur e,v= .slice (some ⟨g,0,none⟩) xs.length cap/\B<=g/\BK w g cur e/\xs.length<=cur.size)
theorem Own.wr {w:World} {B:Nat} {e:TypeId} {v:Value} {xs:List Value} (h:Own w B e v xs):Wr w B v xs:=by
 refine⟨h.rd,λhne=>?_⟩
 rcases h.2 with ⟨rfl,hn⟩|⟨g,cap,cur,rfl,hb,hg,hn,hm,hs,ht⟩
 ·exact absurd (List.eq_nil_of_length_eq_zero hn) hne
 ·exact⟨g,cap,cur,e,rfl,hb,hg,by omega⟩
theorem Wr.rd {w:World} {B:Nat} {v:Value} {xs:List Value} (h:Wr w B v xs):Rd w v xs:=h.1
theorem Wr.grow {w w':World} {B:Nat} {v:Value} {xs:List Value} (h:Wr w B v xs) (g:Grow w w'):Wr w' B v xs:=
 ⟨h.1.grow g,λhne=>let ⟨b,cap,cur,e,hv,hb,hk,hl⟩:=h.2 hne;⟨b,cap,cur,e,hv,hb,hk.grow g,hl⟩⟩
theorem Wr.put {w:World} {B:Nat} {v:Value} {xs:List Value} (h:Wr w B v xs) {i:Int} (h0:0<=i) (h1:i < xs.length):
 ∃a,sliceAt v i 1=some a/\w.cell? a=some (xs[i.toNat]'(by omega))/\St1 w a/\B<=a.block/\v.ownBlock=some a.block/\∀x,Wr (w.setCell a x) B v (xs.set i.toNat x):=by
 have hne:xs≠[]:=by intro e;subst e;simp at h1;omega
 obtain⟨g,cap,cur,e,rfl,hb,hk,hl⟩:=h.2 hne
 obtain⟨a,ha,hc⟩:=h.1.at (i:=i) (u:=xs[i.toNat]'(by omega)) h0 (List.getElem?_eq_getElem (by omega))
 have ea:a=⟨g,i.toNat,none⟩:=by
  simp only[sliceAt]at ha
  rw[if_pos (by omega)]at ha
  injection ha with ha
  rw[←ha,Nat.mul_one,ad0]
 subst ea
 refine⟨_,ha,hc,hk.st1 (by omega),hb,rfl,λx=>⟨?_,λ_=>⟨g,cap,_,e,by simp,hb,hk.set _ _,by simpa using hl⟩⟩⟩
 obtain⟨a',cap',hv,k1,k2,k3,k4⟩:=h.1
 cases hv
 refine⟨some ⟨g,0,none⟩,cap,by simp,by simpa using k1,k2,λhh=>(by cases hh),λj u hj=>⟨_,rfl,?_⟩⟩
 rw[ad0]
 rw[(hk.set i.toNat x).at j]
 have hjl:j < xs.length:=by have:=(List.getElem?_eq_some_iff.1 hj).1;simpa using this
 by_cases e:j=i.toNat
 ·subst e
  rw[List.getElem?_set_self (by omega)]at hj
  rw[Array.getElem?_setIfInBounds_self_of_lt (by omega)];exact hj
 ·rw[List.getElem?_set_ne (λh=>e h.symm)]at hj
  rw[Array.getElem?_setIfInBounds_ne (λh=>e h.symm)]
  obtain⟨x',hx,hcx⟩:=k4 j u hj
  cases hx
  rw[ad0,hk.at j]at hcx
  exact hcx
def b8 (x:UInt8):Value:=.int .u8 (x.toNat:Int)
def byt (n:Int):UInt8:=UInt8.ofNat (n % 256).toNat
theorem b8_byt (n:Int):(Value.int .u8 (n % 256))=b8 (byt n):=by
 have h:(byt n).toNat=(n % 256).toNat:=by simp [byt];omega
 simp only[b8,h]
 congr 1;omega
theorem byt_toNat (n:Int):((byt n).toNat:Int)=n % 256:=by
 have h:(byt n).toNat=(n % 256).toNat:=by simp [byt];omega
 omega
theorem b8_wrap (n:Int):(Value.int .u8 (IntKind.wrap .u8 n))=b8 (byt n):=by rw[w8,b8_byt]
abbrev RdB (w:World) (v:Value) (bs:List UInt8):Prop:=Rd w v (bs.map b8)
abbrev OwnB (w:World) (B:Nat) (e:TypeId) (v:Value) (bs:List UInt8):Prop:=Own w B e v (bs.map b8)
theorem one_b8 {bs:List UInt8}:∀u∈bs.map b8,u.oneCell'=true:=by
 intro u hu;obtain⟨x,_,rfl⟩:=List.mem_map.1 hu;rfl
theorem RdB.at {w:World} {v:Value} {bs:List UInt8} (h:RdB w v bs) {i:Int} (h0:0<=i) (h1:i < bs.length):
 ∃a,sliceAt v i 1=some a/\w.cell? a=some (.int .u8 ((bs[i.toNat]'(by omega)).toNat:Int)):=
 Rd.at h h0 (by rw[List.getElem?_map,List.getElem?_eq_getElem (by omega)];rfl)
theorem RdB.len {w:World} {v:Value} {bs:List UInt8} (h:RdB w v bs):sliceLen v=some bs.length:=by simpa using Rd.len h
theorem foldl_push (bs:List UInt8):∀s:ByteArray,((bs.map λx=>(x.toNat:Int)).foldl (λr n=>r.push (UInt8.ofNat n.toNat)) s).toList=s.toList++bs:=by
 induction bs with
 |nil=>intro s;simp
 |cons x bs ih=>intro s;rw[List.map_cons,List.foldl_cons,ih];simp [ByteArray.toList_eq]
def RdBB (w:World) (v:Value) (bss:List (List UInt8)):Prop:=
 ∃vs,Rd w v vs/\vs.length=bss.length/\∀i (h:i < vs.length) (h':i < bss.length),RdB w vs[i] bss[i]
theorem RdBB.grow {w w':World} {v:Value} {bss:List (List UInt8)} (h:RdBB w v bss) (g:Grow w w'):RdBB w' v bss:=by
 obtain⟨vs,h1,h2,h3⟩:=h
 exact⟨vs,h1.grow g,h2,λi hi hi'=>(h3 i hi hi').grow g⟩
theorem RdBB.len {w:World} {v:Value} {bss:List (List UInt8)} (h:RdBB w v bss):sliceLen v=some bss.length:=by
 obtain⟨vs,h1,h2,h3⟩:=h
 rw[h1.len,h2]
theorem RdBB.at {w:World} {v:Value} {bss:List (List UInt8)} (h:RdBB w v bss) {i:Int} (h0:0<=i) (h1:i < bss.length):
 ∃a u,sliceAt v i 1=some a/\(∀w',Grow w w'->w'.cell? a=some u)/\RdB w u (bss[i.toNat]'(by omega)):=by
 obtain⟨vs,k1,k2,k3⟩:=h
 have hl:i.toNat < vs.length:=by omega
 obtain⟨a,ha,hc⟩:=k1.at (u:=vs[i.toNat]) h0 (List.getElem?_eq_getElem hl)
 exact⟨a,vs[i.toNat],ha,λw' g=>(g.cell (World.block_lt_of_cell? w a hc)).trans hc,k3 _ hl (by omega)⟩
def textOf (bs:List UInt8):ByteArray:=⟨bs.toArray⟩
theorem textOf_toList (bs:List UInt8):(textOf bs).toList=bs:=ByteArray.toList_mk bs
theorem text_ext {s:ByteArray} {bs:List UInt8} (h:s.toList=bs):s=textOf bs:=by
 rw[ByteArray.toList_eq]at h
 subst h
 simp [textOf]
theorem run_text {P:Program} {t ts e:TypeId} (ht:P.underlying t=some (.slice e)) (he:P.underlying e=some (.int .u8)) (hd:P.underlying ts=some .string)
 {w:World} {v:Value} {bs:List UInt8} (h:RdB w v bs):Sem.run P (convert t ts v) w= .ok (.string (textOf bs)) w:=by
 suffices ∃s:ByteArray,Sem.run P (convert t ts v) w= .ok (.string s) w/\s.toList=bs by
  obtain⟨s,h1,h2⟩:=this
  rw[h1,text_ext h2]
 obtain⟨a,cap,rfl,h1,h2,h3,h4⟩:=h
 have hm:bs.map b8=(bs.map λx=>(x.toNat:Int)).map (Value.int .u8):=by simp [b8]
 rw[run_convert_bytes_string w t ts e _ _ _ ht he hd]
 cases a with
 |none=>
  have hc:=h3 rfl
  have hb:bs=[]:=by apply List.eq_nil_of_length_eq_zero;simp at h1;omega
  subst hb
  refine⟨ByteArray.empty,?_,by simp [ByteArray.toList_eq]⟩
  simp [Conv.bytesToString,Sem.run_pure]
 |some a=>
  have hl:(loadCells a (bs.map b8).length).run P w= .ok ((bs.map λx=>(x.toNat:Int)).map (Value.int .u8)).toArray w:=by
   rw[←hm]
   exact run_loadCells_list (P:=P) w a _ (λj u hj=>by obtain⟨x,hx,hc⟩:=h4 j u hj;cases hx;exact hc)
  refine⟨_,run_bytesToString w a _ cap _ hl,?_⟩
  rw[foldl_push]
  simp [ByteArray.toList_eq]
end Go.CW
