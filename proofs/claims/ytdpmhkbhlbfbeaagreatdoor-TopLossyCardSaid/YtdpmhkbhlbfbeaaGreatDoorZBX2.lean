/- A part of the proof. -/
import Derived.Test.YtdpmhkbhlbfbeaaGreatDoorZLib
import Derived.Lib.AppendStr
import Derived.Lib.AppendZerosOnto
import Derived.Deep.Slices
import Derived.ChangeArms
import Derived.OpenShut
set_option linter.unusedVariables false
namespace Go.CW
open Go.RowKit
def U (v:BitVec 32):Int:=(v.toNat:Int)
theorem U_range (v:BitVec 32):0<=U v/\U v < 4294967296:=by
 have:=v.isLt
 unfold U;omega
theorem U_of (v:BitVec 32):BitVec.ofInt 32 (U v)=v:=by
 unfold U
 rw[BitVec.ofInt_natCast];simp
theorem U_wrap (v:BitVec 32):IntKind.wrap .u32 (U v)=U v:=by
 have:=U_range v
 rw[w32];omega
theorem U_xor (a b:BitVec 32):bitsI .xor .u32 (U a) (U b)=U (a ^^^ b):=by
 show IntKind.wrap .u32 (((BitVec.ofInt 32 (U a) ^^^ BitVec.ofInt 32 (U b)).toNat:Nat):Int)=_
 rw[U_of,U_of];exact U_wrap _
theorem U_and (a b:BitVec 32):bitsI .and .u32 (U a) (U b)=U (a&&& b):=by
 show IntKind.wrap .u32 (((BitVec.ofInt 32 (U a)&&& BitVec.ofInt 32 (U b)).toNat:Nat):Int)=_
 rw[U_of,U_of];exact U_wrap _
theorem U_shr (v:BitVec 32) (k:Nat):Int.fdiv (U v) ((2 ^ k:Nat):Int)=U (v >>> k):=by
 unfold U
 rw[Int.fdiv_eq_ediv_of_nonneg _ (Int.natCast_nonneg _),BitVec.toNat_ushiftRight,Nat.shiftRight_eq_div_pow]
 exact(Int.natCast_ediv _ _).symm
end Go.CW
section
namespace Go.CW
open Go.RowKit
structure Enc (α:Type) where
 s:Nat
 enc:α->List Value
 len:∀x,(enc x).length=s
 pos:0 < s
 one:∀x,oneL (enc x)=true
variable {α:Type} {E:Enc α}
theorem oneL_mem:∀{vs:List Value},oneL vs=true->∀u∈vs,u.oneCell'=true
 |[],_,u,hu=>by cases hu
 |v::vs,h,u,hu=>by
  simp only[oneL,Bool.and_eq_true]at h
  rcases List.mem_cons.1 hu with rfl|hu
  ·cases u<;>first|rfl|(simp [isOne]at h)
  ·exact oneL_mem h.2 u hu
def Enc.flat (E:Enc α) (L:List α):List Value:=L.flatMap E.enc
theorem Enc.flat_cons (x:α) (L:List α):E.flat (x::L)=E.enc x++E.flat L:=by simp [Enc.flat]
theorem Enc.flat_append (A B:List α):E.flat (A++B)=E.flat A++E.flat B:=by simp [Enc.flat]
theorem Enc.flat_length (L:List α):(E.flat L).length=L.length*E.s:=by
 induction L with
 |nil=>simp [Enc.flat]
 |cons x L ih=>rw[Enc.flat_cons,List.length_append,E.len,ih,List.length_cons,Nat.succ_mul,Nat.add_comm]
theorem Enc.flat_one (L:List α):∀u∈E.flat L,u.oneCell'=true:=by
 intro u hu
 obtain⟨x,_,hx⟩:=List.mem_flatMap.1 hu
 exact oneL_mem (E.one x) u hx
theorem Enc.flat_split (L:List α) (n:Nat):E.flat (L.take n)=(E.flat L).take (n*E.s)/\E.flat (L.drop n)=(E.flat L).drop (n*E.s):=by
 induction L generalizing n with
 |nil=>simp [Enc.flat]
 |cons x L ih=>
  cases n with
  |zero=>simp [Enc.flat]
  |succ n=>
   obtain⟨h1,h2⟩:=ih n
   rw[List.take_succ_cons,List.drop_succ_cons,Enc.flat_cons,Enc.flat_cons,h1,h2,Nat.succ_mul]
   constructor
   ·rw[List.take_append,E.len,Nat.add_sub_cancel,List.take_of_length_le (l:=E.enc x) (by rw[E.len];omega)]
   ·rw[List.drop_append,E.len,Nat.add_sub_cancel,List.drop_of_length_le (l:=E.enc x) (by rw[E.len];omega)];rfl
theorem Enc.flat_at (L:List α) (i:Nat) (hi:i < L.length) (k:Nat) (hk:k < E.s):(E.flat L)[i*E.s+k]? =(E.enc L[i])[k]? :=by
 have h:=(Enc.flat_split (E:=E) L i).2
 have e:L.drop i=L[i]::L.drop (i+1):=by simp
 rw[e,Enc.flat_cons]at h
 rw[←List.getElem?_drop,←h,List.getElem?_append_left (by rw[E.len];exact hk)]
theorem Enc.flat_set (L:List α) (i:Nat) (hi:i < L.length) (x:α):E.flat (L.set i x)=(E.flat L).take (i*E.s)++E.enc x++(E.flat L).drop (i*E.s+E.s):=by
 rw[List.set_eq_take_append_cons_drop,if_pos hi,Enc.flat_append,Enc.flat_cons,(Enc.flat_split (E:=E) L i).1,(Enc.flat_split (E:=E) L (i+1)).2,Nat.succ_mul,List.append_assoc]
def RdR (E:Enc α) (w:World) (v:Value) (L:List α):Prop:=
 ∃a cap,v= .slice a L.length cap/\L.length<=cap/\cap<=maxLen/\(a=none->cap=0)/\∀j u,(E.flat L)[j]? =some u->∃x,a=some x/\w.cell? (x.add j)=some u
theorem RdR.nil (w:World):RdR E w (.slice none 0 0) []:=⟨none,0,rfl,Nat.le_refl _,by simp [maxLen],λ_=>rfl,by simp [Enc.flat]⟩
theorem RdR.len {w:World} {v:Value} {L:List α} (h:RdR E w v L):sliceLen v=some L.length:=by
 obtain⟨a,cap,rfl,_⟩:=h;rfl
theorem RdR.le {w:World} {v:Value} {L:List α} (h:RdR E w v L):L.length<=9223372036854775807:=by
 obtain⟨a,cap,rfl,h1,h2,_⟩:=h;simp only[maxLen]at h2;omega
theorem RdR.kept {w w':World} {v:Value} {L:List α} (h:RdR E w v L) (hk:∀a u,w.cell? a=some u->v.ownBlock=some a.block->w'.cell? a=some u):RdR E w' v L:=by
 obtain⟨a,cap,rfl,h1,h2,h3,h4⟩:=h
 refine⟨a,cap,rfl,h1,h2,h3,λj u hj=>?_⟩
 obtain⟨x,rfl,hx⟩:=h4 j u hj
 exact⟨x,rfl,hk _ _ hx (by simp [Value.ownBlock,add_block])⟩
theorem cell_of_heap {w w':World} {a:Addr} (h:w'.heap[a.block]? =w.heap[a.block]?):w'.cell? a=w.cell? a:=by
 unfold World.cell?;rw[h]
theorem RdR.grow {w w':World} {v:Value} {L:List α} (h:RdR E w v L) (g:Grow w w'):RdR E w' v L:=
 h.kept λa _ ha _=>(g.cell (World.block_lt_of_cell? w a ha)).trans ha
theorem RdR.isNil {w:World} {v:Value} {L:List α} (h:RdR E w v L):∃b,isNilS v=some b/\(b=true->L=[]/\v= .slice none 0 0):=by
 obtain⟨a,cap,rfl,h1,h2,h3,h4⟩:=h
 refine⟨a.isNone,rfl,λhb=>?_⟩
 cases a with
 |some a=>simp at hb
 |none=>
  have hc:=h3 rfl
  have hx:L=[]:=List.eq_nil_of_length_eq_zero (by omega)
  subst hx;subst hc
  exact⟨rfl,rfl⟩
theorem RdR.at {w:World} {v:Value} {L:List α} (h:RdR E w v L) {i:Int} (h0:0<=i) (h1:i < L.length):
 ∃a,sliceAt v i E.s=some a/\(∀k,k < E.s->w.cell? (a.add k)=(E.enc (L[i.toNat]'(by omega)))[k]?)/\v.ownBlock=some a.block:=by
 obtain⟨a,cap,rfl,k1,k2,k3,k4⟩:=h
 have hx:∃x,a=some x:=by
  cases a with
  |none=>have:=k3 rfl;omega
  |some x=>exact⟨x,rfl⟩
 obtain⟨x,rfl⟩:=hx
 refine⟨x.add (i.toNat*E.s),?_,λk hk=>?_,by simp [Value.ownBlock,add_block]⟩
 ·simp only[sliceAt]
  rw[if_pos (by omega)]
 ·have hf:=Enc.flat_at (E:=E) L i.toNat (by omega) k hk
  have hlt:k < (E.enc (L[i.toNat]'(by omega))).length:=by rw[E.len];exact hk
  rw[List.getElem?_eq_getElem hlt]at hf ⊢
  obtain⟨x',hx',hc⟩:=k4 _ _ hf
  cases hx'
  rw[add_add];exact hc
theorem ldCells_of {w:World} {a:Addr} {n:Nat} {vs:List Value} (hl:vs.length=n) (h:∀k,k < n->w.cell? (a.add k)=vs[k]?):ldCells w a n vs.toArray:=
 ⟨by simpa using hl,λi hi=>by rw[h i hi];simp⟩
theorem RdR.sub {w:World} {v:Value} {L:List α} (h:RdR E w v L) {lo hi:Option Value} {l r:Nat}
 (hb:∀cap,L.length<=cap->boundsOf L.length cap lo hi none=some (l,r,cap)) (hlr:l<=r) (hrx:r<=L.length):
 ∃v',subSlice v E.s lo hi none=some v'/\RdR E w v' ((L.drop l).take (r - l))/\(v'.ownBlock=v.ownBlock):=by
 obtain⟨a,cap,rfl,h1,h2,h3,h4⟩:=h
 have hb:=hb cap h1
 have hlen:((L.drop l).take (r - l)).length=r - l:=by simp;omega
 refine⟨.slice (if cap=l then a else a.map (·.add (l*E.s))) (r - l) (cap - l),by simp only[subSlice,hb],⟨if cap=l then a else a.map (·.add (l*E.s)),cap - l,by rw[hlen],by rw[hlen];omega,by omega,?_,?_⟩,?_⟩
 ·intro hn
  by_cases hc:cap=l
  ·omega
  ·rw[if_neg hc]at hn
   have:=h3 (by simpa using hn)
   omega
 ·intro j u hj
  rw[(Enc.flat_split (E:=E) (L.drop l) (r - l)).1,(Enc.flat_split (E:=E) L l).2,List.getElem?_take]at hj
  split at hj
  ·next hjl=>
   rw[List.getElem?_drop]at hj
   obtain⟨x,rfl,hx⟩:=h4 _ _ hj
   have hlt:=(List.getElem?_eq_some_iff.1 hj).1
   rw[Enc.flat_length]at hlt
   have:cap≠l:=by
    intro e
    have:r - l=0:=by omega
    rw[this]at hjl;omega
   refine⟨x.add (l*E.s),by simp [this],?_⟩
   rw[add_add];exact hx
  ·cases hj
 ·by_cases hc:cap=l
  ·rw[if_pos hc];cases a<;>rfl
  ·rw[if_neg hc]
   cases a with
   |none=>rfl
   |some a=>simp [Value.ownBlock,add_block]
def OwnR (E:Enc α) (w:World) (B:Nat) (e:TypeId) (v:Value) (L:List α):Prop:=w.ownsRow B e E.s v L.length (E.flat L)
theorem OwnR.rd {w:World} {B:Nat} {e:TypeId} {v:Value} {L:List α} (h:OwnR E w B e v L):RdR E w v L:=by
 rcases h.2 with ⟨rfl,hn⟩|⟨g,cap,cur,rfl,hb,hg,hn,hm,hs,ht⟩
 ·obtain rfl:L=[]:=List.eq_nil_of_length_eq_zero hn
  exact RdR.nil w
 ·refine⟨some ⟨g,0,none⟩,cap,rfl,hn,hm,λhh=>(by cases hh),λj u hj=>⟨_,rfl,?_⟩⟩
  exact World.ownsRow.cells h (g:=g) rfl j u hj
theorem OwnR.stable {w w':World} {B:Nat} {e:TypeId} {v:Value} {L:List α} (h:OwnR E w B e v L) (hk:∀k,v.ownBlock=some k->w'.heap[k]? =w.heap[k]?):OwnR E w' B e v L:=by
 refine⟨h.1,?_⟩
 rcases h.2 with hn|⟨b,cap,cur,rfl,hb,hg,r⟩
 ·exact .inl hn
 ·exact .inr ⟨b,cap,cur,rfl,hb,(hk b rfl).trans hg,r⟩
theorem OwnR.lt {w:World} {B:Nat} {e:TypeId} {v:Value} {L:List α} (h:OwnR E w B e v L):∀k,v.ownBlock=some k->B<=k/\k < w.heap.size:=λk hk=>World.ownsRow.lt h k hk
theorem OwnR.grow {w w':World} {B:Nat} {e:TypeId} {v:Value} {L:List α} (h:OwnR E w B e v L) (g:Grow w w'):OwnR E w' B e v L:=h.stable λk hk=>g.block k (h.lt k hk).2
theorem OwnR.nil (w:World) (B:Nat) (e:TypeId):OwnR E w B e (.slice none 0 0) []:=World.ownsRow_nil w B e E.s
theorem OwnR.lit (w:World) {B:Nat} (hB:B<=w.heap.size) (e:TypeId) (L:List α) (n:Nat) (hn:L.length=n) (hm:n<=maxLen):
 OwnR E (w.alloc (.cells (E.flat L).toArray e)) B e (.slice (some ⟨w.heap.size,0,none⟩) n n) L:=by
 subst hn
 have:=World.ownsRow_lit (base:=B) (e:=e) (size:=E.s) w (E.flat L).toArray L.length hB hm (by simp [Enc.flat_length])
 simpa[OwnR]using this
theorem OwnR.put {w:World} {B:Nat} {e:TypeId} {v:Value} {L:List α} (h:OwnR E w B e v L) {i:Int} (h0:0<=i) (h1:i < L.length):
 ∃a,sliceAt v i E.s=some a/\v.ownBlock=some a.block/\B<=a.block/\(∀k,k < E.s->w.cell? (a.add k)=(E.enc (L[i.toNat]'(by omega)))[k]?)/\
  (∀x,StRow w a (E.enc x).toArray/\OwnR E (stRow w a (E.enc x).toArray) B e v (L.set i.toNat x))/\
  (∀k,k < E.s->St1 w (a.add k)/\∀u x,E.enc x=(E.enc (L[i.toNat]'(by omega))).set k u->OwnR E (w.setCell (a.add k) u) B e v (L.set i.toNat x)):=by
 have hrd:=h.rd
 rcases h.2 with ⟨rfl,hn⟩|⟨g,cap,cur,rfl,hb,hg,hn,hm,hs,ht⟩
 ·omega
 have hlen:=h.1
 obtain⟨i,rfl⟩:=Int.eq_ofNat_of_zero_le h0
 have hi:i < L.length:=by omega
 obtain⟨a,ha,hc,hbl⟩:=hrd.at h0 h1
 have ea:a=⟨g,i*E.s,none⟩:=by
  simp only[sliceAt]at ha
  rw[if_pos (by omega)]at ha
  injection ha with ha
  rw[←ha,ad0];rfl
 subst ea
 have hk:BK w g cur e:=hg
 have hmul:i*E.s+E.s<=L.length*E.s:=by rw[←Nat.succ_mul];exact Nat.mul_le_mul_right _ hi
 have hmul2:L.length*E.s<=cap*E.s:=Nat.mul_le_mul_right _ hn
 have had:∀k,(⟨g,i*E.s,none⟩:Addr).add k=⟨g,i*E.s+k,none⟩:=by
  intro k
  unfold Addr.add
  split
  ·next h=>subst h;rfl
  ·rfl
 refine⟨_,ha,hbl,hb,hc,λx=>⟨⟨?_,λk hk'=>?_⟩,?_⟩,λk hk'=>⟨?_,λu x hx=>?_⟩⟩
 ·exact E.one x
 ·rw[had]
  have hk2:k < E.s:=by simpa[E.len]using hk'
  exact hk.st1 (by omega)
 ·have hset:=setCells_set (E.enc x) (i*E.s) w cur hk (by rw[E.len];omega)
  refine⟨by rw[Enc.flat_length],.inr ⟨g,cap,_,by rw[List.length_set],hb,hset,by rw[List.length_set];exact hn,hm,?_,?_⟩⟩
  ·simp [E.len];omega
  ·rw[List.length_set,Int.toNat_natCast,Enc.flat_set L i hi x,E.len]
   simp only
   rw[List.append_assoc,List.take_append,List.take_of_length_le (by simp;omega),List.take_append,List.take_of_length_le (l:=E.enc x) (by rw[E.len,List.length_take];simp;omega)]
   rw[←ht,List.take_take,List.drop_take,List.length_take,E.len,List.append_assoc]
   have e1:min (i*E.s) (L.length*E.s)=i*E.s:=by omega
   have e2:min (i*E.s) cur.toList.length=i*E.s:=by simp;omega
   rw[e1,e2]
   congr 3
   omega
 ·rw[had];exact hk.st1 (by omega)
 ·rw[had]
  have hset:=hk.set (i*E.s+k) u
  refine⟨by rw[Enc.flat_length],.inr ⟨g,cap,_,by rw[List.length_set],hb,hset,by rw[List.length_set];exact hn,hm,by simpa using hs,?_⟩⟩
  rw[List.length_set,Int.toNat_natCast,Enc.flat_set L i hi x,hx,Array.toList_setIfInBounds,List.take_set,ht]
  have hfl:=Enc.flat_length (E:=E) L
  apply List.ext_getElem?
  intro j
  by_cases hj:j < i*E.s
  ·rw[List.getElem?_set_ne (by omega),List.append_assoc,List.getElem?_append_left (by simp;omega),List.getElem?_take_of_lt hj]
  ·by_cases hj2:j < i*E.s+E.s
   ·rw[List.append_assoc,List.getElem?_append_right (by simp;omega),List.getElem?_append_left (by simp [E.len];omega)]
    have e3:j - ((E.flat L).take (i*E.s)).length=j - i*E.s:=by simp;omega
    rw[e3]
    by_cases hj3:j=i*E.s+k
    ·subst hj3
     rw[List.getElem?_set_self (by omega)]
     have e4:i*E.s+k - i*E.s=k:=by omega
     rw[e4,List.getElem?_set_self (by rw[E.len];exact hk')]
    ·rw[List.getElem?_set_ne (by omega),List.getElem?_set_ne (by omega)]
     have:=Enc.flat_at (E:=E) L i hi (j - i*E.s) (by omega)
     refine Eq.trans ?_ this
     congr 1;omega
   ·rw[List.getElem?_set_ne (by omega),List.getElem?_append_right (by simp [E.len];omega),List.getElem?_drop]
    congr 1
    simp [E.len];omega
structure SlTyN (P:Program) (t e:TypeId) (s b:Nat):Prop where
 und:P.underlying t=some (.slice e)
 info:∃i z,P.info? e=some i/\i.zero=some z/\i.size=s/\i.bytes=b/\z.cells.size=s
def slTyNB (P:Program) (t e:TypeId) (s b:Nat):Bool:=
 match P.underlying t,P.info? e with
 |some (.slice e'),some i=>match i.zero with
  |some z=>Nat.beq e' e&&Nat.beq i.size s&&Nat.beq i.bytes b&&Nat.beq z.cells.size s
  |none=>false
 |_,_=>false
theorem SlTyN.of {P:Program} {t e:TypeId} {s b:Nat} (h:slTyNB P t e s b=true):SlTyN P t e s b:=by
 unfold slTyNB at h
 split at h
 ·next e' i h1 h2=>
  split at h
  ·next z h3=>
   simp only[Bool.and_eq_true,Nat.beq_eq]at h
   obtain⟨⟨⟨rfl,k1⟩,k2⟩,k3⟩:=h
   exact⟨h1,i,z,h2,h3,k1,k2,k3⟩
  ·cases h
 ·cases h
theorem app_ownR {P:Program} {t e:TypeId} {b:Nat} (T:SlTyN P t e E.s b) {w:World} {B:Nat} {v src:Value} {L M:List α} (ho:OwnR E w B e v L) (hr:RdR E w src M)
 (hb:(L.length+M.length)*(b+1)<=140737488355328) (hB:B<=w.heap.size):
 ∃v' w',Sem.run P (Builtin.append_ #[t,t] t #[v,src]) w= .ok v' w'/\OwnR E w' B e v' (L++M)/\OwnNext w v w' v':=by
 obtain⟨i,z,hi,hz,hs,hby,hzs⟩:=T.info
 have hb':L.length+M.length<=140737488355328:=Nat.le_trans (Nat.le_mul_of_pos_right _ (by omega)) hb
 have hb2:(L.length+M.length)*b<=140737488355328:=Nat.le_trans (Nat.mul_le_mul_left _ (by omega)) hb
 obtain⟨a,cap,rfl,k1,k2,k3,k4⟩:=hr
 cases a with
 |none=>
  have hc:=k3 rfl
  obtain rfl:M=[]:=List.eq_nil_of_length_eq_zero (by omega)
  subst hc
  refine⟨v,w,run_append_owned_none w B t t e i E.s T.und hi v _ _ ho,?_,OwnNext.refl _ _⟩
  simpa using ho
 |some a=>
  obtain⟨v',w',hr,ho',hg,_,hat⟩:=run_append_own_at (P:=P) w B t t e i z E.s b T.und hi hz hs hby hzs E.pos v L.length _ ho a M.length cap (E.flat M) (Enc.flat_length M)
   (λj u hj=>by obtain⟨x,hx,hc⟩:=k4 j u hj;cases hx;exact hc) (Enc.flat_one M) (by simp only[maxLen];omega) hb2 hB
  refine⟨v',w',hr,?_,hg,hat.imp id λh g hg=>by rw[h]at hg;cases hg;exact Nat.le_refl _⟩
  rw[←Enc.flat_append]at ho'
  simpa[OwnR,List.length_append]using ho'
abbrev Fp:=Nat->Prop
structure Step (S :Fp) (w w':World) (S':Fp):Prop where
 os:w'.os=w.os
 tape:w'.tape=w.tape
 output:w'.output=w.output
 size:w.heap.size<=w'.heap.size
 block:∀k,k < w.heap.size->¬ S k->w'.heap[k]? =w.heap[k]?
 fp:∀k,S' k-> S k\/w.heap.size<=k
theorem Step.refl (S :Fp) (w:World):Step S w w S :=⟨rfl,rfl,rfl,Nat.le_refl _,λ_ _ _=>rfl,λ_ h=>.inl h⟩
theorem Step.then {S S1 S2:Fp} {w w1 w2:World} (a:Step S w w1 S1) (b:Step S1 w1 w2 S2):Step S w w2 S2:=by
 refine⟨b.os.trans a.os,b.tape.trans a.tape,b.output.trans a.output,Nat.le_trans a.size b.size,λk hk hs=>?_,λk hk=>?_⟩
 ·refine(b.block k (Nat.lt_of_lt_of_le hk a.size) λh1=>?_).trans (a.block k hk hs)
  rcases a.fp k h1 with h|h
  ·exact hs h
  ·omega
 ·rcases b.fp k hk with h|h
  ·exact a.fp k h
  ·exact .inr (Nat.le_trans a.size h)
theorem Step.of_grow {S :Fp} {w w':World} (g:Grow w w'):Step S w w' S :=⟨g.os,g.tape,g.output,g.size,λk hk _=>g.block k hk,λ_ h=>.inl h⟩
theorem Step.to_below {S S':Fp} {w w':World} {B:Nat} (a:Step S w w' S') (hB:B<=w.heap.size) (h:∀k, S k->B<=k):Below B w w':=
 ⟨a.os,a.tape,a.output,a.size,λk hk=>a.block k (by omega) (λhs=>by have:=h k hs;omega)⟩
theorem Step.imp {S S' T T':Fp} {w w':World} (a:Step S w w' S') (h:∀k, S k->T k) (h':∀k,T' k->T k\/w.heap.size<=k):Step T w w' T':=
 ⟨a.os,a.tape,a.output,a.size,λk hk hs=>a.block k hk (λhh=>hs (h k hh)),h'⟩
theorem Step.set {S :Fp} (w:World) (b j:Nat) (v:Value) (h: S b):Step S w (w.setCell ⟨b,j,none⟩ v) S :=
 ⟨rfl,rfl,rfl,by simp [World.setCell],λk _ hs=>Below.heap_setCell w ⟨b,j,none⟩ v k (λe=>hs (e▸h)),λ_ h=>.inl h⟩
theorem Step.setA {S :Fp} (w:World) (a:Addr) (v:Value) (h: S a.block):Step S w (w.setCell a v) S :=
 ⟨rfl,rfl,rfl,by simp [World.setCell],λk _ hs=>Below.heap_setCell w a v k (λe=>hs (e▸h)),λ_ h=>.inl h⟩
theorem setCells_fields (b:Nat):∀(vs:List Value) (o:Nat) (w:World),(w.setCells b o vs).os=w.os/\(w.setCells b o vs).tape=w.tape/\(w.setCells b o vs).output=w.output/\(w.setCells b o vs).heap.size=w.heap.size:=by
 intro vs
 induction vs with
 |nil=>intro o w;exact⟨rfl,rfl,rfl,rfl⟩
 |cons v vs ih=>
  intro o w
  obtain⟨h1,h2,h3,h4⟩:=ih (o+1) (w.setCell ⟨b,o,none⟩ v)
  exact⟨h1,h2,h3,h4.trans (by simp [World.setCell])⟩
theorem Step.row {S :Fp} (w:World) (a:Addr) (cs:Array Value) (h: S a.block):Step S w (stRow w a cs) S :=by
 obtain⟨h1,h2,h3,h4⟩:=setCells_fields a.block cs.toList a.off w
 exact⟨h1,h2,h3,Nat.le_of_eq h4.symm,λk _ hs=>heap_setCells_ne a.block k (λe=>hs (e▸h)) _ _ _,λ_ h=>.inl h⟩
theorem Step.of_own {S :Fp} {w w':World} {v v':Value} (n:OwnNext w v w' v') (h:∀k,v.ownBlock=some k-> S k):Step S w w' (λk=> S k\/v'.ownBlock=some k):=
 ⟨n.by_.os,n.by_.tape,n.by_.output,n.by_.size,λk hk hs=>n.by_.block k hk (λe=>hs (h k e.symm)),λk hk=>by
  rcases hk with hk|hk
  ·exact .inl hk
  ·rcases n.at_ with e|e
   ·exact .inl (h k (e▸hk))
   ·exact .inr (e k hk)⟩
theorem withAddr_some {a:Addr} {K:Addr->Prop} (h:K a):withAddr (.pointer (some a)) K:=h
end Go.CW
end
section
namespace Go.CW
open Go.RowKit
def Ful (v:Value):Prop:=∀a n c,v= .slice a n c->c=n
theorem Ful.mk (a:Option Addr) (n:Nat):Ful (.slice a n n):=by intro a' n' c h;cases h;rfl
theorem app_ful {P:Program} {t e:TypeId} {b:Nat} (T:SlTy P t e b) {w:World} {v src:Value} {xs news:List Value} (hv:Rd w v xs) (hf:Ful v) (hr:Rd w src news)
 (h1:∀u∈news,u.oneCell'=true) (hne:news≠[]) (hb:(xs.length+news.length)*(b+1)<=140737488355328):
 ∃v' w',Sem.run P (Builtin.append_ #[t,t] t #[v,src]) w= .ok v' w'/\Own w' w.heap.size e v' (xs++news)/\Grow w w':=by
 obtain⟨av,cv,rfl,l1,l2,l3,l4⟩:=hv
 obtain rfl:cv=xs.length:=hf _ _ _ rfl
 cases av with
 |none=>
  have hc:=l3 rfl
  obtain rfl:xs=[]:=List.eq_nil_of_length_eq_zero hc
  obtain⟨v',w',k1,k2,k3⟩:=app_own T (Own.nil w w.heap.size e) hr h1 hb (Nat.le_refl _)
  exact⟨v',w',k1,k2,k3.below (Nat.le_refl _) (λk hk=>by cases hk)⟩
 |some av=>
  obtain⟨i,z,hi,hz,hs,hby,hzs⟩:=T.info
  obtain⟨a,cap,rfl,k1,k2,k3,k4⟩:=hr
  have hm:0 < news.length:=List.length_pos_iff.2 hne
  have hb':xs.length+news.length<=140737488355328:=Nat.le_trans (Nat.le_mul_of_pos_right _ (by omega)) hb
  have hb2:(xs.length+news.length)*b<=140737488355328:=Nat.le_trans (Nat.mul_le_mul_left _ (by omega)) hb
  cases a with
  |none=>have:=k3 rfl;omega
  |some a=>
   have hr:=run_append_grow (P:=P) (w:=w) t t e i z T.und hi hz av xs.length xs.length xs (by rw[hs];omega) (λj u hj=>by obtain⟨x,hx,hc⟩:=l4 j u hj;cases hx;exact hc)
    a news.length cap news (by rw[hs];omega) (λj u hj=>by obtain⟨x,hx,hc⟩:=k4 j u hj;cases hx;exact hc) (by omega) (by omega)
    (by rw[hby];exact growslice_fits (by omega) hb2)
   refine⟨_,_,hr,?_,Grow.al (Grow.dr (Grow.refl w)) _⟩
   have hge:=grownCap_ge w (xs.length+news.length) xs.length e
   have hcm:=grownCap_le_maxLen w (xs.length+news.length) xs.length e (by simp only[maxLen];omega)
   refine⟨by simp,.inr ⟨w.heap.size,_,_,by rw[List.length_append],Nat.le_refl _,heap_alloc_new w.drew _,by rw[List.length_append];exact hge,hcm,?_,?_⟩⟩
   ·simp only[Array.size_append,List.size_toArray,size_zeroCells,hzs];omega
   ·simp only[Array.toList_append,List.append_assoc,Nat.mul_one]
    rw[←List.append_assoc,List.take_left]
theorem rd_mid {w:World} {b:Nat} {cs:Array Value} {e:TypeId} (h:BK w b cs e) (o n:Nat) (ho:o+n<=cs.size) (hm:n<=maxLen):Rd w (.slice (some (Addr.add ⟨b,0,none⟩ o)) n n) ((cs.toList.drop o).take n):=by
 have hl:((cs.toList.drop o).take n).length=n:=by simp;omega
 refine⟨some (Addr.add ⟨b,0,none⟩ o),n,by rw[hl],by rw[hl];exact Nat.le_refl _,hm,λhh=>(by cases hh),λj u hj=>⟨_,rfl,?_⟩⟩
 rw[add_add,h.cell]
 rw[List.getElem?_take]at hj
 split at hj
 ·rw[List.getElem?_drop]at hj
  simpa using hj
 ·cases hj
end Go.CW
end
namespace Go.CW
open Go.RowKit Go.Lib
theorem zeros_list (k:Nat):(Builtin.zeroCells (Value.int .u8 0).cells k).toList=List.replicate k (.int .u8 0):=by
 have h1:(Value.int IntKind.u8 0).cells= #[.int .u8 0]:=rfl
 rw[h1]
 apply List.ext_getElem
 ·simp [Builtin.zeroCells]
 ·intro i h1 h2
  simp [Builtin.zeroCells,Nat.mod_one]
theorem str_zeros (k:Nat):strCells ⟨(List.replicate k (0:UInt8)).toArray⟩=List.replicate k (.int .u8 0):=by
 simp [strCells]
theorem zeros_eq {P:Program} (w:World) {t tn ts ty e:TypeId} {i:TypeInfo} {kn:IntKind} (ht:P.underlying t=some (.slice e)) (htn:P.underlying tn=some (.int kn)) (hts:P.underlying ts=some .string)
 (hi:P.info? e=some i) (hz:i.zero=some (.int .u8 0)) (hsize:i.size=1) (hby:i.bytes=1) {v:Value} {n:Nat} {xs:List Value} {B:Nat} (hown:w.ownsRow B e 1 v n xs) (k:Nat) (h0:0 < k) (hb:n+k<=140737488355328):
 (Builtin.append_ #[t,tn] ty #[v,.int .i64 (k:Int)]).run P w=(Builtin.append_ #[t,ts] ty #[v,.string ⟨(List.replicate k (0:UInt8)).toArray⟩]).run P w:=by
 have hss:(ByteArray.mk (List.replicate k (0:UInt8)).toArray).size=k:=by simp [ByteArray.size]
 have hzc:Builtin.zeroCells (Value.int .u8 0).cells k=(strCells ⟨(List.replicate k (0:UInt8)).toArray⟩).toArray:=by
  apply Array.ext'
  rw[zeros_list,str_zeros]
 generalize hs:(ByteArray.mk (List.replicate k (0:UInt8)).toArray)=s at *
 rcases hown.2 with ⟨rfl,hn⟩|⟨g,cap,cur,rfl,hbg,hg,hnc,hcm,hcs,htake⟩
 ·subst hn
  have h1:=run_append_nil_zeros (P:=P) w t tn ty e i (.int .u8 0) .i64 kn ht htn hi hz k h0 (by omega) (by omega) (by rw[hby];omega)
  have h2:=run_append_nil_string (P:=P) w t ts ty e i (.int .u8 0) ht hts hi hz s (by omega) (by omega) (by rw[hby];omega)
  have e1:(s.data.map λb=>Value.int .u8 b.toNat)=(strCells s).toArray:=by
   apply Array.ext'
   simp [strCells]
  rw[e1,←hzc,hss]at h2
  rw[h1,h2]
 ·have hxl:xs.length=n:=by simpa using hown.1
  have hcs':cur.size=cap:=by simpa using hcs
  by_cases hroom:n+k<=cap
  ·have h2:=run_append_room_string (P:=P) w t ts ty e i ht hts hi hsize g n cap cur hg s (by omega) (by omega)
   rw[h2]
   have hst:=run_storeCells_at P g n e (strCells s) 0 cur w hg (by simpa[strCells_length,hss]using (by omega:n+k<=cur.size)) (strCells_oneCell s)
   simp only[Nat.add_zero,strCells_length]at hst
   have hk:k≠0:=by omega
   have hw:IntKind.i64.wrap (k:Int)=k:=by rw[IntKind.wrap_i64];omega
   have hneg:¬((k:Int) < 0):=by omega
   have h48i:¬(281474976710656 < (k:Int)):=by omega
   rw[hss]at hst ⊢
   simp [Builtin.append_,run_underlying ht,run_underlying htn,sizeOf,typeInfo,zeroValue,hi,hz,hsize,hby,asInt,asIntOf,hw,hroom,hneg,hk,h48i,hzc,Addr.add_lit,hst]
  ·have holds:∀j u,xs[j]? =some u->w.cell? ((⟨g,0,none⟩:Addr).add j)=some u:=hown.cells (g:=g) rfl
   have holds':∀j u,xs[j]? =some u->w.drew.cell? ((⟨g,0,none⟩:Addr).add j)=some u:=by simpa using holds
   have hfo:=run_firstCells_some (P:=P) w.drew i.size n ⟨g,0,none⟩ n cap xs (by rw[hsize];simpa using hxl) holds'
   have hfit:Builtin.nextslicecap (n+k) cap*i.bytes<=281474976710656:=by rw[hby];exact growslice_fits (by omega) (by omega)
   have h1:=run_append_grow_zeros (P:=P) w t tn ty e i (.int .u8 0) .i64 kn ht htn hi hz (some ⟨g,0,none⟩) n cap xs hfo k h0 (by omega) (by omega) (by omega) (by rw[hby];omega) hfit
   have h2:=run_append_grow_string (P:=P) w t ts ty e i (.int .u8 0) ht hts hi hz ⟨g,0,none⟩ n cap xs (by rw[hsize];simpa using hxl) holds s (by omega) (by omega) (by rw[hss];exact hfit)
   rw[hss,←hzc]at h2
   rw[h1,h2]
theorem app_zeros {P:Program} {w:World} {t tn ts e:TypeId} {kn:IntKind} (T:SlTy P t e 1) (htn:P.underlying tn=some (.int kn)) (hts:P.underlying ts=some .string) (hz:(P.info? e).bind (·.zero)=some (.int .u8 0))
 {v:Value} {bs:List UInt8} {B:Nat} (ho:OwnB w B e v bs) (k:Nat) (h0:0 < k) (hb:bs.length+k<=1099511627776) (hB:B<=w.heap.size):
 ∃v' w',(Builtin.append_ #[t,tn] t #[v,.int .i64 (k:Int)]).run P w= .ok v' w'/\OwnB w' B e v' (bs++List.replicate k 0)/\w.grownBy w' v.ownBlock:=by
 obtain⟨i,z,hi,hz',hs,hby,hzs⟩:=T.info
 rw[hi]at hz
 simp only[Option.bind_some,hz',Option.some.injEq]at hz
 subst hz
 have hl:(bs.map b8).length=bs.length:=by simp
 have hss:(ByteArray.mk (List.replicate k (0:UInt8)).toArray).size=k:=by simp [ByteArray.size]
 have hown:w.ownsRow B e 1 v bs.length (bs.map b8):=by have:=ho;unfold OwnB Own at this;rw[hl]at this;exact this
 rw[zeros_eq (ts:=ts) w T.und htn hts hi hz' hs hby hown k h0 (by omega)]
 obtain⟨v',w',h1,h2,h3,_⟩:=run_append_own_string w B t ts t e i T.und hts hi hz' hs hby v _ _ hown ⟨(List.replicate k (0:UInt8)).toArray⟩ (by rw[hss];simp only[maxLen];omega) (by rw[hss];omega) hB
 refine⟨v',w',h1,?_,h3⟩
 rw[hss,str_zeros]at h2
 have e2:(bs++List.replicate k (0:UInt8)).map b8=bs.map b8++List.replicate k (.int .u8 0):=by rw[List.map_append,List.map_replicate];rfl
 unfold OwnB Own
 rw[e2,List.length_append,hl,List.length_replicate]
 exact h2
end Go.CW
section
namespace Go.CW
open Go.RowKit
section
variable {H:Type} {enc:TypeId×Value->H} {P:Program} {w:World} {base:Nat} {spare:Nat->Bool} {held:Bool}
theorem open_rec {α:Type} (E:Enc α) {Q:α->Prop} {t e:TypeId} {fuel:Nat} {v:Value} {x:DataW H×List MemPlace} (ht:P.underlying t=some (.slice e)) (ce:P.cellsOf e=E.s)
 (hel:∀n cs x,DataW.trod enc P w base spare held n e cs=some x->∃y:α,cs=E.enc y/\Q y) (h:DataW.trod enc P w base spare held fuel t [v]=some x):∃L,RdR E w v L/\∀y∈L,Q y:=by
 rcases Go.Deep.open_slice ht h with ⟨hv,_⟩|⟨a,len,cap,m,n,D,Pl,hv,hb,hl,hm,hmm,rfl,hx⟩
 ·simp only[List.cons.injEq,and_true]at hv
  subst hv
  exact⟨[],RdR.nil w,by simp⟩
 ·simp only[List.cons.injEq,and_true]at hv
  subst hv
  have hlm:len<=m:=by rw[hmm];split<;>omega
  have each:∀i:Nat,∃y:Option α,i < len->∃z,y=some z/\Q z/\∀k,k < E.s->w.cell? (a.add (i*E.s+k))=(E.enc z)[k]? :=by
   intro i
   by_cases hi:i < len
   ·obtain⟨cs',h1,h2⟩:=hx i (by omega)
    obtain⟨z,hz,hq⟩:=hel _ _ _ h2
    obtain⟨_,hlen,hcell⟩:=World.cells?_some h1
    rw[ce]at hcell
    refine⟨some z,λ_=>⟨z,rfl,hq,λk hk=>?_⟩⟩
    have:=hcell k hk
    rw[add_add,hz]at this
    exact this
   ·exact⟨none,λh=>absurd h hi⟩
  obtain⟨f,hf⟩:=Classical.axiomOfChoice each
  have hfl:∀i,i < len->∃z,((List.range len).filterMap f)[i]? =some z/\f i=some z:=by
   intro i hi
   have hall:∀n,n<=len->((List.range n).filterMap f).length=n/\∀j,j < n->((List.range n).filterMap f)[j]? =f j:=by
    intro n
    induction n with
    |zero=>intro _;exact⟨rfl,λj hj=>by omega⟩
    |succ n ih=>
     intro hn
     obtain⟨i1,i2⟩:=ih (by omega)
     obtain⟨z,hz,_⟩:=hf n (by omega)
     have e:(List.range (n+1)).filterMap f=(List.range n).filterMap f++[z]:=by
      rw[List.range_succ,List.filterMap_append];simp [hz]
     rw[e]
     refine⟨by simp [i1],λj hj=>?_⟩
     by_cases hjn:j < n
     ·rw[List.getElem?_append_left (by omega)];exact i2 j hjn
     ·have:j=n:=by omega
      subst this
      rw[List.getElem?_append_right (by omega),i1,Nat.sub_self,hz];rfl
   obtain⟨z,hz,_⟩:=hf i hi
   exact⟨z,by rw[(hall len (Nat.le_refl _)).2 i hi,hz],hz⟩
  generalize hL:(List.range len).filterMap f=L at *
  have hLl:L.length=len:=by
   have h1:L.length<=len:=by rw[←hL];have:=List.length_filterMap_le f (List.range len);simpa using this
   by_cases h0:len=0
   ·omega
   ·obtain⟨z,hz,_⟩:=hfl (len - 1) (by omega)
    have:=(List.getElem?_eq_some_iff.1 hz).1
    omega
  refine⟨L,⟨some a,cap,by rw[hLl],by omega,hm,λhh=>(by cases hh),λj u hj=>⟨a,rfl,?_⟩⟩,λy hy=>?_⟩
  ·have hjl:=(List.getElem?_eq_some_iff.1 hj).1
   rw[Enc.flat_length,hLl]at hjl
   have hi:j / E.s < len:=(Nat.div_lt_iff_lt_mul E.pos).2 hjl
   have hjd:j=j / E.s*E.s+j % E.s:=(Nat.div_add_mod' j E.s).symm
   have hk:=Nat.mod_lt j E.pos
   obtain⟨z,hz,hfz⟩:=hfl _ hi
   obtain⟨z',hz',_,hcell⟩:=hf _ hi
   rw[hfz]at hz'
   cases hz'
   have hzl:=(List.getElem?_eq_some_iff.1 hz)
   obtain⟨hzl1,hzl2⟩:=hzl
   have h1:=Enc.flat_at (E:=E) L (j / E.s) hzl1 (j % E.s) hk
   have h2:=hcell (j % E.s) hk
   rw[hzl2]at h1
   rw[←hjd]at h1 h2
   rw[h2,←h1];exact hj
  ·obtain⟨k,hk,rfl⟩:=List.mem_iff_getElem.1 hy
   obtain⟨z,hz,hfz⟩:=hfl k (by omega)
   obtain⟨z',hz',hq,_⟩:=hf k (by omega)
   rw[hfz]at hz'
   cases hz'
   have:=(List.getElem?_eq_some_iff.1 hz).2
   rw[this];exact hq
theorem open_fld {fs:Array Field} {e:TypeId} {n:Nat} {cs:List Value} {x:DataW H×List MemPlace} (he:P.underlying e=some (.struct fs)) (h:DataW.trod enc P w base spare held n e cs=some x):
 cs.length=P.cellsOf e/\∀(i:Nat) (f:Field) (k:IntKind),fs[i]? =some f->P.underlying f.type=some (.int k)->P.cellsOf f.type=1->∃q,cs[f.offset]? =some (.int k q)/\Fits k q:=by
 obtain⟨xs,m,_,_,hl,hxs,hf⟩:=DataW.trod_struct he h
 refine⟨hl,λi f k hi hk hc=>?_⟩
 have h1:=hf i f hi
 have hlt:i < fs.size:=(Array.getElem?_eq_some_iff.1 hi).1
 rw[List.getElem?_eq_getElem (by omega)]at h1
 obtain⟨q,hq,_,hw⟩:=DataW.trod_int hk h1
 rw[hc]at hq
 refine⟨q,?_,Fits.of_wf hw⟩
 have h2:=congrArg (λl:List Value=>l[0]?) hq
 simp only[List.getElem?_take_of_lt (show 0 < 1 by omega),List.getElem?_drop]at h2
 simpa using h2
def chkI (P:Program):List Field->Nat->List IntKind->Bool
 |[],_,[]=>true
 |f::fs,o,k::ks=>Nat.beq f.offset o&&(match P.underlying f.type with|some (.int k')=>decide (k'=k)|_=>false)&&Nat.beq (P.cellsOf f.type) 1&&chkI P fs (o+1) ks
 |_,_,_=>false
def intsB (P:Program) (e:TypeId) (ks:List IntKind):Bool:=
 match P.underlying e with
 |some (.struct fs)=>chkI P fs.toList 0 ks&&Nat.beq (P.cellsOf e) ks.length
 |_=>false
theorem chkI_at {P:Program}:∀{fs:List Field} {o:Nat} {ks:List IntKind},chkI P fs o ks=true->∀(i:Nat) (k:IntKind),ks[i]? =some k->∃f,fs[i]? =some f/\f.offset=o+i/\P.underlying f.type=some (.int k)/\P.cellsOf f.type=1
 |[],_,[],_,i,k,hk=>by simp at hk
 |[],_,_::_,h,_,_,_=>by simp [chkI]at h
 |_::_,_,[],h,_,_,_=>by simp [chkI]at h
 |f::fs,o,k0::ks,h,i,k,hk=>by
  simp only[chkI,Bool.and_eq_true,Nat.beq_eq]at h
  obtain⟨⟨⟨h1,h2⟩,h3⟩,h4⟩:=h
  cases i with
  |zero=>
   simp only[List.getElem?_cons_zero,Option.some.injEq]at hk
   subst hk
   refine⟨f,rfl,by omega,?_,h3⟩
   split at h2
   ·next k' hu=>rw[hu,of_decide_eq_true h2]
   ·cases h2
  |succ i=>
   obtain⟨f',g1,g2,g3,g4⟩:=chkI_at h4 i k (by simpa using hk)
   exact⟨f',by simpa using g1,by omega,g3,g4⟩
theorem open_intsS {e:TypeId} {ks:List IntKind} (hb:intsB P e ks=true) {n:Nat} {cs:List Value} {x:DataW H×List MemPlace} (h:DataW.trod enc P w base spare held n e cs=some x):
 cs.length=ks.length/\∀(i:Nat) (k:IntKind),ks[i]? =some k->∃q,cs[i]? =some (.int k q)/\Fits k q:=by
 unfold intsB at hb
 split at hb
 ·next fs hu=>
  simp only[Bool.and_eq_true,Nat.beq_eq]at hb
  obtain⟨hl,hf⟩:=open_fld hu h
  refine⟨hl.trans hb.2,λi k hk=>?_⟩
  obtain⟨f,g1,g2,g3,g4⟩:=chkI_at hb.1 i k hk
  obtain⟨q,hq,hfit⟩:=hf i f k (by simpa using g1) g3 g4
  rw[g2,Nat.zero_add]at hq
  exact⟨q,hq,hfit⟩
 ·cases hb
end
end Go.CW
end
section
namespace Go.CW
open Go.RowKit
theorem own_setCells {w:World} {B:Nat} {e:TypeId} {g cap:Nat} {cur:Array Value} {xs:List Value} (hb:B<=g) (hk:BK w g cur e) (hn:xs.length<=cap) (hm:cap<=maxLen) (hs:cur.size=cap) (ht:cur.toList.take xs.length=xs)
 (o:Nat) (cs:List Value) (hfit:o+cs.length<=xs.length):
 Own (w.setCells g o cs) B e (.slice (some ⟨g,0,none⟩) xs.length cap) (xs.take o++cs++xs.drop (o+cs.length)):=by
 have hset:=setCells_set cs o w cur hk (by omega)
 have hl:(xs.take o++cs++xs.drop (o+cs.length)).length=xs.length:=by simp;omega
 unfold Own
 rw[hl]
 refine⟨by rw[Nat.mul_one];exact hl,.inr ⟨g,cap,_,rfl,hb,hset,hn,hm,?_,?_⟩⟩
 ·simp;omega
 ·rw[Nat.mul_one]
  show List.take xs.length (cur.toList.take o++cs++cur.toList.drop (o+cs.length))=_
  rw[List.append_assoc,List.take_append,List.take_of_length_le (by simp;omega),List.take_append,List.take_of_length_le (l:=cs) (by simp;omega)]
  have e1:xs.take o=cur.toList.take o:=by rw[←ht,List.take_take];congr 1;omega
  have e2:xs.drop (o+cs.length)=(cur.toList.drop (o+cs.length)).take (xs.length - (o+cs.length)):=by
   conv=>lhs;rw[←ht]
   rw[List.drop_take]
  rw[e1,e2,List.append_assoc]
  congr 3
  simp;omega
theorem own_tail {P:Program} {w:World} {B:Nat} {t sT ty e:TypeId} {b:Nat} (T:SlTy P t e b) {v:Value} {xs:List Value} (ho:Own w B e v xs) {o:Nat} (h:o < xs.length) (k:IntKind):
 ∃v',subSlice v 1 (some (.int k (o:Int))) none none=some v'/\
  ∀(w1:World) (ys:List Value) (src:Value) (cs:List Value),Own w1 B e v ys->ys.length=xs.length->Rd w1 src cs->(∀u∈cs,u.oneCell'=true)->o+cs.length<=xs.length->
   ∃w',Sem.run P (Builtin.copy_ #[t,sT] ty #[v',src]) w1= .ok (.int .i64 (cs.length:Int)) w'/\Own w' B e v (ys.take o++cs++ys.drop (o+cs.length))/\w1.grownBy w' v.ownBlock:=by
 obtain⟨i,z,hi,hz,hs1,hby,hzs⟩:=T.info
 have hsz:(P.info? e).map (·.size)=some 1:=by rw[hi];simp [hs1]
 rcases ho.2 with ⟨rfl,hn⟩|⟨g,cap,cur,rfl,hb,hg,hn,hm,hs,ht⟩
 ·omega
 ·have hbd:=bounds_in (k:=k) (a:=(o:Int)) (len:=xs.length) (cap:=cap) (by omega) (by omega)
  have hne:cap≠o:=by omega
  refine⟨.slice (some ⟨g,o,none⟩) (xs.length - o) (cap - o),?_,?_⟩
  ·simp only[subSlice,hbd,Int.toNat_natCast]
   rw[if_neg hne]
   simp [ad0]
  ·intro w1 ys src cs hy hyl hsrc h1 hfit
   rcases hy.2 with ⟨hv,hn0⟩|⟨g',cap',cur',hv,hb',hg',hn',hm',hs',ht'⟩
   ·cases hv
   ·rw[Nat.mul_one]at hs' ht'
    have e1:g'=g:=by injection hv with q1 q2 q3;injection q1 with q1;injection q1 with q1;exact q1.symm
    have e2:cap'=cap:=by injection hv with q1 q2 q3;exact q3.symm
    subst e1;subst e2
    have hk:BK w1 g' cur' e:=hg'
    obtain⟨a,c,rfl,c1,c2,c3,c4⟩:=hsrc
    have hown:=own_setCells (B:=B) (xs:=ys) hb' hk hn' hm' hs' ht' o cs (by omega)
    rw[hyl]at hown
    refine⟨w1.setCells g' o cs,?_,hown,?_⟩
    ·cases a with
     |none=>
      have hc0:=c3 rfl
      have hcs:cs=[]:=List.eq_nil_of_length_eq_zero (by omega)
      subst hcs
      exact run_copy_none (P:=P) w1 t sT ty e (some ⟨g',o,none⟩) none _ _ _ _ T.und hsz (by simp)
     |some a=>
      exact run_copy_cells (P:=P) w1 t sT ty e g' o _ _ a _ _ cs T.und hsz (by show cs.length=min cs.length _;omega) (λj u hj=>by obtain⟨x,hx,hc⟩:=c4 j u hj;cases hx;exact hc)
       (λj hj=>by rw[hk.at,Array.getElem?_eq_getElem (by omega)];rfl) (λj hj=>hk.thaw _) h1
    ·obtain⟨f1,f2,f3,f4⟩:=setCells_fields g' cs o w1
     exact⟨f1,f2,f3,Nat.le_of_eq f4.symm,λq _ hne=>heap_setCells_ne g' q (λe=>hne (by rw[e];rfl)) cs o w1⟩
theorem Own.lt {w:World} {B:Nat} {e:TypeId} {v:Value} {xs:List Value} (h:Own w B e v xs):∀k,v.ownBlock=some k->k < w.heap.size:=by
 intro k hk
 rcases h.2 with ⟨rfl,hn⟩|⟨g,cap,cur,rfl,hb,hg,hn,hm,hsz,ht⟩
 ·cases hk
 ·have hg:BK w g cur e:=hg
  injection hk with hk
  rw[←hk];exact hg.lt
theorem Own.put {w:World} {B:Nat} {e:TypeId} {v:Value} {xs:List Value} (h:Own w B e v xs) {i:Int} (h0:0<=i) (h1:i < xs.length):
 ∃a,sliceAt v i 1=some a/\w.cell? a=some (xs[i.toNat]'(by omega))/\St1 w a/\B<=a.block/\v.ownBlock=some a.block/\∀x,Own (w.setCell a x) B e v (xs.set i.toNat x):=by
 obtain⟨a,ha,hc,hs,hB,hob,_⟩:=h.wr.put h0 h1
 refine⟨a,ha,hc,hs,hB,hob,λx=>?_⟩
 rcases h.2 with ⟨rfl,hn⟩|⟨g,cap,cur,rfl,hb,hg,hn,hm,hsz,ht⟩
 ·omega
 ·rw[Nat.mul_one]at hsz ht
  have ea:a=⟨g,i.toNat,none⟩:=by
   simp only[sliceAt]at ha
   rw[if_pos (by omega)]at ha
   injection ha with ha
   rw[←ha,Nat.mul_one,ad0]
  subst ea
  have:=own_setCells (B:=B) (xs:=xs) hb hg hn hm hsz ht i.toNat [x] (by simp;omega)
  have e:xs.set i.toNat x=xs.take i.toNat++[x]++xs.drop (i.toNat+[x].length):=by
   rw[List.set_eq_take_append_cons_drop,if_pos (by omega)];simp
  rw[e];exact this
end Go.CW
end
