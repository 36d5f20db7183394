/- A part of the proof. -/
import Derived.Test.YtdpmhkbhlbfbeaaGreatDoorZLinX
set_option linter.unusedSimpArgs false
set_option linter.unusedVariables false
set_option maxRecDepth 100000
section
namespace Go.Proofs.YtdpmhkbhlbfbeaaGreatDoor.Lgn
open CW RowKit Txt
open Ses (Prm)
theorem itoa_n (u:Nat):Lib.itoa (u:Int)=Lib.decDigits u:=by unfold Lib.itoa;rw[if_neg (by omega)];congr 1
theorem dig_no0 (u:Nat):(0:UInt8)∉Lib.decDigits u:=λh=>by
 have:=digits_dig u 0 h
 have e:(0:UInt8).toNat=0:=rfl
 omega
theorem dig_len {u:Nat} (h:u<=999999999):(Lib.decDigits u).length<=9:=by
 have e:(10:Nat) ^ 9=1000000000:=by decide
 exact digits_len_le u 9 (by omega) (by rw[e];omega)
theorem right_of {k v:List UInt8} (h1:k≠[]) (h2:k.length<=63) (h3:k.all signB=true) (h4:v.length<=255) (h0:(0:UInt8)∉v):rightB (k,v)=true:=by
 unfold rightB
 rw[h3,indexByte_miss v 0 h0]
 have e1:decide (k=[])=false:=by simpa using h1
 have e2:decide ((k.length:Int)<=63)=true:=by simp;omega
 have e3:decide ((v.length:Int)<=255)=true:=by simp;omega
 simp only[e1,e2,e3]
 rfl
theorem wrong_none:∀(L:List Pr) (ks:List (List UInt8)),(∀p∈L,rightB p=true)->(L.map (·.1)).Nodup->(∀p∈L,p.1∉ks)->wrongA ks L=false
 |[],_,_,_,_=>rfl
 |p::r,ks,h1,h2,h3=>by
  rw[List.map_cons,List.nodup_cons]at h2
  have ih:=wrong_none r (p.1::ks) (λq hq=>h1 q (by simp [hq])) h2.2 (λq hq=>by
   simp only[List.mem_cons,not_or]
   exact⟨λe=>h2.1 (by rw[←e];exact List.mem_map.2 ⟨q,hq,rfl⟩),h3 q (by simp [hq])⟩)
  simp only[wrongA,h1 p (by simp),ih,h3 p (by simp),decide_false]
  rfl
structure LgP (p:Prm) (A:List (List UInt8)):Prop where
 nm:nameT p.nm=true
 mem:p.nm∈A
 ne:p.nm≠[]
 len:p.nm.length<=255
 no0:(0:UInt8)∉p.nm
 md:512<=p.md/\p.md<=16777215
 bu:512<=p.bu/\p.bu<=16777215
 dg:p.dg=true
def ansL (p:Prm):List Pr:=[(mbL,Lib.itoa ((min 8192 p.bu:Nat):Int)),(idL,wordL p.im),(hdL,crcL)]
def agP (p:Prm):Prm:=⟨p.nm,min 4096 p.md,min 8192 p.bu,p.im,true⟩
theorem k_in (p:Prm) (v:List UInt8):keyR p inL v=some (K1 p v):=by unfold keyR;rw[if_neg (by decide),if_neg (by decide),if_neg (by decide),if_neg (by decide),if_neg (by decide),if_pos rfl]
theorem k_mr (p:Prm) (v:List UInt8):keyR p mrL v=some (K2 p v):=by unfold keyR;rw[if_neg (by decide),if_neg (by decide),if_neg (by decide),if_neg (by decide),if_pos rfl]
theorem k_mb (p:Prm) (v:List UInt8):keyR p mbL v=some (K3 p v):=by unfold keyR;rw[if_neg (by decide),if_neg (by decide),if_neg (by decide),if_pos rfl]
theorem k_id (p:Prm) (v:List UInt8):keyR p idL v=some (K4 p v):=by unfold keyR;rw[if_neg (by decide),if_neg (by decide),if_pos rfl]
theorem k_hd (p:Prm) (v:List UInt8):keyR p hdL v=some (K5 p v):=by unfold keyR;rw[if_neg (by decide),if_pos rfl]
theorem size_dig {n u:Nat} (h:512<=u/\u<=16777215):sizeO (Lib.decDigits u)=true/\sizeN n (Lib.decDigits u)=min n u:=by
 obtain⟨h1,h2⟩:=isN_digits (n:=u) (by omega)
 have:sizeO (Lib.decDigits u)=true:=by
  unfold sizeO;rw[h1,h2,decide_eq_true h.1,decide_eq_true h.2];rfl
 exact⟨this,by unfold sizeN;rw[this,h2];rfl⟩
theorem and_word (b:Bool):andT (wordL true) (wordL b)=wordL b/\andO (wordL true) (wordL b)=true/\decide (wordL b=yesL)=b:=by cases b<;>decide
theorem dig_dig:digO digL=crcL:=by decide+kernel
theorem word_le (b:Bool):(wordL b).length<=3/\(0:UInt8)∉wordL b:=by cases b<;>decide
theorem neg_ask {p:Prm} {A:List (List UInt8)} (h:LgP p A):negN oursP A (askL p)=(ansL p,agP p,0):=by
 unfold negN
 have e:negGo [] {oursP with nm:=[],dg:=false} (askL p)=(ansL p,agP p,false):=by
  obtain⟨m1,m2⟩:=size_dig (n:=4096) h.md
  obtain⟨b1,b2⟩:=size_dig (n:=8192) h.bu
  obtain⟨a1,a2,a3⟩:=and_word p.im
  unfold askL
  rw[itoa_n,itoa_n,h.dg]
  simp only[cond_true,negGo,k_in,k_mr,k_mb,k_id,k_hd,K1,K2,K3,K4,K5,oursP,h.nm,m1,m2,b1,b2,a1,a2,a3,dig_dig,cond_true,cond_false,List.nil_append,List.cons_append]
  rfl
 rw[e]
 unfold negF
 show(if(agP p).nm=[] then _ else if(agP p).nm∈A then _ else _)=_
 rw[if_neg (show ¬(agP p).nm=[] from h.ne),if_pos (show(agP p).nm∈A from h.mem)]
theorem tak_ans {p:Prm} (h1:512<=p.bu/\p.bu<=16777215) (hd:p.dg=true):takN p (ansL p)=({p with bu:=min 8192 p.bu},0):=by
 have e1:isN (Lib.decDigits (min 8192 p.bu))=true/\numN (Lib.decDigits (min 8192 p.bu))=min 8192 p.bu:=isN_digits (by omega)
 have e2:boolO (wordL p.im)=true/\boolV (wordL p.im)=p.im:=by cases p.im<;>decide
 have e3:min (min 8192 p.bu) p.bu=min 8192 p.bu:=by omega
 obtain⟨nm,md,bu,im,dg⟩:=p
 have hd:dg=true:=hd
 subst hd
 dsimp only at e1 e2 e3 h1 ⊢
 unfold takN ansL
 rw[itoa_n]
 have s1:∀q:Prm,takS ⟨nm,md,bu,im,true⟩ q (mbL,Lib.decDigits (min 8192 bu))=({q with bu:=min (min 8192 bu) q.bu},true):=λq=>by unfold takS;rw[if_pos rfl];dsimp only;rw[e1.1,e1.2]
 have s2:∀q:Prm,takS ⟨nm,md,bu,im,true⟩ q (idL,wordL im)=({q with im:=q.im&&im},true):=λq=>by unfold takS;rw[if_neg (show ¬idL=mbL by decide),if_pos rfl];dsimp only;rw[e2.1,e2.2]
 have s3:∀q:Prm,takS ⟨nm,md,bu,im,true⟩ q (hdL,crcL)=({q with dg:=true},true):=λq=>by unfold takS;rw[if_neg (show ¬hdL=mbL by decide),if_neg (show ¬hdL=idL by decide),if_pos rfl];rfl
 simp only[takGo,s1,s2,s3,cond_true,e3,Bool.and_self]
theorem ask_right {p:Prm} {A:List (List UInt8)} (h:LgP p A):(∀q∈askL p,rightB q=true)/\SmP (askL p)/\wrongA [] (askL p)=false/\(askL p).length<=1000:=by
 have hm:=dig_len (u:=p.md) (by have:=h.md;omega)
 have hb:=dig_len (u:=p.bu) (by have:=h.bu;omega)
 obtain⟨w1,w2⟩:=word_le p.im
 have hL:askL p=[(inL,p.nm),(mrL,Lib.decDigits p.md),(mbL,Lib.decDigits p.bu),(idL,wordL p.im),(hdL,digL)]:=by unfold askL;rw[itoa_n,itoa_n,h.dg];rfl
 have hr:∀q∈askL p,rightB q=true:=by
  rw[hL]
  intro q hq
  simp only[List.mem_cons,List.not_mem_nil,or_false]at hq
  rcases hq with rfl|rfl|rfl|rfl|rfl
  ·exact right_of (by decide) (by decide) (by decide+kernel) h.len h.no0
  ·exact right_of (by decide) (by decide) (by decide+kernel) (by omega) (dig_no0 _)
  ·exact right_of (by decide) (by decide) (by decide+kernel) (by omega) (dig_no0 _)
  ·exact right_of (by decide) (by decide) (by decide+kernel) (by omega) w2
  ·decide+kernel
 have hn:=h.len
 refine⟨hr,?_,wrong_none _ _ hr (by rw[hL];show[inL,mrL,mbL,idL,hdL].Nodup;decide) (by simp),by rw[hL];simp⟩
 rw[hL]
 refine⟨by simp,?_,?_,?_⟩
 ·intro q hq
  simp only[List.mem_cons,List.not_mem_nil,or_false]at hq
  rcases hq with rfl|rfl|rfl|rfl|rfl<;>simp
 ·intro q hq
  simp only[List.mem_cons,List.not_mem_nil,or_false]at hq
  rcases hq with rfl|rfl|rfl|rfl|rfl<;>simp<;>omega
 ·simp [encB,encP];omega
theorem ans_right {p:Prm}:(∀q∈ansL p,rightB q=true)/\SmP (ansL p)/\wrongA [] (ansL p)=false/\(ansL p).length<=1000:=by
 have hb:=dig_len (u:=min 8192 p.bu) (by omega)
 obtain⟨w1,w2⟩:=word_le p.im
 have hL:ansL p=[(mbL,Lib.decDigits (min 8192 p.bu)),(idL,wordL p.im),(hdL,crcL)]:=by unfold ansL;rw[itoa_n]
 have hr:∀q∈ansL p,rightB q=true:=by
  rw[hL]
  intro q hq
  simp only[List.mem_cons,List.not_mem_nil,or_false]at hq
  rcases hq with rfl|rfl|rfl
  ·exact right_of (by decide) (by decide) (by decide+kernel) (by omega) (dig_no0 _)
  ·exact right_of (by decide) (by decide) (by decide+kernel) (by omega) w2
  ·decide+kernel
 refine⟨hr,?_,wrong_none _ _ hr (by rw[hL];show[mbL,idL,hdL].Nodup;decide) (by simp),by rw[hL];simp⟩
 rw[hL]
 refine⟨by simp,?_,?_,?_⟩
 ·intro q hq
  simp only[List.mem_cons,List.not_mem_nil,or_false]at hq
  rcases hq with rfl|rfl|rfl<;>simp
 ·intro q hq
  simp only[List.mem_cons,List.not_mem_nil,or_false]at hq
  rcases hq with rfl|rfl|rfl<;>simp<;>omega
 ·simp [encB,encP];omega
end Go.Proofs.YtdpmhkbhlbfbeaaGreatDoor.Lgn
end
section
namespace Go.Proofs.YtdpmhkbhlbfbeaaGreatDoor.Ses
open CW RowKit Pdu
theorem enc_t {x:Cdb.Cod} (hx:x∈Cdb.codesL) (h:x.ty=true) (fo:Bool) (t a n:Int):(Cdb.encB x fo t a n).getD 2 0=byt t:=by
 have hb:=Cdb.notBoth x hx
 obtain⟨k,op,sub,at_,nn,sh,fo',ty,pa⟩:=x
 simp only at h hb;subst h
 have hb:at_=false:=by simpa using hb
 subst hb
 cases nn<;>cases sh<;>rfl
theorem enc_13 {x:Cdb.Cod} (h:x.sh=true) (hn:x.n=false) (fo:Bool) (t a n:Int):(Cdb.encB x fo t a n).getD 13 0=byt n:=by
 obtain⟨k,op,sub,at_,nn,sh,fo',ty,pa⟩:=x
 simp only at h hn;subst h;subst hn
 cases at_<;>cases ty<;>rfl
def cmE (x:Cdb.Cod) (t:Int) (a n:Nat):Cm:=⟨x.k,if x.at_ then a else 0,if x.n then n else if x.sh then n else 0,0,0,if x.n then 0 else if x.sh then 0 else if x.ty then t else 0,false,[]⟩
theorem cmd_enc {x:Cdb.Cod} (hx:x∈Cdb.codesL) {t:Int} {a n:Nat} (ht:0<=t/\t<=15) (ha:a < 4611686018427387904) (hn:n<=255):wireP.cmd (Cdb.encB x false t a n)=(cmE x t a n,0):=by
 have hok:=Cdb.enc_ok hx false t a n
 have hf:Cdb.codOf (Cdb.encB x false t a n)=some x:=Cdb.enc_find hx false t a n
 obtain⟨g0,g1⟩:=Cdb.enc_0 x false t a n
 have h0:Cdb.anyBad x (Cdb.encB x false t a n) 16=false:=by
  unfold Cdb.anyBad
  rw[List.any_eq_false]
  intro i hi
  have hi:=List.mem_range.1 hi
  unfold Cdb.badI
  rcases hok i hi with h|⟨rfl,h2,h3⟩|h
  ·rw[h];simp
  ·rw[h2,h3];simp
  ·rw[h];simp
 have h1:Cdb.farD x (Cdb.encB x false t a n)=false:=by
  unfold Cdb.farD
  cases hat:x.at_ with
  |false=>rfl
  |true=>rw[Cdb.enc_at hat false t a n (by omega)];simp;omega
 have hc:Cdb.codeD (Cdb.encB x false t a n)=0:=by
  unfold Cdb.codeD;rw[hf]
  show(if Cdb.wrongD x (Cdb.encB x false t a n)=true then(9216:Int)else 0)=0
  unfold Cdb.wrongD;rw[h0,h1];rfl
 show(cmD (Cdb.encB x false t a n),Cdb.codeD (Cdb.encB x false t a n))=_
 rw[hc]
 have e:cmD (Cdb.encB x false t a n)=⟨x.k,(Cdb.atD x (Cdb.encB x false t a n)).toNat,(Cdb.nD x (Cdb.encB x false t a n)).toNat,0,0,Cdb.tD x (Cdb.encB x false t a n),Cdb.foD x (Cdb.encB x false t a n) 16,[]⟩:=by
  unfold cmD;rw[hf];exact if_pos hc
 rw[e]
 have e1:(Cdb.atD x (Cdb.encB x false t a n)).toNat=if x.at_ then a else 0:=by
  unfold Cdb.atD
  cases hat:x.at_ with
  |false=>rfl
  |true=>rw[if_pos rfl,Cdb.enc_at hat false t a n (by omega),if_pos rfl];omega
 have bt:∀m:Int,0<=m->m < 256->((byt m).toNat:Int)=m:=λm q1 q2=>by rw[byt_toNat];omega
 have e2:(Cdb.nD x (Cdb.encB x false t a n)).toNat=if x.n then n else if x.sh then n else 0:=by
  unfold Cdb.nD
  cases hnn:x.n with
  |true=>rw[if_pos rfl,Cdb.enc_n hnn false t a n (by omega),if_pos rfl];omega
  |false=>
   cases hsh:x.sh with
   |false=>rfl
   |true=>
    show(((Cdb.encB x false t a n).getD 13 0).toNat:Int).toNat=n
    rw[enc_13 hsh hnn,bt _ (by omega) (by omega)];omega
 have e3:Cdb.tD x (Cdb.encB x false t a n)=if x.n then 0 else if x.sh then 0 else if x.ty then t else 0:=by
  unfold Cdb.tD
  split
  ·rfl
  ·split
   ·rfl
   ·cases hty:x.ty with
    |false=>rfl
    |true=>rw[if_pos rfl,if_pos rfl,enc_t hx hty,bt _ (by omega) (by omega)]
 have e4:Cdb.foD x (Cdb.encB x false t a n) 16=false:=by
  unfold Cdb.foD
  rw[g1]
  rcases Cdb.sub0 x hx with h|h
  ·have:Cdb.named x 1=true:=by unfold Cdb.named;rw[h];rfl
   rw[this];simp
  ·rw[h];simp
 rw[e1,e2,e3,e4];rfl
theorem cdb_of (p:Pd) (l:List UInt8) (h:l.length=16):(Cli.cdbP p l).cdb=l:=by
 show[l.getD 0 0,l.getD 1 0,l.getD 2 0,l.getD 3 0,l.getD 4 0,l.getD 5 0,l.getD 6 0,l.getD 7 0,l.getD 8 0,l.getD 9 0,l.getD 10 0,l.getD 11 0,l.getD 12 0,l.getD 13 0,l.getD 14 0,l.getD 15 0]=l
 refine List.ext_getElem (by simp [h]) λi h1 h2=>?_
 have hc:i=0\/i=1\/i=2\/i=3\/i=4\/i=5\/i=6\/i=7\/i=8\/i=9\/i=10\/i=11\/i=12\/i=13\/i=14\/i=15:=by omega
 rcases hc with rfl|rfl|rfl|rfl|rfl|rfl|rfl|rfl|rfl|rfl|rfl|rfl|rfl|rfl|rfl|rfl<;>simp [List.getD,h]
theorem two_enc {k o:Int} (hk:0<=k/\k < 18446744073709551616) (ho:0<=o/\o < 18446744073709551616):wireP.two (Lst.encB k o)=some (k,o):=by
 obtain⟨h1,h2,h3⟩:=Lst.encB_ok hk ho
 show(if Lst.okD (Lst.encB k o)=true then some (Lst.dK (Lst.encB k o),Lst.dO (Lst.encB k o))else none)=_
 rw[if_pos h1,h2,h3]
theorem full_two {c:Cm} {k o:Int} (hc:isPr c.kind=true) (hk:0<=k/\k < 18446744073709551616) (ho:0<=o/\o < 18446744073709551616):full wireP c (Lst.encB k o)=some {c with key:=k,new:=o}:=by
 unfold full;rw[if_pos hc,two_enc hk ho]
end Go.Proofs.YtdpmhkbhlbfbeaaGreatDoor.Ses
end
section
namespace Go.Proofs.YtdpmhkbhlbfbeaaGreatDoor.Ses
open CW RowKit Pdu
open Cli (Cl Ak Pq encs runC)
theorem m32_id {n:Int} (h0:0<=n) (h1:n < 4294967296):m32 n=n:=by
 have:m32 n=n % 4294967296:=w32 n
 omega
theorem gap_small {a b:Int} (h0:0<=a) (h1:a<=b) (h2:b < 2147483648):Cli.gap a b=b - a:=by
 unfold Cli.gap
 have e1:IntKind.wrap .u32 (b - a)=b - a:=m32_id (by omega) (by omega)
 rw[e1]
 have e2:IntKind.wrap .i32 (b - a)=b - a:=by
  simp only[IntKind.wrap,IntKind.signed,IntKind.bits]
  simp
  omega
 rw[e2,wi64_id (by omega) (by omega)]
theorem encQ_eq {p:Pd} {ds:List UInt8} (h:okP p=true) (hl:ds.length<=4096):encQ p ds=encP p ds:=by unfold encQ;rw[if_pos ⟨h,hl⟩]
variable {U:Type} {W:Wire} {du:U->List UInt8->Cm->Rp×U} {lg:St U->Pd->List UInt8->St U}
theorem step_cmd {x:St U} {p:Pd} {ds:List UInt8} {c:Cm} (hop:x.s.op=true) (hp:p.op=1) (hsn:p.sn=x.s.exp) (hc:W.cmd p.cdb=(c,0)) (ho:W.out c=ds.length) (him:ds=[]\/x.s.p.im=true):
 one W du lg x p ds=done W du {x with s:={x.s with exp:=m32 (x.s.exp+1)}} p.tag c ds:=by
 unfold one take command
 rw[if_pos hop,if_pos hp,if_pos hsn,hc]
 dsimp only
 rw[if_neg (by simp),ho]
 by_cases h:ds=[]
 ·subst h;exact if_pos rfl
 ·rw[if_neg (λe=>h (List.eq_nil_of_length_eq_zero e))]
  have him:=him.resolve_left h
  rw[if_neg (by rw[him];simp),if_pos rfl]
theorem done_ok {x:St U} {tag:Int} {c c':Cm} {ds:List UInt8} (h:full W c ds=some c'):done W du x tag c ds=fin W du x tag c':=by
 unfold done;rw[h]
end Go.Proofs.YtdpmhkbhlbfbeaaGreatDoor.Ses
namespace Go.Proofs.YtdpmhkbhlbfbeaaGreatDoor.Cli
open CW RowKit Pdu
open Ses (encQ_eq gap_small m32_id m32 Rp)
theorem mxC_up {c:Cl} {p:Pd} (h0:0<=c.mx) (h1:c.mx<=p.mx) (h2:p.mx < 2147483648):mxC c p={c with mx:=p.mx}:=by
 unfold mxC
 rw[gap_small h0 h1 h2]
 by_cases h:0 < p.mx - c.mx
 ·rw[if_pos h]
 ·rw[if_neg h]
  have:p.mx=c.mx:=by omega
  rw[this]
end Go.Proofs.YtdpmhkbhlbfbeaaGreatDoor.Cli
end
section
namespace Go.Proofs.YtdpmhkbhlbfbeaaGreatDoor.Cli
open CW RowKit Pdu
open Ses (encQ_eq gap_small m32_id m32 Rp)
theorem out_login {c:Cl} {lt:Ses.Prm->List UInt8} (hc:c.cl=false) (ha:c.asked=false) (hs:c.say=[]) (hl:(lt c.p).length<=4096):outC lt c=({c with asked:=true},encP {zP with op:=3,fin:=true,sn:=1} (lt c.p)):=by
 obtain⟨p,rd,re,op,cl,asked,sn,mx,tg,L,say,dn⟩:=c
 dsimp only at *
 subst hc;subst ha;subst hs
 unfold outC
 simp only[tell,Bool.false_eq_true,if_false,if_true,List.nil_append]
 rw[encQ_eq (by simp [okP,known,zP]) hl]
end Go.Proofs.YtdpmhkbhlbfbeaaGreatDoor.Cli
end
