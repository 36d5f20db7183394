/- A part of the proof. -/
import Derived.Test.YtdpmhkbhlbfbeaaGreatDoorZLuX
set_option linter.unusedSimpArgs false
set_option linter.unusedVariables false
set_option maxRecDepth 100000
namespace Go.Proofs.YtdpmhkbhlbfbeaaGreatDoor
open CW RowKit
variable {w w':World}
theorem app_anyO {v src:Value} {bs cs:List UInt8} (hv:RdB w v bs) (hf:Ful v) (hr:RdB w src cs) (hne:cs≠[]) (hb:bs.length+cs.length<=1000000000):
 ∃v' w',Sem.run Tryz.prog (Builtin.append_ #[tB,tB] tB #[v,src]) w= .ok v' w'/\RdB w' v' (bs++cs)/\Grow w w'/\NewV w v':=by
 obtain⟨v',w',h1,h2,h3⟩:=app_ful tyB hv hf hr (λu hu=>by obtain⟨c,_,rfl⟩:=List.mem_map.1 hu;rfl) (by simpa using hne) (by simp;omega)
 refine⟨v',w',h1,?_,h3,λq hq=>(Own.blk h2) q hq⟩
 have:=h2.rd
 rw[←List.map_append]at this;exact this
theorem one_f {x:UInt8} {R:KV} (k:∀v w',Grow w w'->RdB w' v (List.replicate 8 x)->NewV w v->Ful v->R v w'):Zs 14 #[.int .u8 (x.toNat:Int)] w R:=by
 apply q61W
 refine⟨_,_,row_made (by kernel_rfl) 8 (by omega),?_⟩
 have ga:=Grow.al (Grow.refl w) (.cells ((List.replicate 8 (0:UInt8)).map b8).toArray tb)
 have ra:RB (w.alloc (.cells ((List.replicate 8 (0:UInt8)).map b8).toArray tb)) w.heap.size (List.replicate 8 0):=RB.new _
 generalize w.alloc (.cells ((List.replicate 8 (0:UInt8)).map b8).toArray tb)=wa at *
 refine⟨λ(n:Int) (w':World)=>∃i:Nat,n=(i:Int)/\i<=8/\Grow w w'/\RB w' w.heap.size (List.replicate i x++List.replicate (8 - i) 0),λ(n:Int) (_:World)=>((8:Int) - n).toNat,⟨0,rfl,by omega,ga,ra⟩,?_⟩
 dsimp only[allR,mapR2,eqN,ltN]
 rintro m n w' ⟨⟨i,rfl,hi,g,r⟩,hm⟩
 refine cond_intro (λhc=>?_) (λhc=>?_)
 ·have hlt:i < 8:=by simp at hc;omega
  refine⟨_,rv_at hlt,r.st1 (by simp;omega),nm λw6 e6=>?_⟩
  have e6':w6=World.setCell w' (Addr.add ⟨w.heap.size,0,none⟩ i) (.int .u8 (x.toNat:Int)):=by rw[ad0];exact e6
  obtain⟨b6,t6⟩:=setE r e6'
  rw[wi64_id (by omega) (by omega)]
  refine⟨⟨i+1,by omega,by omega,Below.turn g t6 (Nat.le_refl _),?_⟩,by omega⟩
  have:((List.replicate i x++List.replicate (8 - i) 0).map b8).toArray.setIfInBounds i (.int .u8 (x.toNat:Int))=((List.replicate (i+1) x++List.replicate (8 - (i+1)) 0).map b8).toArray:=by
   have e8:8 - i=(8 - (i+1))+1:=by omega
   rw[e8,List.replicate_succ]
   simp only[List.setIfInBounds_toArray]
   congr 1
   rw[List.map_append,List.set_append_right _ _ (by simp)]
   simp [List.replicate_succ',b8]
  rw[this]at b6
  exact b6
 ·have he:i=8:=by simp at hc;omega
  subst he
  have rd:=r.rd (by simp [maxLen])
  have e:List.replicate 8 x++List.replicate (8 - 8) (0:UInt8)=List.replicate 8 x:=by simp
  rw[e]at rd
  exact k _ _ g rd (λq hq=>by cases hq;exact Nat.le_refl _) (Ful.mk _ _)
def plainC (n a b:UInt8):Cm:=
 if n.toNat % 8=0\/n.toNat % 8=1 then⟨3,a.toNat % 32,1,0,0,0,false,List.replicate 8 b⟩
 else if n.toNat % 8=2 then⟨2,a.toNat % 32,1,0,0,0,false,[]⟩
 else if n.toNat % 8=3 then⟨6,a.toNat % 32,1,0,0,0,false,List.replicate 8 (b&&& 1)++List.replicate 8 b⟩
 else if n.toNat % 8=4 then⟨5,a.toNat % 32,1,0,0,0,false,[]⟩
 else if n.toNat % 8=5 then⟨11,0,0,0,(b.toNat:Int),0,false,[]⟩
 else if n.toNat % 8=6 then⟨12,0,0,(b.toNat:Int),0,1,false,[]⟩
 else⟨16,0,0,0,0,0,false,[]⟩
theorem and31_all:∀c:Fin 256,bitsI .and .u8 (c.val:Int) 31=((c.val % 32:Nat):Int):=by decide+kernel
theorem and31 (c:UInt8):bitsI .and .u8 (c.toNat:Int) (31:Int)=((c.toNat % 32:Nat):Int):=and31_all ⟨c.toNat,c.toNat_lt⟩
theorem andb1_all:∀c:Fin 256,bitsI .and .u8 (c.val:Int) 1=(((UInt8.ofNat c.val)&&& 1).toNat:Int):=by decide+kernel
theorem andb1 (c:UInt8):bitsI .and .u8 (c.toNat:Int) (1:Int)=((c&&& 1).toNat:Int):=by
 have:=andb1_all ⟨c.toNat,c.toNat_lt⟩
 simpa using this
theorem retC {b:Nat} {cs:Array Value} {c:Cm} {d:Value} {G:Int->Int->Int->Value->Int->Int->Int->Bool->World->Prop} (bk:BK w b cs tCmd) (hs:cs.size=8) (ho:isOne d=true)
 (k:∀w',Turn b w w'->G c.kind (c.pos:Int) (c.n:Int) d c.key c.new c.typ c.force w'):
 (StRow w ⟨b,0,none⟩ (rCmd c d))/\bindW (stRow w ⟨b,0,none⟩ (rCmd c d)) λw'=>
 ∃(n0:Int) (n1:Int) (n2:Int) (v3:Value) (n4:Int) (n5:Int) (n6:Int) (b7:Bool),(ldCells w' ⟨b,0,none⟩ 8 #[.int .i64 n0,.int .i64 n1,.int .i64 n2,v3,.int .u64 n4,.int .u64 n5,.int .i64 n6,.bool b7])/\G n0 n1 n2 v3 n4 n5 n6 b7 w':=by
 refine⟨bk.row (by rw[hs];rfl) (by cases d<;>first|rfl|(exact absurd ho (by decide))|(simp [isOne]at ho)),nm λw' e=>?_⟩
 obtain⟨b',t'⟩:=rowE bk e (by rw[hs];rfl)
 exact⟨_,_,_,_,_,_,_,_,b'.ld rfl,k w' t'⟩
theorem plain_c {n a b:UInt8} {R:KV} (k:∀dv w',Grow w w'->RdB w' dv (plainC n a b).d->NewV w dv->R (.agg (rCmd (plainC n a b) dv)) w'):
 Zs 8 #[.int .u8 (n.toNat:Int),.int .u8 (a.toNat:Int),.int .u8 (b.toNat:Int)] w R:=by
 apply q63W
 refine nm λw0 e0=>?_
 obtain⟨b0,g0,s0⟩:=alE e0
 have hn:Int.tmod (n.toNat:Int) (8:Int)=((n.toNat % 8:Nat):Int):=by rw[Int.tmod_eq_emod_of_nonneg (by omega)];omega
 have hb:=b.toNat_lt
 have ha:IntKind.wrap .i64 (bitsI .and .u8 (a.toNat:Int) (31:Int))=((a.toNat % 32:Nat):Int):=by rw[and31,wi64_id (by omega) (by omega)]
 have hb64:IntKind.wrap .u64 (b.toNat:Int)=(b.toNat:Int):=w64_id (by omega) (by omega)
 rw[hn,ha,hb64,andb1]
 have nilN:∀{c:Cm},c.d=[]->(∀dv w',Grow w w'->RdB w' dv c.d->NewV w dv->R (.agg (rCmd c dv)) w')->∀w',Turn w.heap.size w0 w'->R (.agg (rCmd c nilV)) w':=λhd kk w' t'=>kk nilV w' (Below.turn g0 t' (Nat.le_refl _)) (by rw[hd];exact Rd.nil _) (λq hq=>by cases hq)
 generalize hm:n.toNat % 8=m at *
 refine JoinP.bool (λq w'=>q=decide (m=0\/m=1)/\w'=w0) (λj hj=>cond_intro (λh=>hj _ _ ⟨?_,rfl⟩) (λh=>hj _ _ ⟨?_,rfl⟩)) ?_
 ·have:m=0:=by simp at h;omega
  simp [this]
 ·have:¬m=0:=by simp at h;omega
  rw[Bool.eq_iff_iff];simp;omega
 rintro q w2 ⟨rfl,rfl⟩
 unfold plainC at k
 rw[hm]at k
 refine cond_intro (λh=>?_) (λh=>?_)
 ·have h':m=0\/m=1:=by simpa using h
  rw[if_pos h']at k
  refine one_f λv3 w4 g4 r4 n4 f4=>oneK_of (Rd.isOne r4) ?_
  refine retC (c:=⟨3,a.toNat % 32,1,0,0,0,false,List.replicate 8 b⟩) (b0.grow g4) rfl (Rd.isOne r4) λw5 t5=>?_
  have hne:v3.ownBlock≠some w.heap.size:=λe=>by have:=n4 _ e;omega
  exact k v3 w5 (Below.turn (g0.then g4) t5 (Nat.le_refl _)) (Rd.turn r4 t5 hne) (n4.of g0.size)
 ·have h':¬(m=0\/m=1):=by simpa using h
  rw[if_neg h']at k
  refine cond_intro (λh2=>?_) (λh2=>?_)
  ·have h2':m=2:=by simp at h2;omega
   rw[if_pos h2']at k
   exact retC (c:=⟨2,a.toNat % 32,1,0,0,0,false,[]⟩) b0 rfl rfl (nilN rfl k)
  have h2':¬m=2:=by simp at h2;omega
  rw[if_neg h2']at k
  refine cond_intro (λh3=>?_) (λh3=>?_)
  ·have h3':m=3:=by simp at h3;omega
   rw[if_pos h3']at k
   refine one_f λv3 w4 g4 r4 n4 f4=>one_f λv5 w6 g6 r6 n6 f6=>?_
   obtain⟨v7,w7,hrun,r7,g7,n7⟩:=app_anyO (r4.grow g6) f4 r6 (by simp) (by simp)
   refine⟨v7,w7,hrun,oneK_of (Rd.isOne r7) ?_⟩
   have gg:=(g4.then g6).then g7
   refine retC (c:=⟨6,a.toNat % 32,1,0,0,0,false,List.replicate 8 (b&&& 1)++List.replicate 8 b⟩) (b0.grow gg) rfl (Rd.isOne r7) λw8 t8=>?_
   have s4:=g4.size
   have s6:=g6.size
   have hne:v7.ownBlock≠some w.heap.size:=λe=>by have:=n7 _ e;omega
   exact k v7 w8 (Below.turn (g0.then gg) t8 (Nat.le_refl _)) (Rd.turn r7 t8 hne) (n7.of (by omega))
  have h3':¬m=3:=by simp at h3;omega
  rw[if_neg h3']at k
  refine cond_intro (λh4=>?_) (λh4=>?_)
  ·have h4':m=4:=by simp at h4;omega
   rw[if_pos h4']at k
   exact retC (c:=⟨5,a.toNat % 32,1,0,0,0,false,[]⟩) b0 rfl rfl (nilN rfl k)
  have h4':¬m=4:=by simp at h4;omega
  rw[if_neg h4']at k
  refine cond_intro (λh5=>?_) (λh5=>?_)
  ·have h5':m=5:=by simp at h5;omega
   rw[if_pos h5']at k
   exact retC (c:=⟨11,0,0,0,(b.toNat:Int),0,false,[]⟩) b0 rfl rfl (nilN rfl k)
  have h5':¬m=5:=by simp at h5;omega
  rw[if_neg h5']at k
  refine cond_intro (λh6=>?_) (λh6=>?_)
  ·have h6':m=6:=by simp at h6;omega
   rw[if_pos h6']at k
   exact retC (c:=⟨12,0,0,(b.toNat:Int),0,1,false,[]⟩) b0 rfl rfl (nilN rfl k)
  have h6':¬m=6:=by simp at h6;omega
  rw[if_neg h6']at k
  exact retC (c:=⟨16,0,0,0,0,0,false,[]⟩) b0 rfl rfl (nilN rfl k)
end Go.Proofs.YtdpmhkbhlbfbeaaGreatDoor
