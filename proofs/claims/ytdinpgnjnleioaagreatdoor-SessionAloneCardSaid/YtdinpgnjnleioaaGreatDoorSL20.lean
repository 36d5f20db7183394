/- A part of the proof. -/
import Derived.Test.YtdinpgnjnleioaaGreatDoorSRsX4
set_option linter.unusedSimpArgs false
set_option linter.unusedVariables false
set_option maxRecDepth 100000
namespace Go.Proofs.YtdinpgnjnleioaaGreatDoor.Rs
open CW RowKit Pdu
open Ses (St Ses Doer ET newS Rd.turnX)
open Rf (Rv docV iqA iqB)
structure SayV where
 p:Pd
 d:Value
 nx:Bool
 bad:Int
 one:isOne d=true
def ES:Enc SayV:=⟨29,λa=>[.int .i64 a.p.op,.bool a.p.fin,.int .i64 a.p.fl,.int .i64 a.p.st,.int .u32 a.p.tag,.int .u32 a.p.sn,.int .u32 a.p.exp,.int .u32 a.p.mx,.int .u32 a.p.off,.int .u32 a.p.ln,.int .u8 (bn a.p.c0),.int .u8 (bn a.p.c1),.int .u8 (bn a.p.c2),.int .u8 (bn a.p.c3),.int .u8 (bn a.p.c4),.int .u8 (bn a.p.c5),.int .u8 (bn a.p.c6),.int .u8 (bn a.p.c7),.int .u8 (bn a.p.c8),.int .u8 (bn a.p.c9),.int .u8 (bn a.p.c10),.int .u8 (bn a.p.c11),.int .u8 (bn a.p.c12),.int .u8 (bn a.p.c13),.int .u8 (bn a.p.c14),.int .u8 (bn a.p.c15),a.d,.bool a.nx,.int .i64 a.bad],λ_=>rfl,by omega,λa=>by simp only[oneL,a.one,Bool.and_true];rfl⟩
def Says (w:World) (v:Value) (l:List SayV):Prop:=RdR ES w v l/\∀x∈l,PdFits x.p/\∃ds,RdB w x.d ds
theorem Says.grow {w w':World} {v:Value} {l:List SayV} (h:Says w v l) (g:Grow w w'):Says w' v l:=⟨h.1.grow g,λx hx=>by obtain⟨f,ds,hd⟩:=h.2 x hx;exact⟨f,ds,hd.grow g⟩⟩
abbrev kSay:List CK:=[.int .i64,.bool,.int .i64,.int .i64,.int .u32,.int .u32,.int .u32,.int .u32,.int .u32,.int .u32,.int .u8,.int .u8,.int .u8,.int .u8,.int .u8,.int .u8,.int .u8,.int .u8,.int .u8,.int .u8,.int .u8,.int .u8,.int .u8,.int .u8,.int .u8,.int .u8,.raw tB,.bool,.int .i64]
theorem open_say {H:Type} {enc:TypeId×Value->H} {w:World} {base:Nat} {spare:Nat->Bool} {held:Bool} {t:TypeId} {n:Nat} {cs:List Value} {x:DataW H×List MemPlace} (hs:∀b,spare b=true) (ht:sch Tryz.prog 4 t=some kSay)
 (h:DataW.trod enc Tryz.prog w base spare held n t cs=some x):∃y:SayV,cs=ES.enc y/\PdFits y.p/\∃ds,RdB w y.d ds:=by
 obtain⟨hl,hat⟩:=open_sch 4 t kSay n cs x ht h
 match cs,hl with
 |[c0,c1,c2,c3,c4,c5,c6,c7,c8,c9,c10,c11,c12,c13,c14,c15,c16,c17,c18,c19,c20,c21,c22,c23,c24,c25,c26,c27,c28],_=>
  obtain⟨q0,rfl,f0⟩:=hat 0 _ _ rfl rfl
  obtain⟨q1,rfl⟩:=hat 1 _ _ rfl rfl
  obtain⟨q2,rfl,f2⟩:=hat 2 _ _ rfl rfl
  obtain⟨q3,rfl,f3⟩:=hat 3 _ _ rfl rfl
  obtain⟨q4,rfl,f4⟩:=hat 4 _ _ rfl rfl
  obtain⟨q5,rfl,f5⟩:=hat 5 _ _ rfl rfl
  obtain⟨q6,rfl,f6⟩:=hat 6 _ _ rfl rfl
  obtain⟨q7,rfl,f7⟩:=hat 7 _ _ rfl rfl
  obtain⟨q8,rfl,f8⟩:=hat 8 _ _ rfl rfl
  obtain⟨q9,rfl,f9⟩:=hat 9 _ _ rfl rfl
  obtain⟨q10,rfl⟩:=(hat 10 _ _ rfl rfl).byte
  obtain⟨q11,rfl⟩:=(hat 11 _ _ rfl rfl).byte
  obtain⟨q12,rfl⟩:=(hat 12 _ _ rfl rfl).byte
  obtain⟨q13,rfl⟩:=(hat 13 _ _ rfl rfl).byte
  obtain⟨q14,rfl⟩:=(hat 14 _ _ rfl rfl).byte
  obtain⟨q15,rfl⟩:=(hat 15 _ _ rfl rfl).byte
  obtain⟨q16,rfl⟩:=(hat 16 _ _ rfl rfl).byte
  obtain⟨q17,rfl⟩:=(hat 17 _ _ rfl rfl).byte
  obtain⟨q18,rfl⟩:=(hat 18 _ _ rfl rfl).byte
  obtain⟨q19,rfl⟩:=(hat 19 _ _ rfl rfl).byte
  obtain⟨q20,rfl⟩:=(hat 20 _ _ rfl rfl).byte
  obtain⟨q21,rfl⟩:=(hat 21 _ _ rfl rfl).byte
  obtain⟨q22,rfl⟩:=(hat 22 _ _ rfl rfl).byte
  obtain⟨q23,rfl⟩:=(hat 23 _ _ rfl rfl).byte
  obtain⟨q24,rfl⟩:=(hat 24 _ _ rfl rfl).byte
  obtain⟨q25,rfl⟩:=(hat 25 _ _ rfl rfl).byte
  obtain⟨ds,hr⟩:=raw_bytes hs (t:=tB) (e:=tb) (by kernel_rfl) (by kernel_rfl) (by kernel_rfl) (hat 26 _ _ rfl rfl)
  obtain⟨q27,rfl⟩:=hat 27 _ _ rfl rfl
  obtain⟨q28,rfl,_⟩:=hat 28 _ _ rfl rfl
  exact⟨⟨⟨q0,q1,q2,q3,q4,q5,q6,q7,q8,q9,q10,q11,q12,q13,q14,q15,q16,q17,q18,q19,q20,q21,q22,q23,q24,q25⟩,_,q27,q28,Rd.isOne hr⟩,rfl,⟨f0,f2,f3,f4,f5,f6,f7,f8,f9⟩,ds,hr⟩
theorem open_says {H:Type} {enc:TypeId×Value->H} {w:World} {base:Nat} {spare:Nat->Bool} {held:Bool} {n:Nat} {v:Value} {x:DataW H×List MemPlace} (hs:∀b,spare b=true)
 (h:DataW.trod enc Tryz.prog w base spare held n 22 [v]=some x):∃l,Says w v l:=by
 obtain⟨l,h1,h2⟩:=open_rec ES (Q:=λy=>PdFits y.p/\∃ds,RdB w y.d ds) (t:=22) (e:=48) (by kernel_rfl) (by kernel_rfl) (λn cs x hx=>by obtain⟨y,h1,h2⟩:=open_say hs (by kernel_rfl) hx;exact⟨y,h1,h2⟩) h
 exact⟨l,h1,h2⟩
def sayF (p:Value) (n:Int) (oa od:Value) (ra:Addr) (R:KV) (j:World->Prop) (w:World):Prop:=
 ∃(a119:Addr),((Go.CW.sliceAt p n 29)=(some a119))/\
 ∃(n120:Int) (b121:Bool) (n122:Int) (n123:Int) (n124:Int) (n125:Int) (n126:Int) (n127:Int) (n128:Int) (n129:Int) (n130:Int) (n131:Int) (n132:Int) (n133:Int) (n134:Int) (n135:Int) (n136:Int) (n137:Int) (n138:Int) (n139:Int) (n140:Int) (n141:Int) (n142:Int) (n143:Int) (n144:Int) (n145:Int) (v146:Value),(ldCells w (Addr.add a119 0) 27 #[(.int .i64 n120),(.bool b121),(.int .i64 n122),(.int .i64 n123),(.int .u32 n124),(.int .u32 n125),(.int .u32 n126),(.int .u32 n127),(.int .u32 n128),(.int .u32 n129),(.int .u8 n130),(.int .u8 n131),(.int .u8 n132),(.int .u8 n133),(.int .u8 n134),(.int .u8 n135),(.int .u8 n136),(.int .u8 n137),(.int .u8 n138),(.int .u8 n139),(.int .u8 n140),(.int .u8 n141),(.int .u8 n142),(.int .u8 n143),(.int .u8 n144),(.int .u8 n145),v146])/\
 bindW (World.alloc w (.cells #[(.int .i64 (0:Int)),(.bool false),(.int .i64 (0:Int)),(.int .i64 (0:Int)),(.int .u32 (0:Int)),(.int .u32 (0:Int)),(.int .u32 (0:Int)),(.int .u32 (0:Int)),(.int .u32 (0:Int)),(.int .u32 (0:Int)),(.int .u8 (0:Int)),(.int .u8 (0:Int)),(.int .u8 (0:Int)),(.int .u8 (0:Int)),(.int .u8 (0:Int)),(.int .u8 (0:Int)),(.int .u8 (0:Int)),(.int .u8 (0:Int)),(.int .u8 (0:Int)),(.int .u8 (0:Int)),(.int .u8 (0:Int)),(.int .u8 (0:Int)),(.int .u8 (0:Int)),(.int .u8 (0:Int)),(.int .u8 (0:Int)),(.int .u8 (0:Int)),(.slice none 0 0)] tP)) λw147=>
 (StRow w147 ⟨w.heap.size,0,none⟩ #[(.int .i64 n120),(.bool b121),(.int .i64 n122),(.int .i64 n123),(.int .u32 n124),(.int .u32 n125),(.int .u32 n126),(.int .u32 n127),(.int .u32 n128),(.int .u32 n129),(.int .u8 n130),(.int .u8 n131),(.int .u8 n132),(.int .u8 n133),(.int .u8 n134),(.int .u8 n135),(.int .u8 n136),(.int .u8 n137),(.int .u8 n138),(.int .u8 n139),(.int .u8 n140),(.int .u8 n141),(.int .u8 n142),(.int .u8 n143),(.int .u8 n144),(.int .u8 n145),v146])/\
 bindW (stRow w147 ⟨w.heap.size,0,none⟩ #[(.int .i64 n120),(.bool b121),(.int .i64 n122),(.int .i64 n123),(.int .u32 n124),(.int .u32 n125),(.int .u32 n126),(.int .u32 n127),(.int .u32 n128),(.int .u32 n129),(.int .u8 n130),(.int .u8 n131),(.int .u8 n132),(.int .u8 n133),(.int .u8 n134),(.int .u8 n135),(.int .u8 n136),(.int .u8 n137),(.int .u8 n138),(.int .u8 n139),(.int .u8 n140),(.int .u8 n141),(.int .u8 n142),(.int .u8 n143),(.int .u8 n144),(.int .u8 n145),v146]) λw148=>
 JoinP []
 (λ(w149:World)=>
 ∃(n150:Int) (b151:Bool) (n152:Int) (n153:Int) (n154:Int) (n155:Int) (n156:Int) (n157:Int) (n158:Int) (n159:Int) (n160:Int) (n161:Int) (n162:Int) (n163:Int) (n164:Int) (n165:Int) (n166:Int) (n167:Int) (n168:Int) (n169:Int) (n170:Int) (n171:Int) (n172:Int) (n173:Int) (n174:Int) (n175:Int) (v176:Value),(ldCells w149 ⟨w.heap.size,0,none⟩ 27 #[(.int .i64 n150),(.bool b151),(.int .i64 n152),(.int .i64 n153),(.int .u32 n154),(.int .u32 n155),(.int .u32 n156),(.int .u32 n157),(.int .u32 n158),(.int .u32 n159),(.int .u8 n160),(.int .u8 n161),(.int .u8 n162),(.int .u8 n163),(.int .u8 n164),(.int .u8 n165),(.int .u8 n166),(.int .u8 n167),(.int .u8 n168),(.int .u8 n169),(.int .u8 n170),(.int .u8 n171),(.int .u8 n172),(.int .u8 n173),(.int .u8 n174),(.int .u8 n175),v176])/\
 Zs 14 #[(.agg #[(.int .i64 n150),(.bool b151),(.int .i64 n152),(.int .i64 n153),(.int .u32 n154),(.int .u32 n155),(.int .u32 n156),(.int .u32 n157),(.int .u32 n158),(.int .u32 n159),(.int .u8 n160),(.int .u8 n161),(.int .u8 n162),(.int .u8 n163),(.int .u8 n164),(.int .u8 n165),(.int .u8 n166),(.int .u8 n167),(.int .u8 n168),(.int .u8 n169),(.int .u8 n170),(.int .u8 n171),(.int .u8 n172),(.int .u8 n173),(.int .u8 n174),(.int .u8 n175),v176])] w149 λv177 w178=>
 ∃(v179:Value) (n180:Int),((v177:Value)=(.tuple #[v179,(.int .i64 n180)]))/\
 JoinP [.bool]
 (λ(b181:Bool)=>λ(w182:World)=>
 cond b181
 (R (.bool false) w182)
 (j w182))
 (λj183=>
 cond (n180==(0:Int))
 (Zs 12 #[oa,od,v179,(.int .i64 (999:Int))] w178 λv184 w185=>
 ∃(b186:Bool),((v184:Value)=(.bool b186))/\
 j183 (!b186) w185)
 (j183 false w178)))
 (λj187=>
 ∃(a188:Addr),((Go.CW.sliceAt p n 29)=(some a188))/\
 ∃(b189:Bool),((Go.World.cell? w148 (Addr.add a188 27))=(some (.bool b189)))/\
 cond b189
 (∃(n190:Int),((Go.World.cell? w148 (Addr.add ra 11))=(some (.int .u32 n190)))/\
 (St1 w148 (Addr.add ⟨w.heap.size,0,none⟩ 5))/\
 bindW (World.setCell w148 (Addr.add ⟨w.heap.size,0,none⟩ 5) (.int .u32 n190)) λw191=>
 j187 w191)
 (j187 w148))
section
theorem cell_grow {w w':World} (g:Grow w w') {a:Addr} {v:Value} (h:w.cell? a=some v):w'.cell? a=some v:=(g.cell (World.block_lt_of_cell? w a h)).trans h
variable {g1 g2 a r h:Nat} {A:List (List UInt8)} {w w':World} {S1 S2:Fp} {x:St Rv}
theorem Two.grow (t:Two g1 g2 a r h A w S1 S2 x) (g:Grow w w'):Two g1 g2 a r h A w' S1 S2 x:=⟨t.a.grow g,by obtain⟨o,tr⟩:=t.r;exact⟨o,tr.grow g⟩,t.ap⟩
theorem Two.apart {T T':Fp} (t:Two g1 g2 a r h A w S1 S2 x) (st:Step T w w' T') (hT:∀q,S1 q\/S2 q->¬T q):Two g1 g2 a r h A w' S1 S2 x:=
 ⟨t.a.apart st (λq hq=>hT q (.inl hq)),by obtain⟨o,tr⟩:=t.r;exact⟨o,tr.apart st (λq hq=>hT q (.inr hq))⟩,t.ap⟩
theorem TwoD.grow {D:St Rv->St Rv} (t:TwoD D g1 g2 a r h A w S1 S2 x) (g:Grow w w'):TwoD D g1 g2 a r h A w' S1 S2 x:=⟨t.a.grow g,by obtain⟨o,tr⟩:=t.r;exact⟨o,tr.grow g⟩,t.ap⟩
theorem TwoD.apart {D:St Rv->St Rv} {T T':Fp} (t:TwoD D g1 g2 a r h A w S1 S2 x) (st:Step T w w' T') (hT:∀q,S1 q\/S2 q->¬T q):TwoD D g1 g2 a r h A w' S1 S2 x:=
 ⟨t.a.apart st (λq hq=>hT q (.inl hq)),by obtain⟨o,tr⟩:=t.r;exact⟨o,tr.apart st (λq hq=>hT q (.inr hq))⟩,t.ap⟩
theorem Two.lt (t:Two g1 g2 a r h A w S1 S2 x):∀q,S1 q\/S2 q->q < w.heap.size:=λq hq=>by
 obtain⟨o,tr⟩:=t.r
 exact hq.elim (t.a.lt q) (tr.lt q)
theorem Fit.exp (f:Fit h x):Go.CW.Fits .u32 x.s.exp:=by
 cases f with
 |shut _ _ _ _ ex=>exact ex
 |open_ i _ _ _=>exact i.ok.exp
theorem Two.exp (t:Two g1 g2 a r h A w S1 S2 x):w.cell? (Addr.add ⟨r,0,none⟩ 11)=some (.int .u32 x.s.exp):=by
 obtain⟨o,tr⟩:=t.r
 obtain⟨acl,rv,lv,tv,b⟩:=tr.cells
 exact b.cell 11
theorem sayF_c {p:Value} {l:List SayV} {i:Nat} {R:KV} {j:World->Prop} (hp:Says w p l) (hi:i < l.length)
 (hf:∀a x m,sliceAt p (i:Int) 29=some a->w.cell? (Addr.add (Addr.add a 0) 26)=some x->sliceLen x=some m->m<=1000) (t:Two g1 g2 a r h A w S1 S2 x) (f:Fit h x)
 (k:∀w' S1' S2' x',Step (λq=>S1 q\/S2 q) w w' (λq=>S1' q\/S2' q)->Two g1 g2 a r h A w' S1' S2' x'->Fit h x'->j w'):
 sayF p (i:Int) (zA a) (zA r) ⟨r,0,none⟩ R j w:=by
 obtain⟨ad,ha,hc,_⟩:=hp.1.at (i:=(i:Int)) (by omega) (by omega)
 obtain⟨hfit,ds,hds⟩:=hp.2 _ (List.getElem_mem (show(i:Int).toNat < l.length by omega))
 generalize l[(i:Int).toNat]'_=s at *
 have c:∀k,k < 27->w.cell? (Addr.add (Addr.add ad 0) k)=(rP s.p s.d)[k]? :=λk hk=>by
  rw[add_add,Nat.zero_add]
  refine(hc k (by show k < 29;omega)).trans ?_
  have e:ES.enc s=(rP s.p s.d).toList++[.bool s.nx,.int .i64 s.bad]:=rfl
  rw[e,List.getElem?_append_left (by show k < 27;exact hk)]
  simp
 have c26:w.cell? (Addr.add (Addr.add ad 0) 26)=some s.d:=c 26 (by omega)
 have c27:w.cell? (Addr.add ad 27)=some (.bool s.nx):=hc 27 (by show 27 < 29;omega)
 have hl:ds.length<=1000:=hf _ _ _ ha c26 (RdB.len hds)
 have lt:=t.lt
 unfold sayF
 refine⟨ad,ha,_,_,_,_,_,_,_,_,_,_,_,_,_,_,_,_,_,_,_,_,_,_,_,_,_,_,_,⟨rfl,c⟩,nm λw147 e147=>?_⟩
 obtain⟨b147,g147,z147⟩:=alE e147
 refine⟨b147.row rfl (one_rP s.one),nm λw148 e148=>?_⟩
 obtain⟨b148,t148⟩:=rowE b147 e148 rfl
 have b148:BK w148 w.heap.size (rP s.p s.d) tP:=b148
 have g148:Grow w w148:=Below.turn g147 t148 (Nat.le_refl _)
 have adl:∀{v:Value},w.cell? (Addr.add ad 27)=some v->w148.cell? (Addr.add ad 27)=some v:=λhv=>cell_grow g148 hv
 refine JoinP.unit (λw149=>∃q,PdFits q/\BK w149 w.heap.size (rP q s.d) tP/\Grow w w149) (λjj hj=>?_) ?_
 ·refine⟨ad,ha,s.nx,adl c27,cond_intro (λ_=>?_) (λ_=>hj _ ⟨_,hfit,b148,g148⟩)⟩
  refine⟨x.s.exp,(t.grow g148).exp,b148.st1 (j:=5) (by show 5 < 27;omega),nm λw191 e191=>?_⟩
  obtain⟨b191,t191⟩:=setE b148 e191
  exact hj _ ⟨{s.p with sn:=x.s.exp},{hfit with sn:=f.exp},b191,Below.turn g148 t191 (Nat.le_refl _)⟩
 rintro w149 ⟨q,hq,b149,g149⟩
 refine⟨_,_,_,_,_,_,_,_,_,_,_,_,_,_,_,_,_,_,_,_,_,_,_,_,_,_,_,b149.ld rfl,?_⟩
 refine rEncode_c (p:=q) (ds:=ds) hq (hds.grow g149) λv e w178 g178 k1 k2 k3=>⟨v,e,rfl,?_⟩
 have g:=g149.then g178
 have z149:=g149.size
 refine JoinP.bool (λb ww=>b=false/\∃S1' S2' x',Step (λq=>S1 q\/S2 q) w ww (λq=>S1' q\/S2' q)/\Two g1 g2 a r h A ww S1' S2' x'/\Fit h x') (λjj hj=>cond_intro (λhe=>?_) (λhe=>hj _ _ ⟨rfl,S1,S2,x,Step.of_grow g,t.grow g,f⟩)) ?_
 ·have he:e=0:=by simpa using he
  have hok:okP q=true:=by
   cases ho:okP q with
   |true=>rfl
   |false=>have:=(k1 ho).2;omega
  obtain⟨o,_⟩:=k3 hok (by omega)
  refine both_c (t.grow g) f o.rd (λ_ q hq=>⟨λhS=>?_,λhS=>?_⟩) (by rw[encP_length];split<;>omega) λw' S1' S2' x' st tw ft=>⟨_,rfl,hj _ _ ⟨rfl,S1',S2',x',((Step.of_grow g).then st),tw,ft⟩⟩
  ·have:=lt q (.inl hS);have:=o.blk q hq;omega
  ·have:=lt q (.inr hS);have:=o.blk q hq;omega
 rintro b ww ⟨rfl,S1',S2',x',st,tw,ft⟩
 exact cond_f rfl (k ww S1' S2' x' st tw ft)
end
def JJ (w0:World) (ga gr gb gt a r b t:Nat) (w:World):Prop:=
 ∃S1 S2 x S3 S4 y,Two ga gr a r (hOf .wa) [iqA,iqB] w S1 S2 x/\Fit (hOf .wa) x/\Two gb gt b t (hOf .wb) [iqA,iqB] w S3 S4 y/\Fit (hOf .wb) y/\(∀q,S1 q\/S2 q->¬(S3 q\/S4 q))/\(∀q,S1 q\/S2 q->w0.heap.size<=q)/\(∀q,S3 q\/S4 q->w0.heap.size<=q)/\Grow w0 w
variable {w0 w w':World} {ga gr gb gt a r b t:Nat}
theorem JJ.left {S1 S2 S3 S4 S1' S2':Fp} {x' y:St Rv} (t2:Two gb gt b t (hOf .wb) [iqA,iqB] w S3 S4 y) (f2:Fit (hOf .wb) y) (ap:∀q,S1 q\/S2 q->¬(S3 q\/S4 q)) (l1:∀q,S1 q\/S2 q->w0.heap.size<=q) (l2:∀q,S3 q\/S4 q->w0.heap.size<=q) (g:Grow w0 w)
 (st:Step (λq=>S1 q\/S2 q) w w' (λq=>S1' q\/S2' q)) (t1:Two ga gr a r (hOf .wa) [iqA,iqB] w' S1' S2' x') (f1:Fit (hOf .wa) x'):JJ w0 ga gr gb gt a r b t w':=by
 refine⟨S1',S2',x',S3,S4,y,t1,f1,t2.apart st (λq h1 h2=>ap q h2 h1),f2,λq h1 h2=>?_,λq h1=>?_,l2,g.trans (st.to_below g.size l1)⟩
 ·rcases st.fp q h1 with z|z
  ·exact ap q z h2
  ·have:=t2.lt q h2;omega
 ·rcases st.fp q h1 with z|z
  ·exact l1 q z
  ·have:=g.size;omega
theorem JJ.right {S1 S2 S3 S4 S3' S4':Fp} {x y':St Rv} (t1:Two ga gr a r (hOf .wa) [iqA,iqB] w S1 S2 x) (f1:Fit (hOf .wa) x) (ap:∀q,S1 q\/S2 q->¬(S3 q\/S4 q)) (l1:∀q,S1 q\/S2 q->w0.heap.size<=q) (l2:∀q,S3 q\/S4 q->w0.heap.size<=q) (g:Grow w0 w)
 (st:Step (λq=>S3 q\/S4 q) w w' (λq=>S3' q\/S4' q)) (t2:Two gb gt b t (hOf .wb) [iqA,iqB] w' S3' S4' y') (f2:Fit (hOf .wb) y'):JJ w0 ga gr gb gt a r b t w':=by
 refine⟨S1,S2,x,S3',S4',y',t1.apart st ap,f1,t2,f2,λq h1 h2=>?_,l1,λq h1=>?_,g.trans (st.to_below g.size l2)⟩
 ·rcases st.fp q h2 with z|z
  ·exact ap q h1 z
  ·have:=t1.lt q h1;omega
 ·rcases st.fp q h1 with z|z
  ·exact l2 q z
  ·have:=g.size;omega
def Small (w:World) (v:Value) (n:Nat):Prop:=n<=60/\∀(i:Nat),i < n->∀a x m,sliceAt v (i:Int) 29=some a->w.cell? (Addr.add (Addr.add a 0) 26)=some x->sliceLen x=some m->m<=1000
theorem Says.data {l:List SayV} {v:Value} (h:Says w v l) {i:Nat} (hi:i < l.length):∃a x m,sliceAt v (i:Int) 29=some a/\w.cell? (Addr.add (Addr.add a 0) 26)=some x/\sliceLen x=some m:=by
 obtain⟨ad,ha,hc,_⟩:=h.1.at (i:=(i:Int)) (by omega) (by omega)
 obtain⟨hfit,ds,hds⟩:=h.2 _ (List.getElem_mem (show(i:Int).toNat < l.length by omega))
 refine⟨ad,_,_,ha,?_,RdB.len hds⟩
 rw[add_add,Nat.zero_add]
 exact hc 26 (by show 26 < 29;omega)
theorem Small.grow {l:List SayV} {v:Value} (s:Small w v l.length) (h:Says w v l) (g:Grow w w'):Small w' v l.length:=by
 refine⟨s.1,λi hi a x m h1 h2 h3=>?_⟩
 obtain⟨a',x',m',k1,k2,k3⟩:=h.data hi
 rw[h1]at k1;cases k1
 have:=cell_grow g k2
 rw[h2]at this;cases this
 exact s.2 i hi a x m h1 k2 h3
theorem few_s {v:Value} {l:List SayV} (h:Says w v l) {R:KV} (kf:R (.bool false) w) (kt:Small w v l.length->R (.bool true) w):Zs 7 #[v] w R:=
 few_c h.1.len (λi hi=>h.data hi) kf kt
theorem sessionAlone_s (hE:Txt.Env w) {p0 p1:Value} {l m:List SayV} (h0:Says w p0 l) (h1:Says w p1 m):Zs 3 #[p0,p1] w (Law w):=by
 apply q17W
 refine known_c hE λw1 g1=>⟨_,rfl,cond_f rfl ?_⟩
 have h0:=h0.grow g1
 have h1:=h1.grow g1
 have hE:=hE.grow g1
 refine JoinP.bool (λb ww=>ww=w1/\(b=false->Small w1 p0 l.length/\Small w1 p1 m.length)) (λj hj=>?_) ?_
 ·refine few_s h0 ⟨_,rfl,cond_t rfl (hj _ _ ⟨rfl,λe=>by cases e⟩)⟩ λs0=>⟨_,rfl,cond_f rfl ?_⟩
  exact few_s h1 ⟨_,rfl,hj _ _ ⟨rfl,λe=>by cases e⟩⟩ λs1=>⟨_,rfl,hj _ _ ⟨rfl,λ_=>⟨s0,s1⟩⟩⟩
 rintro b4 w4 ⟨rfl,hs⟩
 refine cond_intro (λ_=>⟨rfl,g1⟩) (λhb=>?_)
 obtain⟨s0,s1⟩:=hs hb
 clear hs hb
 have z1:=g1.size
 refine mkT_c (h:=hOf .wa) λga a w11 S1 g11 f1 t1=>?_
 refine mkT_c (h:=hOf .wb) λgb b w19 S3 g19 f3 t3=>?_
 refine mkD_c (h:=hOf .wa) λgr wr w26 S2 g26 f2 t2=>?_
 refine mkD_c (h:=hOf .wb) λgt wt w32 S4 g32 f4 t4=>?_
 have z11:=g11.size
 have z19:=g19.size
 have z26:=g26.size
 have z32:=g32.size
 have t1:=((t1.grow g19).grow g26).grow g32
 have t3:=(t3.grow g26).grow g32
 have t2:=t2.grow g32
 have gg:Grow w4 w32:=((g11.then g19).then g26).then g32
 have tA:TwoD D0 ga gr a wr.heap.size (hOf .wa) [iqA,iqB] w32 S1 S2 (newS rv0):=⟨t1,⟨_,t2⟩,λq h1 h2=>by have:=f1 q h1;have:=f2 q h2;omega⟩
 have tB:TwoD D0 gb gt b wt.heap.size (hOf .wb) [iqA,iqB] w32 S3 S4 (newS rv0):=⟨t3,⟨_,t4⟩,λq h1 h2=>by have:=f3 q h1;have:=f4 q h2;omega⟩
 have lo12:∀q,S1 q\/S2 q->w4.heap.size<=q:=λq hq=>hq.elim (λh=>by have:=f1 q h;omega) (λh=>by have:=f2 q h;omega)
 have lo34:∀q,S3 q\/S4 q->w4.heap.size<=q:=λq hq=>hq.elim (λh=>by have:=f3 q h;omega) (λh=>by have:=f4 q h;omega)
 have ap:∀q,S1 q\/S2 q->¬(S3 q\/S4 q):=λq h h'=>by
  rcases h with h|h<;>rcases h' with h'|h'
  ·have:=f1 q h;have:=f3 q h';omega
  ·have:=f1 q h;have:=f4 q h';omega
  ·have:=f2 q h;have:=f3 q h';omega
  ·have:=f2 q h;have:=f4 q h';omega
 have gE:∀{wx wy:World} {S T:Fp},Grow w4 wx->(∀q, S q\/T q->w4.heap.size<=q)->Md (λq=> S q\/T q) wx.heap.size wx wy->Txt.Env wy:=λg lo md=>hE.grow (g.trans (md.out.to_below g.size lo))
 refine JoinP.bool (λbb ww=>bb=false/\JJ w4 ga gr gb gt a wr.heap.size b wt.heap.size ww) (λj hj=>?_) ?_
 ·refine login_c .wa λv w198 g198 o198=>?_
  have g0:=gg.then g198
  have z198:=g198.size
  refine lgBoth_c (b:=.wa) (λw' md=>gE g0 lo12 md) (tA.grow g198) o198.rd (λq hq=>⟨λh=>by have:=f1 q h;have:=o198.blk q hq;omega,λh=>by have:=f2 q h;have:=o198.blk q hq;omega⟩) λw200 S1' S2' x' st1 tw1 ft1=>⟨_,rfl,cond_f rfl ?_⟩
  have z200:=st1.size
  have tB:=(tB.grow g198).apart st1 (λq h1 h2=>ap q h2 h1)
  have lt34:∀q,S3 q\/S4 q->q < w32.heap.size:=λq hq=>hq.elim (λh=>by have:=f3 q h;omega) (λh=>by have:=f4 q h;omega)
  have ap':∀q,S1' q\/S2' q->¬(S3 q\/S4 q):=λq h h'=>by
   rcases st1.fp q h with z|z
   ·exact ap q z h'
   ·have:=lt34 q h';omega
  have lo12':∀q,S1' q\/S2' q->w4.heap.size<=q:=λq h=>by
   rcases st1.fp q h with z|z
   ·exact lo12 q z
   ·omega
  have g1':Grow w4 w200:=g0.trans (st1.to_below g0.size lo12)
  refine login_c .wb λv2 w203 g203 o203=>?_
  have g2:=g1'.then g203
  have z203:=g203.size
  refine lgBoth_c (b:=.wb) (λw' md=>gE g2 lo34 md) (tB.grow g203) o203.rd (λq hq=>⟨λh=>by have:=f3 q h;have:=o203.blk q hq;omega,λh=>by have:=f4 q h;have:=o203.blk q hq;omega⟩) λw205 S3' S4' y' st2 tw2 ft2=>⟨_,rfl,hj _ _ ⟨rfl,?_⟩⟩
  exact JJ.right (tw1.grow g203) ft1 ap' lo12' lo34 g2 st2 tw2 ft2
 rintro bb w34 ⟨rfl,J⟩
 refine cond_f rfl ?_
 clear tA tB t1 t2 t3 t4 f1 f2 f3 f4
 refine⟨λ(i:Int) (ww:World)=>∃i':Nat,i=(i':Int)/\i'<=60/\JJ w4 ga gr gb gt a wr.heap.size b wt.heap.size ww,λ(i:Int) (_:World)=>((60:Int) - i).toNat,⟨0,rfl,by omega,J⟩,?_⟩
 clear J
 dsimp only[allR,mapR2,eqN,ltN]
 rintro μ n w37 ⟨⟨i,rfl,hi,J⟩,hμ⟩
 have ln0:sliceLen p0=some l.length:=h0.1.len
 have ln1:sliceLen p1=some m.length:=h1.1.len
 have n0:=s0.1
 have n1:=s1.1
 refine JoinP.bool (λbb ww=>ww=w37/\(bb=true->i < 60)) (λj hj=>⟨_,ln0,cond_intro (λhc=>hj _ _ ⟨rfl,λ_=>by have:=of_decide_eq_true hc;omega⟩) (λhc=>⟨_,ln1,hj _ _ ⟨rfl,λhd=>by have:=of_decide_eq_true hd;omega⟩⟩)⟩) ?_
 rintro bb w39 ⟨rfl,hb⟩
 refine cond_intro (λhbb=>?_) (λ_=>?_)
 ·have hi6:=hb hbb
  refine JoinP.unit (λww=>JJ w4 ga gr gb gt a wr.heap.size b wt.heap.size ww) (λj hj=>?_) ?_
  ·refine JoinP.unit (λww=>JJ w4 ga gr gb gt a wr.heap.size b wt.heap.size ww) (λj' hj'=>?_) ?_
   ·refine⟨_,ln0,cond_intro (λhc=>?_) (λ_=>hj' _ J)⟩
    have hc:i < l.length:=by have:=of_decide_eq_true hc;omega
    obtain⟨S1,S2,x,S3,S4,y,t1,f1,t2,f2,ap,l1,l2,g⟩:=J
    exact sayF_c (R:=Law w) (j:=j') (h0.grow g) hc ((s0.grow h0 g).2 i hc) t1 f1 λw' S1' S2' x' st tw ft=>hj' _ (JJ.left t2 f2 ap l1 l2 g st tw ft)
   ·intro w42 J
    refine⟨_,ln1,cond_intro (λhc=>?_) (λ_=>hj _ J)⟩
    have hc:i < m.length:=by have:=of_decide_eq_true hc;omega
    obtain⟨S1,S2,x,S3,S4,y,t1,f1,t2,f2,ap,l1,l2,g⟩:=J
    exact sayF_c (R:=Law w) (j:=j) (h1.grow g) hc ((s1.grow h1 g).2 i hc) t2 f2 λw' S3' S4' y' st tw ft=>hj _ (JJ.right t1 f1 ap l1 l2 g st tw ft)
  ·intro w40 J
   rw[wi64_id (n:=(i:Int)+1) (by omega) (by omega)]
   exact⟨⟨i+1,by omega,by omega,J⟩,by omega⟩
 ·obtain⟨S1,S2,x,S3,S4,y,t1,f1,t2,f2,ap,l1,l2,g⟩:=J
  exact⟨rfl,g1.then g⟩
end Go.Proofs.YtdinpgnjnleioaaGreatDoor.Rs
