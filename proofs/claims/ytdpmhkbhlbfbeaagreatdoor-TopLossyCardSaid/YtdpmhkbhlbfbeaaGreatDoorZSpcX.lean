/- A part of the proof. -/
import Derived.Test.YtdpmhkbhlbfbeaaGreatDoorZGE
import Derived.Test.YtdpmhkbhlbfbeaaGreatDoorZPutW
import Derived.Laws.MakeOwn
import Derived.Deep.OwnRows
import Derived.Test.YtdpmhkbhlbfbeaaGreatDoorZBX4
set_option linter.unusedSimpArgs false
set_option linter.unusedVariables false
set_option maxRecDepth 100000
namespace Go.Proofs.YtdpmhkbhlbfbeaaGreatDoor
section
open CW RowKit
def bitOf (M:List UInt8) (i:Nat):Bool:=(M.getD (i / 8) 0).toNat.testBit (i % 8)
def has (M:List UInt8) (i:Nat):Bool:=decide (i < 8*M.length)&&bitOf M i
def flipB (M:List UInt8) (i:Nat):List UInt8:=M.set (i / 8) (M.getD (i / 8) 0 ^^^ UInt8.ofNat (2 ^ (i % 8)))
def setB (M:List UInt8) (i:Nat) (s:Bool):List UInt8:=bif has M i==s then M else flipB M i
def turnF (M:List UInt8) (f:Nat):Nat->Bool->List UInt8
 |0,_=>M
 |k+1,s=>setB (turnF M f k s) (f+k) s
def turnM (M:List UInt8) (f n:Nat) (s:Bool):List UInt8:=turnF M f (min n (8*M.length - f)) s
theorem setB_length (M:List UInt8) (i:Nat) (s:Bool):(setB M i s).length=M.length:=by
 unfold setB;cases has M i==s<;>simp [flipB]
theorem turnF_length (M:List UInt8) (f:Nat) (s:Bool):∀k,(turnF M f k s).length=M.length:=by
 intro k
 induction k with
 |zero=>rfl
 |succ k ih=>simp only[turnF,setB_length,ih]
theorem turnM_length (M:List UInt8) (f n:Nat) (s:Bool):(turnM M f n s).length=M.length:=turnF_length _ _ _ _
abbrev rv (g n:Nat):Value:=.slice (some ⟨g,0,none⟩) n n
def RB (w:World) (g:Nat) (M:List UInt8):Prop:=BK w g (M.map b8).toArray tb
abbrev Only (g:Nat) (w w':World):Prop:=Step (λk=>k=g) w w' (λk=>k=g)
theorem RB.at {w:World} {g:Nat} {M:List UInt8} (h:RB w g M) {i:Nat} (hi:i < M.length):w.cell? ⟨g,i,none⟩=some (.int .u8 ((M.getD i 0).toNat:Int)):=by
 rw[BK.at h]
 simp [hi,b8]
theorem rv_at {g n i:Nat} (hi:i < n):sliceAt (rv g n) (i:Int) 1=some ⟨g,i,none⟩:=by
 simp only[sliceAt,Int.toNat_natCast]
 rw[if_pos (by omega),ad0]
 simp
theorem RB.rd {w:World} {g:Nat} {M:List UInt8} (h:RB w g M) (hm:M.length<=maxLen):RdB w (rv g M.length) M:=by
 refine⟨some ⟨g,0,none⟩,M.length,by simp,by simp,hm,(λe=>by cases e),λj u hj=>⟨_,rfl,?_⟩⟩
 rw[BK.cell h]
 simpa using hj
theorem RB.step {w w':World} {g:Nat} {M:List UInt8} {S S':Fp} (h:RB w g M) (st:Step S w w' S') (hn:¬ S g):RB w' g M:=(st.block g h.lt hn).trans h
theorem bit_val:∀(c:Fin 256) (j:Fin 8),(bitsI .and .u8 (Int.fdiv (c.val:Int) ((2:Int) ^ (min j.val 8))) (1:Int)==(1:Int))=c.val.testBit j.val:=by decide+kernel
theorem bit_read (c:UInt8) (i:Nat):(bitsI .and .u8 (Int.fdiv (c.toNat:Int) ((2:Int) ^ (min (Int.toNat (Int.tmod (i:Int) (8:Int))) 8))) (1:Int)==(1:Int))=c.toNat.testBit (i % 8):=by
 have h:Int.toNat (Int.tmod (i:Int) (8:Int))=i % 8:=by
  have:Int.tmod (i:Int) (8:Int)=((i % 8:Nat):Int):=by rw[Int.tmod_eq_emod_of_nonneg (by omega)];omega
  rw[this];rfl
 rw[h]
 exact bit_val ⟨c.toNat,c.toNat_lt⟩ ⟨i % 8,Nat.mod_lt _ (by omega)⟩
theorem one_val:∀j:Fin 8,IntKind.wrap .u8 ((1:Int)*((2:Int) ^ (min j.val 8)))=((UInt8.ofNat (2 ^ j.val)).toNat:Int):=by decide+kernel
theorem bit_turn (c:UInt8) (i:Nat):bitsI .xor .u8 (c.toNat:Int) (IntKind.wrap .u8 ((1:Int)*((2:Int) ^ (min (Int.toNat (Int.tmod (i:Int) (8:Int))) 8))))=((c ^^^ UInt8.ofNat (2 ^ (i % 8))).toNat:Int):=by
 have h:Int.toNat (Int.tmod (i:Int) (8:Int))=i % 8:=by
  have:Int.tmod (i:Int) (8:Int)=((i % 8:Nat):Int):=by rw[Int.tmod_eq_emod_of_nonneg (by omega)];omega
  rw[this];rfl
 rw[h,one_val ⟨i % 8,Nat.mod_lt _ (by omega)⟩,b8_xor]
theorem tdiv8 (i:Nat):IntKind.wrap .i64 (Int.tdiv (i:Int) (8:Int))=((i / 8:Nat):Int)\/¬i < 9223372036854775808:=by
 by_cases h:i < 9223372036854775808
 ·left
  rw[Int.tdiv_eq_ediv_of_nonneg (by omega)]
  rw[wi64_id (by omega) (by omega)]
  omega
 ·exact .inr h
theorem tdiv8' {i:Nat} (h:i < 9223372036854775808):IntKind.wrap .i64 (Int.tdiv (i:Int) (8:Int))=((i / 8:Nat):Int):=(tdiv8 i).resolve_right (λe=>e h)
theorem in_c {w:World} {g n:Nat} {i:Int} (hn:n<=1048576) {R:KV} (k:R (.bool (decide (0<=i/\i < 8*(n:Int)))) w):Zs 230 #[rv g n,.int .i64 i] w R:=by
 apply q8W
 refine JoinP.bool (λb w'=>b=decide (0<=i/\i < 8*(n:Int))/\w'=w) (λj hj=>?_) ?_
 ·refine cond_intro (λh=>⟨n,rfl,hj _ _ ⟨?_,rfl⟩⟩) (λh=>hj _ _ ⟨?_,rfl⟩)
  ·rw[wi64_id (by omega) (by omega)]
   simp at h
   simp [h]
  ·simp at h
   simp;omega
 ·rintro b w' ⟨rfl,rfl⟩;exact k
theorem has_c {w:World} {g:Nat} {M:List UInt8} (h:RB w g M) (hn:M.length<=1048576) {i:Nat} {R:KV} (k:R (.bool (has M i)) w):Zs 217 #[rv g M.length,.int .i64 (i:Int)] w R:=by
 apply q5W
 refine JoinP.bool (λb w'=>b=has M i/\w'=w) (λj hj=>?_) ?_
 ·refine in_c hn ⟨_,rfl,cond_intro (λhb=>?_) (λhb=>hj _ _ ⟨?_,rfl⟩)⟩
  ·simp at hb
   have hi:i < 8*M.length:=by omega
   rw[tdiv8' (by omega)]
   refine⟨_,rv_at (by omega),_,h.at (by omega),leK_intro ?_ (hj _ _ ⟨?_,rfl⟩)⟩
   ·exact Int.tmod_nonneg _ (by omega)
   ·rw[bit_read]
    simp [has,bitOf,hi]
  ·simp at hb
   have:¬i < 8*M.length:=by omega
   simp [has,this]
 ·rintro b w' ⟨rfl,rfl⟩;exact k
theorem flip_step {w:World} {g:Nat} {M:List UInt8} (h:RB w g M) {i:Nat} (hi:i < 8*M.length):
 RB (w.setCell ⟨g,i / 8,none⟩ (.int .u8 (((M.getD (i / 8) 0) ^^^ UInt8.ofNat (2 ^ (i % 8))).toNat:Int))) g (flipB M i):=by
 have:=BK.set h (i / 8) (.int .u8 (((M.getD (i / 8) 0) ^^^ UInt8.ofNat (2 ^ (i % 8))).toNat:Int))
 unfold RB
 have e:(M.map b8).toArray.setIfInBounds (i / 8) (.int .u8 (((M.getD (i / 8) 0) ^^^ UInt8.ofNat (2 ^ (i % 8))).toNat:Int))=((flipB M i).map b8).toArray:=by
  simp [flipB,List.map_set,b8]
 rw[←e];exact this
theorem turn_c {w:World} {g:Nat} {M:List UInt8} (h:RB w g M) (hn:M.length<=1048576) {f n:Nat} {s:Bool} (hf:f<=8388608) (hn2:n<=8388608) {R:KV}
 (k:∀(c:Int) w',Only g w w'->RB w' g (turnM M f n s)->R (.int .i64 c) w'):Zs 204 #[rv g M.length,.int .i64 (f:Int),.int .i64 (n:Int),.bool s] w R:=by
 apply q9W
 have e8:IntKind.wrap .i64 ((8:Int)*((M.length:Nat):Int))=((8*M.length:Nat):Int):=by rw[wi64_id (by omega) (by omega)];omega
 refine JoinP.bool (λb w'=>b=decide (8*M.length<=f)/\w'=w) (λj hj=>?_) ?_
 ·refine cond_f (by simp) (cond_f (by simp) ⟨_,rfl,hj _ _ ⟨?_,rfl⟩⟩)
  rw[e8,decide_eq_decide];omega
 rintro b w' ⟨rfl,rfl⟩
 refine cond_intro (λhb=>?_) (λhb=>?_)
 ·simp at hb
  refine k 0 _ (Step.refl _ _) ?_
  unfold turnM
  have:min n (8*M.length - f)=0:=by omega
  rw[this];exact h
 ·simp at hb
  have eb:IntKind.wrap .i64 ((f:Int)+(if(IntKind.wrap .i64 ((IntKind.wrap .i64 ((8:Int)*((M.length:Nat):Int))) - (f:Int))) < (n:Int)then(IntKind.wrap .i64 ((IntKind.wrap .i64 ((8:Int)*((M.length:Nat):Int))) - (f:Int)))else(n:Int)))=((f+min n (8*M.length - f):Nat):Int):=by
   rw[e8,wi64_id (n:=((8*M.length:Nat):Int) - (f:Int)) (by omega) (by omega)]
   split<;>(rw[wi64_id (by omega) (by omega)];omega)
  generalize hK:min n (8*M.length - f)=K at *
  refine⟨λ(n3 n4:Int) (w5:World)=>∃j:Nat,j<=K/\n4=((f+j:Nat):Int)/\Only g w' w5/\RB w5 g (turnF M f j s),λ(n3 n4:Int) (_:World)=>(((f+K:Nat):Int) - n4).toNat,⟨0,Nat.zero_le _,rfl,Step.refl _ _,h⟩,?_⟩
  dsimp only[allR,mapR2,eqN,ltN]
  rintro m n3 n4 w5 ⟨⟨j,hj,rfl,st,hr⟩,hm⟩
  refine⟨_,rfl,?_⟩
  rw[eb]
  have hlen:=turnF_length M f s j
  refine cond_intro (λhlt=>?_) (λhge=>?_)
  ·simp at hlt
   have hin:f+j < 8*M.length:=by omega
   refine JoinP.int (λ_ w8=>Only g w' w8/\RB w8 g (turnF M f (j+1) s)) (λjn hjn=>?_) ?_
   ·have hh:=has_c (i:=f+j) hr (by rw[hlen];exact hn) (R:=λv w=>∃(b12:Bool),v= .bool b12/\(cond (!(b12==s)) (bindW (World.drew w) λw13=>∃(a14:Addr),((Go.CW.sliceAt (rv g M.length) (IntKind.wrap .i64 (Int.tdiv ((f+j:Nat):Int) (8:Int))) 1)=(some a14))/\∃(n15:Int),((Go.World.cell? w13 a14)=(some (.int .u8 n15)))/\leK (Int.tmod ((f+j:Nat):Int) (8:Int)) (∃(a16:Addr),((Go.CW.sliceAt (rv g M.length) (IntKind.wrap .i64 (Int.tdiv ((f+j:Nat):Int) (8:Int))) 1)=(some a16))/\bindW (World.drew w) λw17=>(St1 w17 a16)/\bindW (World.setCell w17 a16 (.int .u8 (bitsI .xor .u8 n15 (IntKind.wrap .u8 ((1:Int)*((2:Int) ^ (min (Int.toNat (Int.tmod ((f+j:Nat):Int) (8:Int))) 8))))))) λw18=>bindW (World.setCell w17 a16 (.int .u8 (bitsI .xor .u8 n15 (IntKind.wrap .u8 ((1:Int)*((2:Int) ^ (min (Int.toNat (Int.tmod ((f+j:Nat):Int) (8:Int))) 8))))))) λw19=>jn (IntKind.wrap .i64 (n3+(1:Int))) w19)) (jn n3 w))) ?_
    ·rw[hlen]at hh;exact hh
    ·refine⟨_,rfl,cond_intro (λhb2=>?_) (λhb2=>?_)⟩
     ·refine nm λw13 e13=>?_
      have r13:RB w13 g (turnF M f j s):=by rw[e13];exact hr
      rw[tdiv8' (by omega)]
      refine⟨_,rv_at (by omega),_,r13.at (by rw[hlen];omega),leK_intro (Int.tmod_nonneg _ (by omega)) ⟨_,rv_at (by omega),?_⟩⟩
      refine nm λw17 e17=>?_
      have r17:RB w17 g (turnF M f j s):=by rw[e17];exact hr
      have hlt17:(f+j) / 8 < ((turnF M f j s).map b8).toArray.size:=by simp [hlen];omega
      refine⟨BK.st1 r17 hlt17,nm λw18 e18=>nm λw19 e19=>hjn _ _ ⟨?_,?_⟩⟩
      ·rw[e19,e17]
       exact(st.then (Step.of_grow (Grow.dr (Grow.refl _)))).then (Step.set _ _ _ _ rfl)
      ·rw[e19,bit_turn]
       have:=flip_step r17 (i:=f+j) (by rw[hlen];exact hin)
       have hne:(has (turnF M f j s) (f+j)==s)=false:=by simpa using hb2
       simp only[turnF,setB,hne,cond_false]
       exact this
     ·refine hjn _ _ ⟨st,?_⟩
      have he:(has (turnF M f j s) (f+j)==s)=true:=by simpa using hb2
      simp only[turnF,setB,he,cond_true]
      exact hr
   ·rintro n7 w8 ⟨st8,hr8⟩
    rw[wi64_id (n:=((f+j:Nat):Int)+1) (by omega) (by omega)]
    refine⟨⟨j+1,by omega,by omega,st8,hr8⟩,?_⟩
    omega
  ·simp at hge
   have:j=K:=by omega
   subst this
   refine k _ _ st ?_
   unfold turnM
   rw[hK];exact hr
end
section
open CW RowKit
theorem JoinP.go {rs:List Rep} {rest:FunR rs} {body:FunR rs->Prop} (h:body rest):JoinP rs rest body:=h
abbrev tSp:TypeId:=134
structure SpAt (w:World) (b g1 g2 N:Nat) (D M:List UInt8):Prop where
 obj:BK w b #[.int .i64 (N:Int),rv g1 D.length,rv g2 M.length] tSp
 dat:RB w g1 D
 map:RB w g2 M
 hD:D.length=8*N
 hM:M.length=(N+7) / 8
 pos:1<=N
 most:N<=1024
 n1:b≠g1
 n2:b≠g2
 n3:g1≠g2
abbrev FSp (g1 g2:Nat):Fp:=λk=>k=g1\/k=g2
theorem SpAt.step {w w':World} {b g1 g2 N:Nat} {D M:List UInt8} {S S':Fp} (h:SpAt w b g1 g2 N D M) (st:Step S w w' S') (hb:¬ S b) (h1:¬ S g1) (h2:¬ S g2):SpAt w' b g1 g2 N D M:=
 ⟨(st.block b h.obj.lt hb).trans h.obj,h.dat.step st h1,h.map.step st h2,h.hD,h.hM,h.pos,h.most,h.n1,h.n2,h.n3⟩
theorem SpAt.grow {w w':World} {b g1 g2 N:Nat} {D M:List UInt8} (h:SpAt w b g1 g2 N D M) (g:Grow w w'):SpAt w' b g1 g2 N D M:=
 ⟨h.obj.grow g,BK.grow h.dat g,BK.grow h.map g,h.hD,h.hM,h.pos,h.most,h.n1,h.n2,h.n3⟩
theorem SpAt.mlen {w:World} {b g1 g2 N:Nat} {D M:List UInt8} (h:SpAt w b g1 g2 N D M):M.length<=128:=by have:=h.hM;have:=h.most;omega
theorem row_made {t:TypeId} (ht:Tryz.prog.underlying t=some (.slice tb)) {w:World} (n:Nat) (hn:n<=1099511627776):
 (Instr.makeSlice t (.int .i64 (n:Int)) (.int .i64 (n:Int))).run Tryz.prog w= .ok (rv w.heap.size n) (w.alloc (.cells ((List.replicate n (0:UInt8)).map b8).toArray tb)):=by
 have h:=run_make_row' (P:=Tryz.prog) t tb (.int .u8 0) 1 ht (by kernel_rfl) rfl .i64 .i64 n (by omega) (by omega) w
 have e:madeCells #[Value.int .u8 0] n=((List.replicate n (0:UInt8)).map b8).toArray:=by
  apply Array.ext'
  rw[madeCells_one,List.map_replicate]
  rfl
 rw[e]at h
 exact h
theorem RB.new {w:World} (n:Nat):RB (w.alloc (.cells ((List.replicate n (0:UInt8)).map b8).toArray tb)) w.heap.size (List.replicate n 0):=BK.new w _ _
theorem bitsNew_c {w:World} {N:Nat} (h1:1<=N) (h2:N<=1024) {R:KV} (k:R (rv w.heap.size ((N+7) / 8)) (w.alloc (.cells ((List.replicate ((N+7) / 8) (0:UInt8)).map b8).toArray tb))):
 Zs 63 #[.int .i64 (N:Int)] w R:=by
 apply q10W
 have e:IntKind.wrap .i64 (Int.tdiv (IntKind.wrap .i64 ((N:Int)+(7:Int))) (8:Int))=(((N+7) / 8:Nat):Int):=by
  rw[wi64_id (n:=(N:Int)+7) (by omega) (by omega),Int.tdiv_eq_ediv_of_nonneg (by omega),wi64_id (by omega) (by omega)]
  omega
 refine JoinP.go (cond_f (by simp;omega) (cond_f (by simp;omega) ?_))
 rw[e]
 exact⟨_,_,row_made (by kernel_rfl) _ (by omega),k⟩
theorem spaceNew_c {w:World} {N:Nat} (h1:1<=N) (h2:N<=1024) {R:KV}
 (k:∀b g1 g2 w',Grow w w'->w.heap.size<=b->w.heap.size<=g1->w.heap.size<=g2->SpAt w' b g1 g2 N (List.replicate (8*N) 0) (List.replicate ((N+7) / 8) 0)->R (.tuple #[zA b,.int .i64 (0:Int)]) w'):
 Zs 34 #[.int .i64 (N:Int)] w R:=by
 apply q137W
 have e:IntKind.wrap .i64 ((N:Int)*(8:Int))=((8*N:Nat):Int):=by rw[wi64_id (by omega) (by omega)];omega
 refine JoinP.go (cond_f (by simp;omega) (cond_f (by simp;omega) (JoinP.go ?_)))
 refine nm λw6 e6=>nm λw7 e7=>?_
 have g7:Grow w w7:=drE e7
 rw[e]
 have hrep:(List.replicate (8*N) (0:UInt8)).length=8*N:=by simp
 have hrep2:(List.replicate ((N+7) / 8) (0:UInt8)).length=(N+7) / 8:=by simp
 refine⟨⟨_,_,row_made (by kernel_rfl) _ (by omega),?_⟩,?_⟩
 ·refine bitsNew_c h1 h2 ?_
  refine nm λw12 e12=>nm λw13 e13=>?_
  obtain⟨bk,gr,sz⟩:=alE (e13.trans e12)
  have ga:=Grow.al (Grow.refl w7) (.cells ((List.replicate (8*N) (0:UInt8)).map b8).toArray tb)
  generalize hwa:w7.alloc (.cells ((List.replicate (8*N) (0:UInt8)).map b8).toArray tb)=wa at *
  have r1:RB wa w7.heap.size (List.replicate (8*N) 0):=by rw[←hwa];exact RB.new _
  have s1:wa.heap.size=w7.heap.size+1:=by rw[←hwa];simp
  have gb:=Grow.al (Grow.refl wa) (.cells ((List.replicate ((N+7) / 8) (0:UInt8)).map b8).toArray tb)
  generalize hwb:wa.alloc (.cells ((List.replicate ((N+7) / 8) (0:UInt8)).map b8).toArray tb)=wb at *
  have r2:RB wb wa.heap.size (List.replicate ((N+7) / 8) 0):=by rw[←hwb];exact RB.new _
  have s2:wb.heap.size=wa.heap.size+1:=by rw[←hwb];simp
  have:=g7.size
  exact k _ _ _ _ (((g7.then ga).then gb).then gr) (by omega) (by omega) (by omega) ⟨by rw[hrep,hrep2];exact bk,BK.grow (BK.grow r1 gb) gr,BK.grow r2 gr,hrep,hrep2,h1,h2,by omega,by omega,by omega⟩
 ·refine bitsNew_c h1 h2 ⟨_,_,row_made (by kernel_rfl) _ (by omega),?_⟩
  refine nm λw12 e12=>nm λw13 e13=>?_
  obtain⟨bk,gr,sz⟩:=alE (e13.trans e12)
  have ga:=Grow.al (Grow.refl w7) (.cells ((List.replicate ((N+7) / 8) (0:UInt8)).map b8).toArray tb)
  generalize hwa:w7.alloc (.cells ((List.replicate ((N+7) / 8) (0:UInt8)).map b8).toArray tb)=wa at *
  have r1:RB wa w7.heap.size (List.replicate ((N+7) / 8) 0):=by rw[←hwa];exact RB.new _
  have s1:wa.heap.size=w7.heap.size+1:=by rw[←hwa];simp
  have gb:=Grow.al (Grow.refl wa) (.cells ((List.replicate (8*N) (0:UInt8)).map b8).toArray tb)
  generalize hwb:wa.alloc (.cells ((List.replicate (8*N) (0:UInt8)).map b8).toArray tb)=wb at *
  have r2:RB wb wa.heap.size (List.replicate (8*N) 0):=by rw[←hwb];exact RB.new _
  have s2:wb.heap.size=wa.heap.size+1:=by rw[←hwb];simp
  have:=g7.size
  exact k _ _ _ _ (((g7.then ga).then gb).then gr) (by omega) (by omega) (by omega) ⟨by rw[hrep,hrep2];exact bk,BK.grow r2 gr,BK.grow (BK.grow r1 gb) gr,hrep,hrep2,h1,h2,by omega,by omega,by omega⟩
theorem In_c {w:World} {b g1 g2 N:Nat} {D M:List UInt8} (h:SpAt w b g1 g2 N D M) {at_ n:Nat} (ha:at_<=1000000) {R:KV} (k:R (.bool (decide (n<=32/\at_+n<=N))) w):
 Zs 147 #[zA b,.int .i64 (at_:Int),.int .i64 (n:Int)] w R:=by
 apply q139W
 have hN:=h.most
 refine JoinP.go (cond_t (by simp) (cond_intro (λq1=>cond_t (by simp) ?_) (λq1=>?_)))
 ·simp at q1
  refine withAddr_some ⟨_,by rw[h.obj.cell];rfl,cond_intro (λq2=>withAddr_some ⟨_,by rw[h.obj.cell];rfl,?_⟩) (λq2=>?_)⟩
  ·simp at q2
   rw[wi64_id (by omega) (by omega)]
   have e:decide ((n:Int)<=(N:Int) - (at_:Int))=decide (n<=32/\at_+n<=N):=by rw[decide_eq_decide];omega
   show R (.bool (decide ((n:Int)<=(N:Int) - (at_:Int)))) w
   rw[e];exact k
  ·simp at q2
   have e:decide (n<=32/\at_+n<=N)=false:=by rw[decide_eq_false_iff_not];omega
   rw[e]at k;exact k
 ·simp at q1
  have e:decide (n<=32/\at_+n<=N)=false:=by rw[decide_eq_false_iff_not];omega
  rw[e]at k;exact k
def partV (g N at_ n:Nat):Value:=.slice (if 8*N=8*at_ then some ⟨g,0,none⟩else some ⟨g,8*at_,none⟩) (8*n) (8*N - 8*at_)
theorem part_c {w:World} {b g1 g2 N:Nat} {D M:List UInt8} (h:SpAt w b g1 g2 N D M) {at_ n:Nat} (hn:at_+n<=N) {R:KV} (k:R (partV g1 N at_ n) w):
 Zs 188 #[zA b,.int .i64 (at_:Int),.int .i64 (n:Int)] w R:=by
 apply q143W
 have hN:=h.most
 refine withAddr_some ⟨rv g1 D.length,by rw[h.obj.cell];rfl,_,?_,k⟩
 rw[wi64_id (n:=(at_:Int)*8) (by omega) (by omega),wi64_id (n:=(at_:Int)+(n:Int)) (by omega) (by omega),wi64_id (n:=((at_:Int)+(n:Int))*8) (by omega) (by omega)]
 have hb:boundsOf D.length D.length (some (.int .i64 ((at_:Int)*8))) (some (.int .i64 (((at_:Int)+(n:Int))*8))) none=some (8*at_,8*at_+8*n,D.length):=by
  rw[bounds_ii (by omega) (by omega) (by rw[h.hD];omega)]
  simp;omega
 simp only[subSlice,hb,partV,Option.map_some,ad0]
 rw[h.hD]
 congr 2
 ·split<;>simp
 ·omega
theorem part_rd {w:World} {b g1 g2 N:Nat} {D M:List UInt8} (h:SpAt w b g1 g2 N D M) {at_ n:Nat} (hn:at_+n<=N):RdB w (partV g1 N at_ n) ((D.drop (8*at_)).take (8*n)):=by
 have hN:=h.most
 have hD:=h.hD
 have hl:((D.drop (8*at_)).take (8*n)).length=8*n:=by simp;omega
 unfold partV
 refine⟨if 8*N=8*at_ then some ⟨g1,0,none⟩else some ⟨g1,8*at_,none⟩,8*N - 8*at_,by rw[List.length_map,hl],by rw[List.length_map,hl];omega,by simp only[maxLen];omega,λe=>(by split at e<;>cases e),λj u hj=>?_⟩
 have hjl:j < 8*n:=by have:=(List.getElem?_eq_some_iff.1 hj).1;rw[List.length_map,hl]at this;exact this
 rw[if_neg (by omega)]
 refine⟨_,rfl,?_⟩
 have e:(Addr.add ⟨g1,8*at_,none⟩ j)=⟨g1,8*at_+j,none⟩:=by
  unfold Addr.add;split
  ·next e=>subst e;rfl
  ·rfl
 rw[e,BK.at h.dat]
 rw[List.getElem?_map,List.getElem?_take,if_pos hjl,List.getElem?_drop]at hj
 simpa using hj
def layB (D:List UInt8) (o:Nat) (bs:List UInt8):List UInt8:=D.take o++bs++D.drop (o+bs.length)
theorem layB_length {D bs:List UInt8} {o:Nat} (h:o+bs.length<=D.length):(layB D o bs).length=D.length:=by
 simp [layB];omega
theorem lay_step {w:World} {g:Nat} {D bs:List UInt8} (h:RB w g D) {o:Nat} (hl:o+bs.length<=D.length):
 RB (w.setCells g o (bs.map b8)) g (layB D o bs)/\Only g w (w.setCells g o (bs.map b8)):=by
 refine⟨?_,?_⟩
 ·have:=setCells_set (bs.map b8) o w _ h (by simpa using hl)
  unfold RB
  have e:(((D.map b8).toArray.toList.take o++bs.map b8++(D.map b8).toArray.toList.drop (o+(bs.map b8).length))).toArray=((layB D o bs).map b8).toArray:=by
   simp [layB,List.map_take,List.map_drop]
  rw[←e];exact this
 ·exact Step.row (S :=λk=>k=g) w ⟨g,o,none⟩ (bs.map b8).toArray rfl
theorem copy_part {w:World} {b g1 g2 N:Nat} {D M:List UInt8} (h:SpAt w b g1 g2 N D M) {at_ n:Nat} (hn:at_+n<=N) {v:Value} {bs:List UInt8} (hv:RdB w v bs) {tx:TypeId}:
 ∃w',(Builtin.copy_ #[tB,tx] 3 #[partV g1 N at_ n,v]).run Tryz.prog w= .ok (.int .i64 ((min (8*n) bs.length:Nat):Int)) w'/\Only g1 w w'/\SpAt w' b g1 g2 N (layB D (8*at_) (bs.take (8*n))) M:=by
 obtain⟨a,cap,rfl,q1,q2,q3,q4⟩:=hv
 have hN:=h.most
 have hD:=h.hD
 rw[List.length_map]at q1 ⊢
 have hu:Tryz.prog.underlying tB=some (.slice tb):=by kernel_rfl
 have hs:(Tryz.prog.info? tb).map (·.size)=some 1:=by kernel_rfl
 by_cases h0:min (8*n) bs.length=0
 ·have hr:=run_copy_none (P:=Tryz.prog) w tB tx 3 tb (if 8*N=8*at_ then some ⟨g1,0,none⟩else some ⟨g1,8*at_,none⟩) a (8*n) (8*N - 8*at_) bs.length cap hu hs (by show min _ _=0;omega)
  refine⟨w,?_,Step.refl _ _,?_⟩
  ·rw[h0];exact hr
  ·have hb:bs.take (8*n)=[]:=by
    apply List.eq_nil_of_length_eq_zero;rw[List.length_take];omega
   rw[hb]
   have:layB D (8*at_) []=D:=by simp [layB]
   rw[this];exact h
 ·cases a with
  |none=>have:=q3 rfl;omega
  |some a=>
   have hlt:¬(8*N=8*at_):=by omega
   have hcl:(((bs.take (8*n)).map b8)).length=Nat.min bs.length (8*n):=by rw[List.length_map,List.length_take];show min _ _=min _ _;omega
   have hr:=run_copy_cells (P:=Tryz.prog) w tB tx 3 tb g1 (8*at_) (8*n) (8*N - 8*at_) a bs.length cap ((bs.take (8*n)).map b8) hu hs hcl
    (λj u hj=>by
     rw[List.map_take,List.getElem?_take]at hj
     split at hj
     ·obtain⟨x,hx,hc⟩:=q4 j u hj;cases hx;exact hc
     ·cases hj)
    (λj hj=>by
     have hj':j < 8*n:=by rw[List.length_map,List.length_take]at hj;omega
     rw[BK.at h.dat];simp;omega)
    (λj _=>BK.thaw h.dat _) (λu hu=>by obtain⟨c,_,rfl⟩:=List.mem_map.1 hu;rfl)
   have hle:8*at_+(bs.take (8*n)).length<=D.length:=by rw[List.length_take];omega
   obtain⟨s1,s2⟩:=lay_step h.dat hle
   refine⟨_,?_,s2,⟨?_,s1,?_,by rw[layB_length hle];exact hD,h.hM,h.pos,h.most,h.n1,h.n2,h.n3⟩⟩
   ·unfold partV
    rw[if_neg hlt,hr]
    have:(((bs.take (8*n)).map b8)).length=min (8*n) bs.length:=by rw[List.length_map,List.length_take]
    rw[this];rfl
   ·rw[layB_length hle]
    exact(s2.block b h.obj.lt h.n1).trans h.obj
   ·exact h.map.step s2 (λe=>h.n3 e.symm)
theorem SpAt.turned {w w':World} {b g1 g2 N:Nat} {D M M':List UInt8} (h:SpAt w b g1 g2 N D M) (st:Only g2 w w') (hm:RB w' g2 M') (hl:M'.length=M.length):SpAt w' b g1 g2 N D M':=
 ⟨by rw[hl];exact(st.block b h.obj.lt h.n2).trans h.obj,h.dat.step st h.n3,hm,h.hD,hl.trans h.hM,h.pos,h.most,h.n1,h.n2,h.n3⟩
theorem set_c {w:World} {g:Nat} {M:List UInt8} (h:RB w g M) (hn:M.length<=1048576) {f n:Nat} (hf:f<=8388608) (hn2:n<=8388608) {R:KV} (k:∀(c:Int) w',Only g w w'->RB w' g (turnM M f n true)->R (.int .i64 c) w'):
 Zs 189 #[rv g M.length,.int .i64 (f:Int),.int .i64 (n:Int)] w R:=by
 apply q6W
 exact turn_c h hn hf hn2 λc w' st hr=>⟨_,rfl,k c w' st hr⟩
theorem unset_c {w:World} {g:Nat} {M:List UInt8} (h:RB w g M) (hn:M.length<=1048576) {f n:Nat} (hf:f<=8388608) (hn2:n<=8388608) {R:KV} (k:∀(c:Int) w',Only g w w'->RB w' g (turnM M f n false)->R (.int .i64 c) w'):
 Zs 190 #[rv g M.length,.int .i64 (f:Int),.int .i64 (n:Int)] w R:=by
 apply q7W
 exact turn_c h hn hf hn2 λc w' st hr=>⟨_,rfl,k c w' st hr⟩
theorem Only.two {g1 g2:Nat} {w w1 w2:World} (a:Only g1 w w1) (b:Only g2 w1 w2):Step (FSp g1 g2) w w2 (FSp g1 g2):=
 (a.imp (T:=FSp g1 g2) (T':=FSp g1 g2) (λk h=>.inl h) (λk h=>.inl h)).then (b.imp (T:=FSp g1 g2) (T':=FSp g1 g2) (λk h=>.inr h) (λk h=>.inl h))
theorem write_c {w:World} {b g1 g2 N:Nat} {D M:List UInt8} (h:SpAt w b g1 g2 N D M) {at_ n:Nat} {v:Value} {bs:List UInt8} (hv:RdB w v bs) (hl:bs.length=8*n) (ha:at_<=1000000) {R:KV}
 (bad:¬(n<=32/\at_+n<=N)->R (.int .i64 (1:Int)) w)
 (k:n<=32->at_+n<=N->∀w',Step (FSp g1 g2) w w' (FSp g1 g2)->SpAt w' b g1 g2 N (layB D (8*at_) bs) (turnM M at_ n true)->R (.int .i64 (0:Int)) w'):
 Zs 149 #[zA b,.int .i64 (at_:Int),v] w R:=by
 apply q142W
 have hle:=hv.le
 rw[List.length_map]at hle
 have hlen:=RdB.len hv
 have e1:IntKind.wrap .i64 (Int.tdiv ((bs.length:Nat):Int) (8:Int))=(n:Int):=by
  rw[Int.tdiv_eq_ediv_of_nonneg (by omega),wi64_id (by omega) (by omega)];omega
 refine⟨_,hlen,?_⟩
 rw[e1]
 refine JoinP.bool (λq w'=>q= !(decide (n<=32/\at_+n<=N))/\w'=w) (λj hj=>⟨_,hlen,cond_f ?_ (In_c h ha ⟨_,rfl,hj _ _ ⟨rfl,rfl⟩⟩)⟩) ?_
 ·rw[Int.tmod_eq_emod_of_nonneg (by omega)]
  have:((bs.length:Nat):Int) % 8=0:=by omega
  rw[this];rfl
 rintro q w' ⟨rfl,rfl⟩
 refine cond_intro (λhq=>bad (λhc=>by rw[decide_eq_true hc]at hq;cases hq)) (λhq=>?_)
 have hq':n<=32/\at_+n<=N:=by simpa using hq
 refine part_c h hq'.2 ?_
 obtain⟨w6,hc,st,sp⟩:=copy_part h hq'.2 hv (tx:=tB)
 refine⟨_,w6,hc,withAddr_some ⟨_,by rw[sp.obj.cell];rfl,?_⟩⟩
 have hN:=h.most
 refine set_c sp.map (by have:=sp.mlen;omega) (by omega) (by omega) λc w10 st2 hm=>⟨_,rfl,?_⟩
 refine k hq'.1 hq'.2 w10 (st.two st2) ?_
 have ht:bs.take (8*n)=bs:=List.take_of_length_le (by omega)
 rw[ht]at sp
 exact sp.turned st2 hm (turnM_length _ _ _ _)
theorem clear_run {w:World} {g o n cap:Nat} {D:List UInt8} (h:RB w g D) (hl:o+n<=D.length):(Builtin.clear_ #[tB] 0 #[.slice (some ⟨g,o,none⟩) n cap]).run Tryz.prog w= .ok undef (w.setCells g o ((List.replicate n (0:UInt8)).map b8)):=by
 have hu:Tryz.prog.underlying tB=some (.slice tb):=by kernel_rfl
 have hz:(Tryz.prog.info? tb).bind (·.zero)=some (.int .u8 0):=by kernel_rfl
 obtain⟨info,hi,hzz⟩:∃info,Tryz.prog.info? tb=some info/\info.zero=some (.int .u8 0):=by
  cases hi:Tryz.prog.info? tb with
  |none=>rw[hi]at hz;cases hz
  |some info=>rw[hi]at hz;exact⟨info,rfl,hz⟩
 have hst:=run_storeCells_cells (P:=Tryz.prog) g o ((List.replicate n (0:UInt8)).map b8) 0 w (λj hj=>by rw[BK.at h];simp at hj ⊢;omega) (λj _=>BK.thaw h _) (λu hu=>by obtain⟨c,_,rfl⟩:=List.mem_map.1 hu;rfl)
 simp only[Nat.add_zero,List.map_replicate]at hst
 have hzc:(Builtin.zeroCells (Value.int .u8 0).cells n).toList=List.replicate n (b8 0):=by
  have:=madeCells_one (.int .u8 0) n
  show((Array.range (n*1)).map _).toList=_
  rw[Nat.mul_one]
  exact this
 rw[List.map_replicate]
 cases n with
 |zero=>simp [Builtin.clear_,run_underlying hu,undef,World.setCells]
 |succ n=>simp [Builtin.clear_,run_underlying hu,zeroValue,typeInfo,hi,hzz,hzc,hst,undef]
theorem unmap_c {w:World} {b g1 g2 N:Nat} {D M:List UInt8} (h:SpAt w b g1 g2 N D M) {at_ n:Nat} (ha:at_<=1000000) {R:KV}
 (bad:¬(n<=32/\at_+n<=N)->R (.int .i64 (1:Int)) w)
 (k:n<=32->at_+n<=N->∀w',Step (FSp g1 g2) w w' (FSp g1 g2)->SpAt w' b g1 g2 N (layB D (8*at_) (List.replicate (8*n) 0)) (turnM M at_ n false)->R (.int .i64 (0:Int)) w'):
 Zs 150 #[zA b,.int .i64 (at_:Int),.int .i64 (n:Int)] w R:=by
 apply q141W
 refine In_c h ha ⟨_,rfl,cond_intro (λhq=>bad (λhc=>by rw[decide_eq_true hc]at hq;cases hq)) (λhq=>?_)⟩
 have hq':n<=32/\at_+n<=N:=by simpa using hq
 refine part_c h hq'.2 ?_
 have hN:=h.most
 have hD:=h.hD
 obtain⟨w6,hc,st,sp⟩:∃w6,(Builtin.clear_ #[tB] 0 #[partV g1 N at_ n]).run Tryz.prog w= .ok undef w6/\Only g1 w w6/\SpAt w6 b g1 g2 N (layB D (8*at_) (List.replicate (8*n) 0)) M:=by
  have hle:8*at_+(List.replicate (8*n) (0:UInt8)).length<=D.length:=by simp;omega
  obtain⟨s1,s2⟩:=lay_step h.dat hle
  by_cases h0:n=0
  ·subst h0
   refine⟨w,?_,Step.refl _ _,?_⟩
   ·unfold partV
    have hu:Tryz.prog.underlying tB=some (.slice tb):=by kernel_rfl
    split<;>simp [Builtin.clear_,run_underlying hu,undef]
   ·have:layB D (8*at_) (List.replicate (8*0) 0)=D:=by simp [layB]
    rw[this];exact h
  ·refine⟨_,?_,s2,⟨?_,s1,h.map.step s2 (λe=>h.n3 e.symm),by rw[layB_length hle];exact hD,h.hM,h.pos,h.most,h.n1,h.n2,h.n3⟩⟩
   ·unfold partV
    rw[if_neg (by omega)]
    exact clear_run h.dat (by omega)
   ·rw[layB_length hle];exact(s2.block b h.obj.lt h.n1).trans h.obj
 refine⟨_,w6,hc,withAddr_some ⟨_,by rw[sp.obj.cell];rfl,?_⟩⟩
 refine unset_c sp.map (by have:=sp.mlen;omega) (by omega) (by omega) λc w10 st2 hm=>⟨_,rfl,?_⟩
 exact k hq'.1 hq'.2 w10 (st.two st2) (sp.turned st2 hm (turnM_length _ _ _ _))
end
section
open CW RowKit
theorem RdB.from {w:World} {v:Value} {bs:List UInt8} {n:Nat} (h:RdB w v bs) (hn:n<=bs.length):∃v',subSlice v 1 (some (.int .i64 (n:Int))) none none=some v'/\RdB w v' (bs.drop n):=by
 obtain⟨v',h1,h2,_⟩:=Rd.sub h (lo:=some (.int .i64 (n:Int))) (hi:=none) (l:=n) (r:=bs.length) (λcap hc=>by rw[bounds_in (by omega) (by simp;omega)];simp) (by omega) (by simp)
 refine⟨v',h1,?_⟩
 have e:List.take (bs.length - n) (List.drop n (bs.map b8))=(bs.drop n).map b8:=by
  rw[List.take_of_length_le (by simp),List.map_drop]
 rw[e]at h2
 exact h2
def part (D:List UInt8) (r:Nat×Nat):List UInt8:=(D.drop (8*r.1)).take (8*r.2)
theorem part_length {N:Nat} {D:List UInt8} (hD:D.length=8*N) {r:Nat×Nat} (h:r.1+r.2<=N):(part D r).length=8*r.2:=by
 simp [part];omega
end
end Go.Proofs.YtdpmhkbhlbfbeaaGreatDoor
