/- A part of the proof. -/
import Derived.Shelf.Small.Strs
import Derived.Shelf.Utf8.RuneCount
import Derived.Shelf.Strconv.Itoa0
import Derived.Shelf.Strconv.Itoa1
import Derived.Shelf.LaysM
import Derived.Shelf.Strconv.Itoa2
import Derived.Shelf.Strconv.Itoa3
import Derived.Shelf.Strings.Search1
import Derived.Shelf.Strings.Search2
import Derived.Shelf.Strings.Search3
import Derived.Shelf.Strings.Cut
import Derived.Shelf.Strings.Count
import Derived.Shelf.Strings.Shaped
import Derived.Shelf.Strings.Split
import Derived.Shelf.Strings.SplitShaped
import Derived.Shelf.Unicode.Decode
import Derived.Shelf.Strings.RuneCount
import Derived.Shelf.Strings.Explode
import Derived.Shelf.Unicode.DecodeSlow
import Derived.Shelf.Unicode.DecodeAny
import Derived.Ground.Names2Prog
import Derived.Shelf.Slices.Clone
import Derived.Ground.SlgnProg
import Derived.Shelf.SlicesE.Clone
import Derived.Test.YtdpmhkbhlbfbeaaGreatDoorProg
import Derived.Test.YtdpmhkbhlbfbeaaGreatDoorZBX3
import Derived.Lib.ItoaNum
import Derived.Lib.ItoaMem
import Derived.Lib.AppendIntMem
import Derived.Lib.ItoaLen
set_option linter.unusedSimpArgs false
set_option linter.unusedVariables false
set_option maxRecDepth 100000
namespace Go.Proofs
open Go.Shelf
def Tryz.lays137_ren:Go.Shelf.Ren:=⟨λ|137=>120|217=>163|266=>193|n=>n,λ|9=>9|5=>5|3=>3|n=>n,λ|n=>n⟩
theorem Tryz.lays137:Go.Proofs.Lays.n137 Tryz.prog Tryz.lays137_ren:={
 mixed:=by kernel_rfl
 f137:=Tryz.func120.trans (congrArg some (by kernel_rfl))
 f217:=Tryz.func163.trans (congrArg some (by kernel_rfl))
 f266:=Tryz.func193.trans (congrArg some (by kernel_rfl))
 t3:=Tryz.underlying3
 a3:=Tryz.isAgg3
 z3:=Tryz.sizeOf3
 v3:=Tryz.zeroValue3
 t5:=Tryz.underlying5
 a5:=Tryz.isAgg5
 z5:=Tryz.sizeOf5
 v5:=Tryz.zeroValue5
 t9:=Tryz.underlying9
 a9:=Tryz.isAgg9
 z9:=Tryz.sizeOf9
 v9:=Tryz.zeroValue9}
open Go.RowKit in
theorem Tryz.strings_IndexByte (s:ByteArray) (c:Int) (w:World):
 Calls Tryz.prog 120 #[.string s,.int .u8 c] w λe w'=>e= .returned (.int .i64 (Lib.indexByte s.data.toList c.toNat.toUInt8))/\w'=w:=Any.strings_IndexByte Tryz.lays137 s c w
def Tryz.laysM246_ren:Go.Shelf.Ren:=⟨λ|246=>164|283=>194|284=>195|285=>196|286=>197|129=>206|317=>205|318=>207|319=>208|320=>209|337=>218|338=>219|n=>n,λ|2=>2|3=>3|9=>9|4=>4|171=>270|0=>0|53=>38|37=>34|5=>5|173=>273|212=>283|51=>28|20=>20|213=>284|46=>162|232=>298|233=>299|n=>n,λ|17=>1|18=>2|19=>3|n=>n⟩
def Tryz.laysM243_ren:Go.Shelf.Ren:=⟨λ|243=>122|246=>164|283=>194|284=>195|285=>196|286=>197|129=>206|317=>205|318=>207|319=>208|320=>209|337=>218|338=>219|n=>n,λ|3=>3|9=>9|2=>2|4=>4|171=>270|0=>0|53=>38|37=>34|5=>5|173=>273|212=>283|51=>28|20=>20|213=>284|46=>162|232=>298|233=>299|n=>n,λ|17=>1|18=>2|19=>3|n=>n⟩
def Tryz.laysM171_ren:Go.Shelf.Ren:=⟨λ|171=>74|243=>122|246=>164|283=>194|284=>195|285=>196|286=>197|129=>206|317=>205|318=>207|319=>208|320=>209|337=>218|338=>219|n=>n,λ|3=>3|9=>9|2=>2|4=>4|171=>270|0=>0|53=>38|37=>34|5=>5|173=>273|212=>283|51=>28|20=>20|213=>284|46=>162|232=>298|233=>299|n=>n,λ|17=>1|18=>2|19=>3|n=>n⟩
theorem Tryz.laysM171:Go.Proofs.LaysM.n171 Tryz.prog Tryz.laysM171_ren:={
 mixed:=by kernel_rfl
 f129:=Tryz.func206.trans (congrArg some (by kernel_rfl))
 f171:=Tryz.func74.trans (congrArg some (by kernel_rfl))
 f243:=Tryz.func122.trans (congrArg some (by kernel_rfl))
 f246:=Tryz.func164.trans (congrArg some (by kernel_rfl))
 f283:=Tryz.func194.trans (congrArg some (by kernel_rfl))
 f284:=Tryz.func195.trans (congrArg some (by kernel_rfl))
 f285:=Tryz.func196.trans (congrArg some (by kernel_rfl))
 f286:=Tryz.func197.trans (congrArg some (by kernel_rfl))
 f317:=Tryz.func205.trans (congrArg some (by kernel_rfl))
 f318:=Tryz.func207.trans (congrArg some (by kernel_rfl))
 f319:=Tryz.func208.trans (congrArg some (by kernel_rfl))
 f320:=Tryz.func209.trans (congrArg some (by kernel_rfl))
 f337:=Tryz.func218.trans (congrArg some (by kernel_rfl))
 f338:=Tryz.func219.trans (congrArg some (by kernel_rfl))
 t0:=Tryz.underlying0
 a0:=Tryz.isAgg0
 z0:=Tryz.sizeOf0
 v0:=Tryz.zeroValue0
 t2:=Tryz.underlying2
 a2:=Tryz.isAgg2
 z2:=Tryz.sizeOf2
 v2:=Tryz.zeroValue2
 t3:=Tryz.underlying3
 a3:=Tryz.isAgg3
 z3:=Tryz.sizeOf3
 v3:=Tryz.zeroValue3
 t4:=Tryz.underlying4
 a4:=Tryz.isAgg4
 z4:=Tryz.sizeOf4
 v4:=Tryz.zeroValue4
 t5:=Tryz.underlying5
 a5:=Tryz.isAgg5
 z5:=Tryz.sizeOf5
 v5:=Tryz.zeroValue5
 t9:=Tryz.underlying9
 a9:=Tryz.isAgg9
 z9:=Tryz.sizeOf9
 v9:=Tryz.zeroValue9
 t20:=Tryz.underlying20
 a20:=Tryz.isAgg20
 z20:=Tryz.sizeOf20
 v20:=Tryz.zeroValue20
 t37:=Tryz.underlying34
 a37:=Tryz.isAgg34
 z37:=Tryz.sizeOf34
 v37:=Tryz.zeroValue34
 t46:=Tryz.underlying162
 a46:=Tryz.isAgg162
 z46:=Tryz.sizeOf162
 v46:=Tryz.zeroValue162
 t51:=Tryz.underlying28
 a51:=Tryz.isAgg28
 z51:=Tryz.sizeOf28
 v51:=Tryz.zeroValue28
 t53:=Tryz.underlying38
 a53:=Tryz.isAgg38
 z53:=Tryz.sizeOf38
 v53:=Tryz.zeroValue38
 t171:=Tryz.underlying270
 a171:=Tryz.isAgg270
 z171:=Tryz.sizeOf270
 v171:=Tryz.zeroValue270
 t173:=Tryz.underlying273
 a173:=Tryz.isAgg273
 z173:=Tryz.sizeOf273
 v173:=Tryz.zeroValue273
 t212:=Tryz.underlying283
 a212:=Tryz.isAgg283
 z212:=Tryz.sizeOf283
 v212:=Tryz.zeroValue283
 t213:=Tryz.underlying284
 a213:=Tryz.isAgg284
 z213:=Tryz.sizeOf284
 t232:=Tryz.underlying298
 a232:=Tryz.isAgg298
 z232:=Tryz.sizeOf298
 v232:=Tryz.zeroValue298
 t233:=Tryz.underlying299
 a233:=Tryz.isAgg299
 z233:=Tryz.sizeOf299
 v233:=Tryz.zeroValue299
 g17:=by kernel_rfl
 g18:=by kernel_rfl
 g19:=by kernel_rfl
 i0:=by kernel_rfl
 i2:=by kernel_rfl
 i3:=by kernel_rfl
 i4:=by kernel_rfl
 i5:=by kernel_rfl
 i9:=by kernel_rfl
 i20:=by kernel_rfl
 i37:=by kernel_rfl
 i46:=by kernel_rfl
 i51:=by kernel_rfl
 i53:=by kernel_rfl
 i171:=by kernel_rfl
 i173:=by kernel_rfl
 i212:=by kernel_rfl
 i232:=by kernel_rfl
 i233:=by kernel_rfl
 m17:=by kernel_rfl
 m18:=by kernel_rfl
 m19:=by kernel_rfl}
open Go.RowKit Go.Sort Go.Lib in
theorem Tryz.strconv_Itoa (n:Int) (h0: -9223372036854775808<=n) (h1:n<=9223372036854775807) (w:World) (htab:Lib.TabIs Tryz.prog w "internal/strconv.uint64pow10" .u64 Lib.pow10Tab):
 Calls Tryz.prog 74 #[.int .i64 n] w λe w'=>e= .returned (.string ⟨(Lib.itoa n).toArray⟩)/\∃k os,w'=grow (w.drewN k) os:=Any.strconv_Itoa Tryz.laysM171 n h0 h1 w htab
def Tryz.lays219_ren:Go.Shelf.Ren:=⟨λ|219=>198|217=>163|225=>210|224=>211|267=>212|266=>193|314=>220|n=>n,λ|9=>9|3=>3|4=>4|5=>5|46=>162|146=>288|51=>28|n=>n,λ|1=>0|n=>n⟩
def Tryz.lays145_ren:Go.Shelf.Ren:=⟨λ|145=>137|220=>174|219=>198|217=>163|225=>210|224=>211|267=>212|266=>193|314=>220|n=>n,λ|9=>9|4=>4|59=>215|3=>3|5=>5|46=>162|146=>288|51=>28|n=>n,λ|1=>0|n=>n⟩
theorem Tryz.lays145:Go.Proofs.Lays.n145 Tryz.prog Tryz.lays145_ren:={
 mixed:=by kernel_rfl
 f145:=Tryz.func137.trans (congrArg some (by kernel_rfl))
 f217:=Tryz.func163.trans (congrArg some (by kernel_rfl))
 f219:=Tryz.func198.trans (congrArg some (by kernel_rfl))
 f220:=Tryz.func174.trans (congrArg some (by kernel_rfl))
 f224:=Tryz.func211.trans (congrArg some (by kernel_rfl))
 f225:=Tryz.func210.trans (congrArg some (by kernel_rfl))
 f266:=Tryz.func193.trans (congrArg some (by kernel_rfl))
 f267:=Tryz.func212.trans (congrArg some (by kernel_rfl))
 f314:=Tryz.func220.trans (congrArg some (by kernel_rfl))
 t3:=Tryz.underlying3
 a3:=Tryz.isAgg3
 z3:=Tryz.sizeOf3
 v3:=Tryz.zeroValue3
 t4:=Tryz.underlying4
 a4:=Tryz.isAgg4
 z4:=Tryz.sizeOf4
 v4:=Tryz.zeroValue4
 t5:=Tryz.underlying5
 a5:=Tryz.isAgg5
 z5:=Tryz.sizeOf5
 v5:=Tryz.zeroValue5
 t9:=Tryz.underlying9
 a9:=Tryz.isAgg9
 z9:=Tryz.sizeOf9
 v9:=Tryz.zeroValue9
 t46:=Tryz.underlying162
 a46:=Tryz.isAgg162
 z46:=Tryz.sizeOf162
 v46:=Tryz.zeroValue162
 t51:=Tryz.underlying28
 a51:=Tryz.isAgg28
 z51:=Tryz.sizeOf28
 v51:=Tryz.zeroValue28
 t59:=Tryz.underlying215
 a59:=Tryz.isAgg215
 z59:=Tryz.sizeOf215
 v59:=Tryz.zeroValue215
 t146:=Tryz.underlying288
 a146:=Tryz.isAgg288
 z146:=Tryz.sizeOf288
 v146:=Tryz.zeroValue288
 g1:=by kernel_rfl}
open Go.RowKit Go.Lib in
theorem Tryz.strings_Cut (s sep:ByteArray) (m:Int) (w:World) (hs:s.size < 4294967281) (hm:w.cell? ⟨0,0,none⟩=some (.int .i64 m)):
 Calls Tryz.prog 137 #[.string s,.string sep] w λe w'=>e= .returned (.tuple #[.string ⟨(Lib.cut s.data.toList sep.data.toList).1.toArray⟩,.string ⟨(Lib.cut s.data.toList sep.data.toList).2.1.toArray⟩,.bool (Lib.cut s.data.toList sep.data.toList).2.2])/\∃n,w'=w.drewN n:=Any.strings_Cut Tryz.lays145 s sep m w hs hm
def Tryz.lays221_ren:Go.Shelf.Ren:=⟨λ|221=>214|268=>222|138=>223|143=>224|195=>231|197=>232|218=>233|219=>198|260=>238|217=>163|225=>210|224=>211|267=>212|266=>193|314=>220|n=>n,λ|9=>9|3=>3|31=>63|4=>4|0=>0|105=>301|21=>21|5=>5|46=>162|119=>312|139=>315|138=>314|146=>288|51=>28|n=>n,λ|1=>0|3=>6|4=>7|n=>n⟩
def Tryz.lays146_ren:Go.Shelf.Ren:=⟨λ|146=>201|221=>214|268=>222|138=>223|143=>224|195=>231|197=>232|218=>233|219=>198|260=>238|217=>163|225=>210|224=>211|267=>212|266=>193|314=>220|n=>n,λ|9=>9|31=>63|3=>3|4=>4|0=>0|105=>301|21=>21|5=>5|46=>162|119=>312|139=>315|138=>314|146=>288|51=>28|n=>n,λ|1=>0|3=>6|4=>7|n=>n⟩
theorem Tryz.lays146:Go.Proofs.Lays.n146 Tryz.prog Tryz.lays146_ren:={
 mixed:=by kernel_rfl
 f138:=Tryz.func223.trans (congrArg some (by kernel_rfl))
 f143:=Tryz.func224.trans (congrArg some (by kernel_rfl))
 f146:=Tryz.func201.trans (congrArg some (by kernel_rfl))
 f195:=Tryz.func231.trans (congrArg some (by kernel_rfl))
 f197:=Tryz.func232.trans (congrArg some (by kernel_rfl))
 f217:=Tryz.func163.trans (congrArg some (by kernel_rfl))
 f218:=Tryz.func233.trans (congrArg some (by kernel_rfl))
 f219:=Tryz.func198.trans (congrArg some (by kernel_rfl))
 f221:=Tryz.func214.trans (congrArg some (by kernel_rfl))
 f224:=Tryz.func211.trans (congrArg some (by kernel_rfl))
 f225:=Tryz.func210.trans (congrArg some (by kernel_rfl))
 f260:=Tryz.func238.trans (congrArg some (by kernel_rfl))
 f266:=Tryz.func193.trans (congrArg some (by kernel_rfl))
 f267:=Tryz.func212.trans (congrArg some (by kernel_rfl))
 f268:=Tryz.func222.trans (congrArg some (by kernel_rfl))
 f314:=Tryz.func220.trans (congrArg some (by kernel_rfl))
 t0:=Tryz.underlying0
 a0:=Tryz.isAgg0
 z0:=Tryz.sizeOf0
 v0:=Tryz.zeroValue0
 t3:=Tryz.underlying3
 a3:=Tryz.isAgg3
 z3:=Tryz.sizeOf3
 v3:=Tryz.zeroValue3
 t4:=Tryz.underlying4
 a4:=Tryz.isAgg4
 z4:=Tryz.sizeOf4
 v4:=Tryz.zeroValue4
 t5:=Tryz.underlying5
 a5:=Tryz.isAgg5
 z5:=Tryz.sizeOf5
 v5:=Tryz.zeroValue5
 t9:=Tryz.underlying9
 a9:=Tryz.isAgg9
 z9:=Tryz.sizeOf9
 v9:=Tryz.zeroValue9
 t21:=Tryz.underlying21
 a21:=Tryz.isAgg21
 z21:=Tryz.sizeOf21
 v21:=Tryz.zeroValue21
 t31:=Tryz.underlying63
 a31:=Tryz.isAgg63
 z31:=Tryz.sizeOf63
 v31:=Tryz.zeroValue63
 t46:=Tryz.underlying162
 a46:=Tryz.isAgg162
 z46:=Tryz.sizeOf162
 v46:=Tryz.zeroValue162
 t51:=Tryz.underlying28
 a51:=Tryz.isAgg28
 z51:=Tryz.sizeOf28
 v51:=Tryz.zeroValue28
 t105:=Tryz.underlying301
 a105:=Tryz.isAgg301
 z105:=Tryz.sizeOf301
 v105:=Tryz.zeroValue301
 t119:=Tryz.underlying312
 a119:=Tryz.isAgg312
 z119:=Tryz.sizeOf312
 t138:=Tryz.underlying314
 a138:=Tryz.isAgg314
 z138:=Tryz.sizeOf314
 v138:=Tryz.zeroValue314
 t139:=Tryz.underlying315
 a139:=Tryz.isAgg315
 z139:=Tryz.sizeOf315
 v139:=Tryz.zeroValue315
 t146:=Tryz.underlying288
 a146:=Tryz.isAgg288
 z146:=Tryz.sizeOf288
 v146:=Tryz.zeroValue288
 g1:=by kernel_rfl
 g3:=by kernel_rfl
 g4:=by kernel_rfl}
open Go.RowKit Go.Lib in
theorem Tryz.strings_Split (s sep:ByteArray) (m:Int) (w:World) (hs:s.size < 4294967281) (hm:w.cell? ⟨0,0,none⟩=some (.int .i64 m)) (h1:1<=sep.size):
 Calls Tryz.prog 201 #[.string s,.string sep] w λe w'=>
  e= .returned (.slice (some ⟨w.heap.size,0,none⟩) (Lib.countB s sep+1) (Lib.countB s sep+1))/\w'=w.alloc (.cells ((Lib.splitB sep 0 (Lib.countB s sep) s).map Value.string).toArray 9):=Any.strings_Split Tryz.lays146 (by kernel_rfl) s sep m w hs hm h1
end Go.Proofs
section
namespace Go.Proofs.YtdpmhkbhlbfbeaaGreatDoor
open CW RowKit
def decV (l:List UInt8):Nat:=l.foldl (λv c=>v*10+(c.toNat - 48)) 0
theorem digits_nil_not (u:Nat):Lib.decDigits u≠[]:=by
 intro h
 rw[Lib.decDigits]at h
 split at h<;>simp at h
theorem u8of (n:Nat) (h:n < 256):(UInt8.ofNat n).toNat=n:=by rw[UInt8.toNat_ofNat'];exact Nat.mod_eq_of_lt h
theorem decV_digits (u:Nat):decV (Lib.decDigits u)=u:=by
 induction u using Nat.strongRecOn with
 |_ u ihs=>
  rw[Lib.decDigits]
  by_cases h:u < 10
  ·rw[dif_pos h]
   have e:(UInt8.ofNat (48+u)).toNat=48+u:=u8of _ (by omega)
   simp only[decV,List.foldl_cons,List.foldl_nil,e];omega
  ·rw[dif_neg h]
   have ih:=ihs (u / 10) (by omega)
   have e:(UInt8.ofNat (48+u % 10)).toNat=48+u % 10:=u8of _ (by omega)
   unfold decV at ih ⊢
   rw[List.foldl_append,ih]
   simp only[List.foldl_cons,List.foldl_nil,e];omega
theorem digits_dig (u:Nat):∀c∈Lib.decDigits u,48<=c.toNat/\c.toNat < 58:=by
 induction u using Nat.strongRecOn with
 |_ u ihs=>
  rw[Lib.decDigits]
  by_cases h:u < 10
  ·rw[dif_pos h]
   have e:(UInt8.ofNat (48+u)).toNat=48+u:=u8of _ (by omega)
   intro c hc
   simp only[List.mem_singleton]at hc
   subst hc;rw[e];omega
  ·rw[dif_neg h]
   have e:(UInt8.ofNat (48+u % 10)).toNat=48+u % 10:=u8of _ (by omega)
   intro c hc
   rcases List.mem_append.1 hc with hc|hc
   ·exact ihs (u / 10) (by omega) c hc
   ·simp only[List.mem_singleton]at hc
    subst hc;rw[e];omega
abbrev Tab (w:World):Prop:=Lib.TabIs Tryz.prog w "internal/strconv.uint64pow10" .u64 Lib.pow10Tab
theorem Tab.grow {w w':World} (h:Tab w) (g:Grow w w'):Tab w':=Lib.tabBelow_of_tabIs h w' g
theorem itoa_c {w:World} {n:Int} {R:KV} (ht:Tab w) (hn:Fits .i64 n) (k:∀w',Grow w w'->R (.string (textOf (Lib.itoa n))) w'):Zs 74 #[.int .i64 n] w R:=by
 have h:=hn.i64
 exact(Go.Proofs.Tryz.strconv_Itoa n (by omega) (by omega) w ht).mono λe w' ⟨he,kk,os,hw⟩=>⟨_,he,k _ (by rw[hw];exact Lib.below_grow _ _ (Nat.le_refl _) _ _)⟩
theorem textOf_app (a b:List UInt8):textOf a++textOf b=textOf (a++b):=ByteArray.ext (by simp [textOf])
theorem textOf_size (a:List UInt8):(textOf a).size=a.length:=by simp [textOf,ByteArray.size]
theorem text_beq' (a b:List UInt8):((textOf a).toList==(textOf b).toList)=decide (a=b):=by
 rw[textOf_toList,textOf_toList,Bool.eq_iff_iff];simp
theorem callU_of {P:Program} {g:FuncId} {first captured args:Array Value} {w:World} {K:KV} (hb:(P.funcs[g]?).map (λfn=>fn.body.isSome)=some true) (h:CW.Spec P g (app3 first args captured) w K):
 callU P (.func (.func g) first captured) args w K:=by
 unfold callU
 simp only[hb]
 exact h
end Go.Proofs.YtdpmhkbhlbfbeaaGreatDoor
end
section
namespace Go.Proofs.YtdpmhkbhlbfbeaaGreatDoor.Sen
open CW RowKit
def layL (bs:List UInt8) (o:Nat) (cs:List UInt8):List UInt8:=bs.take o++cs++bs.drop (o+cs.length)
structure Lay (w:World) (out:Value) (g:Nat) (bs:List UInt8) (ww:World):Prop where
 gr:Grow w ww
 o:OwnB ww w.heap.size tb out bs
 b:BK ww g #[out] tB
 hb:w.heap.size<=g
 ne:out.ownBlock≠some g
theorem Lay.grow {w:World} {out:Value} {g:Nat} {bs:List UInt8} {ww w2:World} (h:Lay w out g bs ww) (k:Grow ww w2):Lay w out g bs w2:=
 ⟨h.gr.then k,Own.grow h.o k,h.b.grow k,h.hb,h.ne⟩
abbrev layV (g:Nat):Value:=.func (.func 145) #[] #[zA g]
theorem laid_c {w ww:World} {out:Value} {bs:List UInt8} {R:KV} (hg:Grow w ww) (ho:OwnB ww w.heap.size tb out bs)
 (k:∀g w',Lay w out g bs w'->R (layV g) w'):Zs 98 #[out] ww R:=by
 apply q118W
 refine nm λw0 e0=>?_
 have ec:Value.cells out= #[out]:=cells_one (Rd.isOne ho.rd)
 rw[ec]at e0
 obtain⟨b0,g0,_⟩:=alE e0
 refine k _ _ ⟨hg.then g0,Own.grow ho g0,b0,hg.size,λh=>?_⟩
 have:=Own.lt ho _ h
 omega
theorem lay_c {w ww:World} {out src:Value} {g:Nat} {bs cs:List UInt8} {o:Nat} {n:Int} {R:KV} (h:Lay w out g bs ww) (hn:n=(o:Int)) (hr:RdB ww src cs) (h1:o < bs.length) (h2:o+cs.length<=bs.length)
 (k:∀w',Lay w out g (layL bs o cs) w'->R (.tuple #[]) w'):callU Tryz.prog (layV g) #[.int .i64 n,src] ww R:=by
 subst hn
 refine callU_of (by kernel_rfl) ?_
 apply q119W
 obtain⟨v',hs,hc⟩:=own_tail (P:=Tryz.prog) (sT:=tB) (ty:=3) tyB h.o (o:=o) (by simpa using h1) .i64
 obtain⟨w',k1,k2,k3⟩:=hc ww (bs.map b8) src (cs.map b8) h.o rfl hr (λu hu=>by obtain⟨x,_,rfl⟩:=List.mem_map.1 hu;rfl) (by simpa using h2)
 refine withAddr_some ⟨_,h.b.at 0,v',hs,_,w',k1,k _ ⟨?_,?_,?_,h.hb,h.ne⟩⟩
 ·obtain⟨f1,f2,f3,f4,f5⟩:=k3
  refine⟨f1.trans h.gr.os,f2.trans h.gr.tape,f3.trans h.gr.output,Nat.le_trans h.gr.size f4,λq hq=>(f5 q (Nat.lt_of_lt_of_le hq h.gr.size) (λe=>?_)).trans (h.gr.block q hq)⟩
  have:=h.o.blk q e.symm
  omega
 ·have e:(layL bs o cs).map b8=(bs.map b8).take o++cs.map b8++(bs.map b8).drop (o+(cs.map b8).length):=by
   simp [layL,List.map_take,List.map_drop]
  unfold OwnB
  rw[e];exact k2
 ·obtain⟨f1,f2,f3,f4,f5⟩:=k3
  exact(f5 g h.b.lt (λe=>h.ne e.symm)).trans h.b
theorem lit_rd (w:World) (bs:List UInt8) (n:Nat) (hn:bs.length=n) (hm:n<=1000000) {w':World} (e:w'=World.alloc w (.cells (bs.map b8).toArray tb)):RdB w' (.slice (some ⟨w.heap.size,0,none⟩) n n) bs/\Grow w w':=by
 obtain⟨b,g,_⟩:=alE e
 subst hn
 refine⟨⟨some ⟨w.heap.size,0,none⟩,bs.length,by simp,by simp,by simp [maxLen];omega,(λh=>(by cases h)),λi u hi=>⟨_,rfl,?_⟩⟩,g⟩
 rw[b.cell]
 simpa using hi
def headB (info:Int):Int:=bif (IntKind.wrap .u32 info) !=(0:Int)then 240 else 112
def encS (key code info:Int):List UInt8:=
 layL (layL (layL (layL (layL (List.replicate 18 0) 0 [byt (headB info)]) 2 [byt (IntKind.wrap .u8 (bitsI .and .i64 key (15:Int)))]) 3 (putL (IntKind.wrap .u64 info) 4)) 7 [10]) 12 (putL (IntKind.wrap .u64 code) 2)
theorem encS_length (key code info:Int):(encS key code info).length=18:=by simp [encS,layL,putL_length]
theorem byt_b8 {n:Int} (h0:0<=n) (h1:n < 256):Value.int .u8 n=b8 (byt n):=by rw[←b8_byt];congr 1;omega
theorem wu8_range (n:Int):0<=IntKind.wrap .u8 n/\IntKind.wrap .u8 n < 256:=by
 rw[w8];omega
theorem Encode_c {w:World} {st key code info:Int} {d:Value} {R:KV} (k:∀v w',Grow w w'->OwnB w' w.heap.size tb v (encS key code info)->R v w'):
 Zs 68 #[.agg #[.int .i64 st,.int .i64 key,.int .i64 code,d,.int .i64 info]] w R:=by
 apply q115W
 refine nm λw0 e0=>?_
 obtain⟨b0,g0,_⟩:=alE e0
 obtain⟨v1,w2,h2,o2,g2⟩:=make_bytes (w:=w0) 18 (by omega)
 refine⟨v1,w2,h2,?_⟩
 refine laid_c (w:=w0) g2 o2 λg w4 h4=>?_
 refine JoinP.int (λn w'=>n=headB info/\w'=w4) (λj hj=>?_) ?_
 ·refine⟨_,(b0.grow h4.gr).cell 4,cond_intro (λh=>hj _ _ ⟨?_,rfl⟩) (λh=>hj _ _ ⟨?_,rfl⟩)⟩<;>simp only[headB,h,cond_true,cond_false]
 rintro n w6 ⟨rfl,rfl⟩
 have hh:0<=headB info/\headB info < 256:=by unfold headB;cases ((IntKind.wrap .u32 info) !=(0:Int))<;>simp
 refine nm λw7 e7=>?_
 rw[byt_b8 hh.1 hh.2]at e7
 obtain⟨r7,g7⟩:=lit_rd w6 [byt (headB info)] 1 rfl (by omega) e7
 refine lay_c (o:=0) (h4.grow g7) rfl r7 (by simp) (by simp) λw9 h9=>⟨rfl,_,(b0.grow h9.gr).cell 1,nm λw11 e11=>?_⟩
 have hk:=wu8_range (bitsI .and .i64 key (15:Int))
 rw[byt_b8 hk.1 hk.2]at e11
 obtain⟨r11,g11⟩:=lit_rd w9 [byt (IntKind.wrap .u8 (bitsI .and .i64 key (15:Int)))] 1 rfl (by omega) e11
 refine lay_c (o:=2) (h9.grow g11) rfl r11 (by simp [layL]) (by simp [layL]) λw13 h13=>⟨rfl,_,(b0.grow h13.gr).cell 4,?_⟩
 refine bin_Put_c (bs:=[]) (Rd.nil _) (by simp) λv15 w16 g16 r15 _=>?_
 rw[show putS [] (IntKind.wrap .u64 info) 4=putL (IntKind.wrap .u64 info) 4 from rfl]at r15
 refine lay_c (o:=3) (h13.grow g16) rfl r15 (by simp [layL]) (by simp [layL,putL_length]) λw18 h18=>⟨rfl,nm λw19 e19=>?_⟩
 obtain⟨r19,g19⟩:=lit_rd w18 [10] 1 rfl (by omega) e19
 refine lay_c (o:=7) (h18.grow g19) rfl r19 (by simp [layL,putL_length]) (by simp [layL,putL_length]) λw21 h21=>⟨rfl,_,(b0.grow h21.gr).cell 2,?_⟩
 refine bin_Put_c (bs:=[]) (Rd.nil _) (by simp) λv23 w24 g24 r23 _=>?_
 rw[show putS [] (IntKind.wrap .u64 code) 2=putL (IntKind.wrap .u64 code) 2 from rfl]at r23
 refine lay_c (o:=12) (h21.grow g24) rfl r23 (by simp [layL,putL_length]) (by simp [layL,putL_length]) λw26 h26=>⟨rfl,?_⟩
 exact k _ _ (g0.then h26.gr) (h26.o.mono g0.size)
def decS (bs:List UInt8):Int×Int×Int×Int:=
 bif decide ((bs.length:Int) < 18)then(0,0,0,3)
 else bif ((bitsI .andNot .u8 ((bs.getD 0 0).toNat:Int) (128:Int)) !=(112:Int))||(((bs.getD 7 0).toNat:Int) !=(10:Int))then(0,0,0,2)
 else(IntKind.wrap .i64 (bitsI .and .u8 ((bs.getD 2 0).toNat:Int) (15:Int)),IntKind.wrap .i64 (getV bs 12 2),bif (bitsI .and .u8 ((bs.getD 0 0).toNat:Int) (128:Int)) !=(0:Int)then IntKind.wrap .i64 (getV bs 3 4)else 0,0)
theorem rdAt {w:World} {v:Value} {bs:List UInt8} (h:RdB w v bs) (i:Nat) (hi:i < bs.length):∃a,sliceAt v (i:Int) 1=some a/\w.cell? a=some (.int .u8 ((bs.getD i 0).toNat:Int)):=by
 obtain⟨a,h1,h2⟩:=h.at (i:=(i:Int)) (by omega) (by omega)
 refine⟨a,h1,h2.trans ?_⟩
 simp [List.getD,hi]
theorem Decode_c {w:World} {v:Value} {bs:List UInt8} {R:KV} (hr:RdB w v bs) (k:R (.tuple #[.int .i64 (decS bs).1,.int .i64 (decS bs).2.1,.int .i64 (decS bs).2.2.1,.int .i64 (decS bs).2.2.2]) w):
 Zs 144 #[v] w R:=by
 apply q114W
 refine⟨_,hr.len,cond_intro (λh=>?_) (λh=>?_)⟩
 ·unfold decS at k
  rw[h]at k;exact k
 have hl:18<=bs.length:=by simp at h;omega
 unfold decS at k
 rw[h,cond_false]at k
 obtain⟨a0,ha0,hc0⟩:=rdAt hr 0 (by omega)
 obtain⟨a2,ha2,hc2⟩:=rdAt hr 2 (by omega)
 obtain⟨a7,ha7,hc7⟩:=rdAt hr 7 (by omega)
 refine JoinP.bool (λb w'=>b=(((bitsI .andNot .u8 ((bs.getD 0 0).toNat:Int) (128:Int)) !=(112:Int))||(((bs.getD 7 0).toNat:Int) !=(10:Int)))/\w'=w) (λj hj=>?_) ?_
 ·exact⟨a0,ha0,_,hc0,cond_intro (λh0=>hj _ _ ⟨by rw[h0];rfl,rfl⟩) (λh0=>⟨a7,ha7,_,hc7,hj _ _ ⟨by rw[h0];rfl,rfl⟩⟩)⟩
 rintro b w2 ⟨hb,rfl⟩
 refine cond_intro (λh1=>?_) (λh1=>?_)
 ·subst hb;rw[h1]at k;exact k
 rw[←hb,h1,cond_false]at k
 refine bin_Get_c hr (Fits.of_wf (by decide)) (Fits.of_wf (by decide)) ⟨_,_,rfl,?_⟩
 refine JoinP.int (λn w'=>n=(bif (bitsI .and .u8 ((bs.getD 0 0).toNat:Int) (128:Int)) !=(0:Int)then IntKind.wrap .i64 (getV bs 3 4)else 0)/\w'=w2) (λj hj=>?_) ?_
 ·refine⟨a0,ha0,_,hc0,cond_intro (λh0=>?_) (λh0=>hj _ _ ⟨by rw[h0];rfl,rfl⟩)⟩
  exact bin_Get_c hr (Fits.of_wf (by decide)) (Fits.of_wf (by decide)) ⟨_,_,rfl,hj _ _ ⟨by rw[h0];rfl,rfl⟩⟩
 rintro n w8 ⟨rfl,rfl⟩
 exact⟨a2,ha2,_,hc2,k⟩
end Go.Proofs.YtdpmhkbhlbfbeaaGreatDoor.Sen
end
