/- A part of the proof. -/
import Derived.Shelf.Small.Strs
import Derived.Shelf.Utf8.RuneCount
import Derived.Shelf.Strconv.Itoa0
import Derived.Shelf.Strconv.Itoa1
import Derived.Shelf.LaysM
import Derived.Shelf.Strconv.Itoa2
import Derived.Shelf.Strconv.Itoa3
import Derived.Shelf.Strconv.Clone
import Derived.Shelf.Strconv.Lower
import Derived.Shelf.Strings.Search1
import Derived.Shelf.Strings.Search2
import Derived.Shelf.Strings.Search3
import Derived.Shelf.Strings.Cut
import Derived.Shelf.Strings.Count
import Derived.Shelf.Strings.Shaped
import Derived.Shelf.Strings.Split
import Derived.Shelf.Strings.SplitShaped
import Derived.Shelf.Unicode.Decode
import Derived.Shelf.Strings.RuneCount
import Derived.Shelf.Strings.Explode
import Derived.Shelf.Unicode.DecodeSlow
import Derived.Shelf.Unicode.DecodeAny
import Derived.Shelf.Slices.Turned
import Derived.Ground.Names2Prog
import Derived.Shelf.Slices.Clone
import Derived.Ground.SlgnProg
import Derived.Shelf.SlicesE.Clone
import Derived.Test.YtdinpgnjnleioaaGreatDoorProg
import Derived.Test.YtdinpgnjnleioaaGreatDoorSBX3
import Derived.Lib.ItoaNum
import Derived.Lib.ItoaMem
import Derived.Lib.AppendIntMem
import Derived.Lib.ItoaLen
set_option linter.unusedSimpArgs false
set_option linter.unusedVariables false
set_option maxRecDepth 100000
namespace Go.Proofs
open Go.Shelf
def Tryz.lays137_ren:Go.Shelf.Ren:=⟨λ|137=>174|217=>212|266=>225|n=>n,λ|9=>9|5=>5|3=>3|n=>n,λ|n=>n⟩
theorem Tryz.lays137:Go.Proofs.Lays.n137 Tryz.prog Tryz.lays137_ren:={
 mixed:=by kernel_rfl
 f137:=Tryz.func174.trans (congrArg some (by kernel_rfl))
 f217:=Tryz.func212.trans (congrArg some (by kernel_rfl))
 f266:=Tryz.func225.trans (congrArg some (by kernel_rfl))
 t3:=Tryz.underlying3
 a3:=Tryz.isAgg3
 z3:=Tryz.sizeOf3
 v3:=Tryz.zeroValue3
 t5:=Tryz.underlying5
 a5:=Tryz.isAgg5
 z5:=Tryz.sizeOf5
 v5:=Tryz.zeroValue5
 t9:=Tryz.underlying9
 a9:=Tryz.isAgg9
 z9:=Tryz.sizeOf9
 v9:=Tryz.zeroValue9}
open Go.RowKit in
theorem Tryz.strings_IndexByte (s:ByteArray) (c:Int) (w:World):
 Calls Tryz.prog 174 #[.string s,.int .u8 c] w λe w'=>e= .returned (.int .i64 (Lib.indexByte s.data.toList c.toNat.toUInt8))/\w'=w:=Any.strings_IndexByte Tryz.lays137 s c w
def Tryz.laysM246_ren:Go.Shelf.Ren:=⟨λ|246=>213|283=>226|284=>227|285=>228|286=>229|129=>241|317=>240|318=>242|319=>243|320=>244|337=>252|338=>253|n=>n,λ|2=>2|3=>3|9=>9|4=>4|171=>294|0=>0|53=>62|37=>33|5=>5|173=>297|212=>308|51=>38|20=>20|213=>309|46=>164|232=>325|233=>326|n=>n,λ|17=>1|18=>2|19=>3|n=>n⟩
def Tryz.laysM243_ren:Go.Shelf.Ren:=⟨λ|243=>176|246=>213|283=>226|284=>227|285=>228|286=>229|129=>241|317=>240|318=>242|319=>243|320=>244|337=>252|338=>253|n=>n,λ|3=>3|9=>9|2=>2|4=>4|171=>294|0=>0|53=>62|37=>33|5=>5|173=>297|212=>308|51=>38|20=>20|213=>309|46=>164|232=>325|233=>326|n=>n,λ|17=>1|18=>2|19=>3|n=>n⟩
def Tryz.laysM171_ren:Go.Shelf.Ren:=⟨λ|171=>132|243=>176|246=>213|283=>226|284=>227|285=>228|286=>229|129=>241|317=>240|318=>242|319=>243|320=>244|337=>252|338=>253|n=>n,λ|3=>3|9=>9|2=>2|4=>4|171=>294|0=>0|53=>62|37=>33|5=>5|173=>297|212=>308|51=>38|20=>20|213=>309|46=>164|232=>325|233=>326|n=>n,λ|17=>1|18=>2|19=>3|n=>n⟩
theorem Tryz.laysM171:Go.Proofs.LaysM.n171 Tryz.prog Tryz.laysM171_ren:={
 mixed:=by kernel_rfl
 f129:=Tryz.func241.trans (congrArg some (by kernel_rfl))
 f171:=Tryz.func132.trans (congrArg some (by kernel_rfl))
 f243:=Tryz.func176.trans (congrArg some (by kernel_rfl))
 f246:=Tryz.func213.trans (congrArg some (by kernel_rfl))
 f283:=Tryz.func226.trans (congrArg some (by kernel_rfl))
 f284:=Tryz.func227.trans (congrArg some (by kernel_rfl))
 f285:=Tryz.func228.trans (congrArg some (by kernel_rfl))
 f286:=Tryz.func229.trans (congrArg some (by kernel_rfl))
 f317:=Tryz.func240.trans (congrArg some (by kernel_rfl))
 f318:=Tryz.func242.trans (congrArg some (by kernel_rfl))
 f319:=Tryz.func243.trans (congrArg some (by kernel_rfl))
 f320:=Tryz.func244.trans (congrArg some (by kernel_rfl))
 f337:=Tryz.func252.trans (congrArg some (by kernel_rfl))
 f338:=Tryz.func253.trans (congrArg some (by kernel_rfl))
 t0:=Tryz.underlying0
 a0:=Tryz.isAgg0
 z0:=Tryz.sizeOf0
 v0:=Tryz.zeroValue0
 t2:=Tryz.underlying2
 a2:=Tryz.isAgg2
 z2:=Tryz.sizeOf2
 v2:=Tryz.zeroValue2
 t3:=Tryz.underlying3
 a3:=Tryz.isAgg3
 z3:=Tryz.sizeOf3
 v3:=Tryz.zeroValue3
 t4:=Tryz.underlying4
 a4:=Tryz.isAgg4
 z4:=Tryz.sizeOf4
 v4:=Tryz.zeroValue4
 t5:=Tryz.underlying5
 a5:=Tryz.isAgg5
 z5:=Tryz.sizeOf5
 v5:=Tryz.zeroValue5
 t9:=Tryz.underlying9
 a9:=Tryz.isAgg9
 z9:=Tryz.sizeOf9
 v9:=Tryz.zeroValue9
 t20:=Tryz.underlying20
 a20:=Tryz.isAgg20
 z20:=Tryz.sizeOf20
 v20:=Tryz.zeroValue20
 t37:=Tryz.underlying33
 a37:=Tryz.isAgg33
 z37:=Tryz.sizeOf33
 v37:=Tryz.zeroValue33
 t46:=Tryz.underlying164
 a46:=Tryz.isAgg164
 z46:=Tryz.sizeOf164
 v46:=Tryz.zeroValue164
 t51:=Tryz.underlying38
 a51:=Tryz.isAgg38
 z51:=Tryz.sizeOf38
 v51:=Tryz.zeroValue38
 t53:=Tryz.underlying62
 a53:=Tryz.isAgg62
 z53:=Tryz.sizeOf62
 v53:=Tryz.zeroValue62
 t171:=Tryz.underlying294
 a171:=Tryz.isAgg294
 z171:=Tryz.sizeOf294
 v171:=Tryz.zeroValue294
 t173:=Tryz.underlying297
 a173:=Tryz.isAgg297
 z173:=Tryz.sizeOf297
 v173:=Tryz.zeroValue297
 t212:=Tryz.underlying308
 a212:=Tryz.isAgg308
 z212:=Tryz.sizeOf308
 v212:=Tryz.zeroValue308
 t213:=Tryz.underlying309
 a213:=Tryz.isAgg309
 z213:=Tryz.sizeOf309
 t232:=Tryz.underlying325
 a232:=Tryz.isAgg325
 z232:=Tryz.sizeOf325
 v232:=Tryz.zeroValue325
 t233:=Tryz.underlying326
 a233:=Tryz.isAgg326
 z233:=Tryz.sizeOf326
 v233:=Tryz.zeroValue326
 g17:=by kernel_rfl
 g18:=by kernel_rfl
 g19:=by kernel_rfl
 i0:=by kernel_rfl
 i2:=by kernel_rfl
 i3:=by kernel_rfl
 i4:=by kernel_rfl
 i5:=by kernel_rfl
 i9:=by kernel_rfl
 i20:=by kernel_rfl
 i37:=by kernel_rfl
 i46:=by kernel_rfl
 i51:=by kernel_rfl
 i53:=by kernel_rfl
 i171:=by kernel_rfl
 i173:=by kernel_rfl
 i212:=by kernel_rfl
 i232:=by kernel_rfl
 i233:=by kernel_rfl
 m17:=by kernel_rfl
 m18:=by kernel_rfl
 m19:=by kernel_rfl}
open Go.RowKit Go.Sort Go.Lib in
theorem Tryz.strconv_Itoa (n:Int) (h0: -9223372036854775808<=n) (h1:n<=9223372036854775807) (w:World) (htab:Lib.TabIs Tryz.prog w "internal/strconv.uint64pow10" .u64 Lib.pow10Tab):
 Calls Tryz.prog 132 #[.int .i64 n] w λe w'=>e= .returned (.string ⟨(Lib.itoa n).toArray⟩)/\∃k os,w'=grow (w.drewN k) os:=Any.strconv_Itoa Tryz.laysM171 n h0 h1 w htab
def Tryz.lays219_ren:Go.Shelf.Ren:=⟨λ|219=>219|217=>212|225=>235|224=>236|267=>237|266=>225|314=>247|n=>n,λ|9=>9|3=>3|4=>4|5=>5|46=>164|146=>312|51=>38|n=>n,λ|1=>0|n=>n⟩
def Tryz.lays145_ren:Go.Shelf.Ren:=⟨λ|145=>155|220=>194|219=>219|217=>212|225=>235|224=>236|267=>237|266=>225|314=>247|n=>n,λ|9=>9|4=>4|59=>233|3=>3|5=>5|46=>164|146=>312|51=>38|n=>n,λ|1=>0|n=>n⟩
theorem Tryz.lays145:Go.Proofs.Lays.n145 Tryz.prog Tryz.lays145_ren:={
 mixed:=by kernel_rfl
 f145:=Tryz.func155.trans (congrArg some (by kernel_rfl))
 f217:=Tryz.func212.trans (congrArg some (by kernel_rfl))
 f219:=Tryz.func219.trans (congrArg some (by kernel_rfl))
 f220:=Tryz.func194.trans (congrArg some (by kernel_rfl))
 f224:=Tryz.func236.trans (congrArg some (by kernel_rfl))
 f225:=Tryz.func235.trans (congrArg some (by kernel_rfl))
 f266:=Tryz.func225.trans (congrArg some (by kernel_rfl))
 f267:=Tryz.func237.trans (congrArg some (by kernel_rfl))
 f314:=Tryz.func247.trans (congrArg some (by kernel_rfl))
 t3:=Tryz.underlying3
 a3:=Tryz.isAgg3
 z3:=Tryz.sizeOf3
 v3:=Tryz.zeroValue3
 t4:=Tryz.underlying4
 a4:=Tryz.isAgg4
 z4:=Tryz.sizeOf4
 v4:=Tryz.zeroValue4
 t5:=Tryz.underlying5
 a5:=Tryz.isAgg5
 z5:=Tryz.sizeOf5
 v5:=Tryz.zeroValue5
 t9:=Tryz.underlying9
 a9:=Tryz.isAgg9
 z9:=Tryz.sizeOf9
 v9:=Tryz.zeroValue9
 t46:=Tryz.underlying164
 a46:=Tryz.isAgg164
 z46:=Tryz.sizeOf164
 v46:=Tryz.zeroValue164
 t51:=Tryz.underlying38
 a51:=Tryz.isAgg38
 z51:=Tryz.sizeOf38
 v51:=Tryz.zeroValue38
 t59:=Tryz.underlying233
 a59:=Tryz.isAgg233
 z59:=Tryz.sizeOf233
 v59:=Tryz.zeroValue233
 t146:=Tryz.underlying312
 a146:=Tryz.isAgg312
 z146:=Tryz.sizeOf312
 v146:=Tryz.zeroValue312
 g1:=by kernel_rfl}
open Go.RowKit Go.Lib in
theorem Tryz.strings_Cut (s sep:ByteArray) (m:Int) (w:World) (hs:s.size < 4294967281) (hm:w.cell? ⟨0,0,none⟩=some (.int .i64 m)):
 Calls Tryz.prog 155 #[.string s,.string sep] w λe w'=>e= .returned (.tuple #[.string ⟨(Lib.cut s.data.toList sep.data.toList).1.toArray⟩,.string ⟨(Lib.cut s.data.toList sep.data.toList).2.1.toArray⟩,.bool (Lib.cut s.data.toList sep.data.toList).2.2])/\∃n,w'=w.drewN n:=Any.strings_Cut Tryz.lays145 s sep m w hs hm
def Tryz.lays221_ren:Go.Shelf.Ren:=⟨λ|221=>239|268=>249|138=>250|143=>251|195=>259|197=>260|218=>261|219=>219|260=>266|217=>212|225=>235|224=>236|267=>237|266=>225|314=>247|n=>n,λ|9=>9|3=>3|31=>27|4=>4|0=>0|105=>323|21=>21|5=>5|46=>164|119=>336|139=>339|138=>338|146=>312|51=>38|n=>n,λ|1=>0|3=>6|4=>7|n=>n⟩
def Tryz.lays146_ren:Go.Shelf.Ren:=⟨λ|146=>222|221=>239|268=>249|138=>250|143=>251|195=>259|197=>260|218=>261|219=>219|260=>266|217=>212|225=>235|224=>236|267=>237|266=>225|314=>247|n=>n,λ|9=>9|31=>27|3=>3|4=>4|0=>0|105=>323|21=>21|5=>5|46=>164|119=>336|139=>339|138=>338|146=>312|51=>38|n=>n,λ|1=>0|3=>6|4=>7|n=>n⟩
theorem Tryz.lays146:Go.Proofs.Lays.n146 Tryz.prog Tryz.lays146_ren:={
 mixed:=by kernel_rfl
 f138:=Tryz.func250.trans (congrArg some (by kernel_rfl))
 f143:=Tryz.func251.trans (congrArg some (by kernel_rfl))
 f146:=Tryz.func222.trans (congrArg some (by kernel_rfl))
 f195:=Tryz.func259.trans (congrArg some (by kernel_rfl))
 f197:=Tryz.func260.trans (congrArg some (by kernel_rfl))
 f217:=Tryz.func212.trans (congrArg some (by kernel_rfl))
 f218:=Tryz.func261.trans (congrArg some (by kernel_rfl))
 f219:=Tryz.func219.trans (congrArg some (by kernel_rfl))
 f221:=Tryz.func239.trans (congrArg some (by kernel_rfl))
 f224:=Tryz.func236.trans (congrArg some (by kernel_rfl))
 f225:=Tryz.func235.trans (congrArg some (by kernel_rfl))
 f260:=Tryz.func266.trans (congrArg some (by kernel_rfl))
 f266:=Tryz.func225.trans (congrArg some (by kernel_rfl))
 f267:=Tryz.func237.trans (congrArg some (by kernel_rfl))
 f268:=Tryz.func249.trans (congrArg some (by kernel_rfl))
 f314:=Tryz.func247.trans (congrArg some (by kernel_rfl))
 t0:=Tryz.underlying0
 a0:=Tryz.isAgg0
 z0:=Tryz.sizeOf0
 v0:=Tryz.zeroValue0
 t3:=Tryz.underlying3
 a3:=Tryz.isAgg3
 z3:=Tryz.sizeOf3
 v3:=Tryz.zeroValue3
 t4:=Tryz.underlying4
 a4:=Tryz.isAgg4
 z4:=Tryz.sizeOf4
 v4:=Tryz.zeroValue4
 t5:=Tryz.underlying5
 a5:=Tryz.isAgg5
 z5:=Tryz.sizeOf5
 v5:=Tryz.zeroValue5
 t9:=Tryz.underlying9
 a9:=Tryz.isAgg9
 z9:=Tryz.sizeOf9
 v9:=Tryz.zeroValue9
 t21:=Tryz.underlying21
 a21:=Tryz.isAgg21
 z21:=Tryz.sizeOf21
 v21:=Tryz.zeroValue21
 t31:=Tryz.underlying27
 a31:=Tryz.isAgg27
 z31:=Tryz.sizeOf27
 v31:=Tryz.zeroValue27
 t46:=Tryz.underlying164
 a46:=Tryz.isAgg164
 z46:=Tryz.sizeOf164
 v46:=Tryz.zeroValue164
 t51:=Tryz.underlying38
 a51:=Tryz.isAgg38
 z51:=Tryz.sizeOf38
 v51:=Tryz.zeroValue38
 t105:=Tryz.underlying323
 a105:=Tryz.isAgg323
 z105:=Tryz.sizeOf323
 v105:=Tryz.zeroValue323
 t119:=Tryz.underlying336
 a119:=Tryz.isAgg336
 z119:=Tryz.sizeOf336
 t138:=Tryz.underlying338
 a138:=Tryz.isAgg338
 z138:=Tryz.sizeOf338
 v138:=Tryz.zeroValue338
 t139:=Tryz.underlying339
 a139:=Tryz.isAgg339
 z139:=Tryz.sizeOf339
 v139:=Tryz.zeroValue339
 t146:=Tryz.underlying312
 a146:=Tryz.isAgg312
 z146:=Tryz.sizeOf312
 v146:=Tryz.zeroValue312
 g1:=by kernel_rfl
 g3:=by kernel_rfl
 g4:=by kernel_rfl}
open Go.RowKit Go.Lib in
theorem Tryz.strings_Split (s sep:ByteArray) (m:Int) (w:World) (hs:s.size < 4294967281) (hm:w.cell? ⟨0,0,none⟩=some (.int .i64 m)) (h1:1<=sep.size):
 Calls Tryz.prog 222 #[.string s,.string sep] w λe w'=>
  e= .returned (.slice (some ⟨w.heap.size,0,none⟩) (Lib.countB s sep+1) (Lib.countB s sep+1))/\w'=w.alloc (.cells ((Lib.splitB sep 0 (Lib.countB s sep) s).map Value.string).toArray 9):=Any.strings_Split Tryz.lays146 (by kernel_rfl) s sep m w hs hm h1
end Go.Proofs
section
namespace Go.Proofs.YtdinpgnjnleioaaGreatDoor
open CW RowKit
theorem u8of (n:Nat) (h:n < 256):(UInt8.ofNat n).toNat=n:=by rw[UInt8.toNat_ofNat'];exact Nat.mod_eq_of_lt h
abbrev Tab (w:World):Prop:=Lib.TabIs Tryz.prog w "internal/strconv.uint64pow10" .u64 Lib.pow10Tab
theorem Tab.grow {w w':World} (h:Tab w) (g:Grow w w'):Tab w':=Lib.tabBelow_of_tabIs h w' g
theorem itoa_c {w:World} {n:Int} {R:KV} (ht:Tab w) (hn:Fits .i64 n) (k:∀w',Grow w w'->R (.string (textOf (Lib.itoa n))) w'):Zs 132 #[.int .i64 n] w R:=by
 have h:=hn.i64
 exact(Go.Proofs.Tryz.strconv_Itoa n (by omega) (by omega) w ht).mono λe w' ⟨he,kk,os,hw⟩=>⟨_,he,k _ (by rw[hw];exact Lib.below_grow _ _ (Nat.le_refl _) _ _)⟩
theorem textOf_app (a b:List UInt8):textOf a++textOf b=textOf (a++b):=ByteArray.ext (by simp [textOf])
theorem textOf_size (a:List UInt8):(textOf a).size=a.length:=by simp [textOf,ByteArray.size]
theorem text_beq' (a b:List UInt8):((textOf a).toList==(textOf b).toList)=decide (a=b):=by
 rw[textOf_toList,textOf_toList,Bool.eq_iff_iff];simp
theorem callU_of {P:Program} {g:FuncId} {first captured args:Array Value} {w:World} {K:KV} (hb:(P.funcs[g]?).map (λfn=>fn.body.isSome)=some true) (h:CW.Spec P g (app3 first args captured) w K):
 callU P (.func (.func g) first captured) args w K:=by
 unfold callU
 simp only[hb]
 exact h
end Go.Proofs.YtdinpgnjnleioaaGreatDoor
end
section
namespace Go.Proofs.YtdinpgnjnleioaaGreatDoor.Sen
open CW RowKit
def layL (bs:List UInt8) (o:Nat) (cs:List UInt8):List UInt8:=bs.take o++cs++bs.drop (o+cs.length)
structure Lay (w:World) (out:Value) (g:Nat) (bs:List UInt8) (ww:World):Prop where
 gr:Grow w ww
 o:OwnB ww w.heap.size tb out bs
 b:BK ww g #[out] tB
 hb:w.heap.size<=g
 ne:out.ownBlock≠some g
theorem Lay.grow {w:World} {out:Value} {g:Nat} {bs:List UInt8} {ww w2:World} (h:Lay w out g bs ww) (k:Grow ww w2):Lay w out g bs w2:=
 ⟨h.gr.then k,Own.grow h.o k,h.b.grow k,h.hb,h.ne⟩
abbrev layV (g:Nat):Value:=.func (.func 234) #[] #[zA g]
theorem laid_c {w ww:World} {out:Value} {bs:List UInt8} {R:KV} (hg:Grow w ww) (ho:OwnB ww w.heap.size tb out bs)
 (k:∀g w',Lay w out g bs w'->R (layV g) w'):Zs 218 #[out] ww R:=by
 apply q133W
 refine nm λw0 e0=>?_
 have ec:Value.cells out= #[out]:=cells_one (Rd.isOne ho.rd)
 rw[ec]at e0
 obtain⟨b0,g0,_⟩:=alE e0
 refine k _ _ ⟨hg.then g0,Own.grow ho g0,b0,hg.size,λh=>?_⟩
 have:=Own.lt ho _ h
 omega
theorem lay_c {w ww:World} {out src:Value} {g:Nat} {bs cs:List UInt8} {o:Nat} {n:Int} {R:KV} (h:Lay w out g bs ww) (hn:n=(o:Int)) (hr:RdB ww src cs) (h1:o < bs.length) (h2:o+cs.length<=bs.length)
 (k:∀w',Lay w out g (layL bs o cs) w'->R (.tuple #[]) w'):callU Tryz.prog (layV g) #[.int .i64 n,src] ww R:=by
 subst hn
 refine callU_of (by kernel_rfl) ?_
 apply q134W
 obtain⟨v',hs,hc⟩:=own_tail (P:=Tryz.prog) (sT:=tB) (ty:=3) tyB h.o (o:=o) (by simpa using h1) .i64
 obtain⟨w',k1,k2,k3⟩:=hc ww (bs.map b8) src (cs.map b8) h.o rfl hr (λu hu=>by obtain⟨x,_,rfl⟩:=List.mem_map.1 hu;rfl) (by simpa using h2)
 refine withAddr_some ⟨_,h.b.at 0,v',hs,_,w',k1,k _ ⟨?_,?_,?_,h.hb,h.ne⟩⟩
 ·obtain⟨f1,f2,f3,f4,f5⟩:=k3
  refine⟨f1.trans h.gr.os,f2.trans h.gr.tape,f3.trans h.gr.output,Nat.le_trans h.gr.size f4,λq hq=>(f5 q (Nat.lt_of_lt_of_le hq h.gr.size) (λe=>?_)).trans (h.gr.block q hq)⟩
  have:=h.o.blk q e.symm
  omega
 ·have e:(layL bs o cs).map b8=(bs.map b8).take o++cs.map b8++(bs.map b8).drop (o+(cs.map b8).length):=by
   simp [layL,List.map_take,List.map_drop]
  unfold OwnB
  rw[e];exact k2
 ·obtain⟨f1,f2,f3,f4,f5⟩:=k3
  exact(f5 g h.b.lt (λe=>h.ne e.symm)).trans h.b
theorem lit_rd (w:World) (bs:List UInt8) (n:Nat) (hn:bs.length=n) (hm:n<=1000000) {w':World} (e:w'=World.alloc w (.cells (bs.map b8).toArray tb)):RdB w' (.slice (some ⟨w.heap.size,0,none⟩) n n) bs/\Grow w w':=by
 obtain⟨b,g,_⟩:=alE e
 subst hn
 refine⟨⟨some ⟨w.heap.size,0,none⟩,bs.length,by simp,by simp,by simp [maxLen];omega,(λh=>(by cases h)),λi u hi=>⟨_,rfl,?_⟩⟩,g⟩
 rw[b.cell]
 simpa using hi
def headB (info:Int):Int:=bif (IntKind.wrap .u32 info) !=(0:Int)then 240 else 112
def encS (key code info:Int):List UInt8:=
 layL (layL (layL (layL (layL (List.replicate 18 0) 0 [byt (headB info)]) 2 [byt (IntKind.wrap .u8 (bitsI .and .i64 key (15:Int)))]) 3 (putL (IntKind.wrap .u64 info) 4)) 7 [10]) 12 (putL (IntKind.wrap .u64 code) 2)
theorem encS_length (key code info:Int):(encS key code info).length=18:=by simp [encS,layL,putL_length]
theorem byt_b8 {n:Int} (h0:0<=n) (h1:n < 256):Value.int .u8 n=b8 (byt n):=by rw[←b8_byt];congr 1;omega
theorem wu8_range (n:Int):0<=IntKind.wrap .u8 n/\IntKind.wrap .u8 n < 256:=by
 rw[w8];omega
theorem Encode_c {w:World} {st key code info:Int} {d:Value} {R:KV} (k:∀v w',Grow w w'->OwnB w' w.heap.size tb v (encS key code info)->R v w'):
 Zs 190 #[.agg #[.int .i64 st,.int .i64 key,.int .i64 code,d,.int .i64 info]] w R:=by
 apply q131W
 refine nm λw0 e0=>?_
 obtain⟨b0,g0,_⟩:=alE e0
 obtain⟨v1,w2,h2,o2,g2⟩:=make_bytes (w:=w0) 18 (by omega)
 refine⟨v1,w2,h2,?_⟩
 refine laid_c (w:=w0) g2 o2 λg w4 h4=>?_
 refine JoinP.int (λn w'=>n=headB info/\w'=w4) (λj hj=>?_) ?_
 ·refine⟨_,(b0.grow h4.gr).cell 4,cond_intro (λh=>hj _ _ ⟨?_,rfl⟩) (λh=>hj _ _ ⟨?_,rfl⟩)⟩<;>simp only[headB,h,cond_true,cond_false]
 rintro n w6 ⟨rfl,rfl⟩
 have hh:0<=headB info/\headB info < 256:=by unfold headB;cases ((IntKind.wrap .u32 info) !=(0:Int))<;>simp
 refine nm λw7 e7=>?_
 rw[byt_b8 hh.1 hh.2]at e7
 obtain⟨r7,g7⟩:=lit_rd w6 [byt (headB info)] 1 rfl (by omega) e7
 refine lay_c (o:=0) (h4.grow g7) rfl r7 (by simp) (by simp) λw9 h9=>⟨rfl,_,(b0.grow h9.gr).cell 1,nm λw11 e11=>?_⟩
 have hk:=wu8_range (bitsI .and .i64 key (15:Int))
 rw[byt_b8 hk.1 hk.2]at e11
 obtain⟨r11,g11⟩:=lit_rd w9 [byt (IntKind.wrap .u8 (bitsI .and .i64 key (15:Int)))] 1 rfl (by omega) e11
 refine lay_c (o:=2) (h9.grow g11) rfl r11 (by simp [layL]) (by simp [layL]) λw13 h13=>⟨rfl,_,(b0.grow h13.gr).cell 4,?_⟩
 refine bin_Put_c (bs:=[]) (Rd.nil _) (by simp) λv15 w16 g16 r15 _=>?_
 rw[show putS [] (IntKind.wrap .u64 info) 4=putL (IntKind.wrap .u64 info) 4 from rfl]at r15
 refine lay_c (o:=3) (h13.grow g16) rfl r15 (by simp [layL]) (by simp [layL,putL_length]) λw18 h18=>⟨rfl,nm λw19 e19=>?_⟩
 obtain⟨r19,g19⟩:=lit_rd w18 [10] 1 rfl (by omega) e19
 refine lay_c (o:=7) (h18.grow g19) rfl r19 (by simp [layL,putL_length]) (by simp [layL,putL_length]) λw21 h21=>⟨rfl,_,(b0.grow h21.gr).cell 2,?_⟩
 refine bin_Put_c (bs:=[]) (Rd.nil _) (by simp) λv23 w24 g24 r23 _=>?_
 rw[show putS [] (IntKind.wrap .u64 code) 2=putL (IntKind.wrap .u64 code) 2 from rfl]at r23
 refine lay_c (o:=12) (h21.grow g24) rfl r23 (by simp [layL,putL_length]) (by simp [layL,putL_length]) λw26 h26=>⟨rfl,?_⟩
 exact k _ _ (g0.then h26.gr) (h26.o.mono g0.size)
end Go.Proofs.YtdinpgnjnleioaaGreatDoor.Sen
end
