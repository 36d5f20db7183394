/- A text of this seat: Shelf. -/
import Derived.Shelf.Small.Strs
import Derived.Shelf.Utf8.RuneCount
import Derived.Shelf.Strconv.Itoa0
import Derived.Shelf.Strconv.Itoa1
import Derived.Shelf.LaysM
import Derived.Shelf.Strconv.Itoa2
import Derived.Shelf.Strconv.Itoa3
import Derived.Shelf.Strconv.Clone
import Derived.Shelf.Strconv.Lower
import Derived.Shelf.Strings.Search1
import Derived.Shelf.Strings.Search2
import Derived.Shelf.Strings.Search3
import Derived.Shelf.Strings.Cut
import Derived.Shelf.Strings.Count
import Derived.Shelf.Strings.Shaped
import Derived.Shelf.Strings.Split
import Derived.Shelf.Strings.SplitShaped
import Derived.Shelf.Unicode.Decode
import Derived.Shelf.Strings.RuneCount
import Derived.Shelf.Strings.Explode
import Derived.Shelf.Unicode.DecodeSlow
import Derived.Shelf.Unicode.DecodeAny
import Derived.Shelf.Slices.Turned
import Derived.Ground.Names2Prog
import Derived.Shelf.Slices.Clone
import Derived.Ground.SlgnProg
import Derived.Shelf.SlicesE.Clone
import Derived.Test.YtdinpgnjnleioaaGreatDoorProg
namespace Go.Proofs
open Go.Shelf
def Tryz.lays137_ren : Go.Shelf.Ren := ⟨fun | 137 => 174 | 217 => 212 | 266 => 225 | n => n, fun | 9 => 9 | 5 => 5 | 3 => 3 | n => n, fun | n => n⟩
theorem Tryz.lays137 : Go.Proofs.Lays.n137 Tryz.prog Tryz.lays137_ren := {
 mixed := by kernel_rfl
 f137 := Tryz.func174.trans (congrArg some (by kernel_rfl))
 f217 := Tryz.func212.trans (congrArg some (by kernel_rfl))
 f266 := Tryz.func225.trans (congrArg some (by kernel_rfl))
 t3 := Tryz.underlying3
 a3 := Tryz.isAgg3
 z3 := Tryz.sizeOf3
 v3 := Tryz.zeroValue3
 t5 := Tryz.underlying5
 a5 := Tryz.isAgg5
 z5 := Tryz.sizeOf5
 v5 := Tryz.zeroValue5
 t9 := Tryz.underlying9
 a9 := Tryz.isAgg9
 z9 := Tryz.sizeOf9
 v9 := Tryz.zeroValue9 }
open Go.RowKit in
theorem Tryz.strings_IndexByte (s : ByteArray) (c : Int) (w : World) :
 Calls Tryz.prog 174 #[.string s, .int .u8 c] w fun e w' => e = .returned (.int .i64 (Lib.indexByte s.data.toList c.toNat.toUInt8)) ∧ w' = w := Any.strings_IndexByte Tryz.lays137 s c w
def Tryz.laysM246_ren : Go.Shelf.Ren := ⟨fun | 246 => 213 | 283 => 226 | 284 => 227 | 285 => 228 | 286 => 229 | 129 => 241 | 317 => 240 | 318 => 242 | 319 => 243 | 320 => 244 | 337 => 252 | 338 => 253 | n => n, fun | 2 => 2 | 3 => 3 | 9 => 9 | 4 => 4 | 171 => 294 | 0 => 0 | 53 => 62 | 37 => 33 | 5 => 5 | 173 => 297 | 212 => 308 | 51 => 38 | 20 => 20 | 213 => 309 | 46 => 164 | 232 => 325 | 233 => 326 | n => n, fun | 17 => 1 | 18 => 2 | 19 => 3 | n => n⟩
def Tryz.laysM243_ren : Go.Shelf.Ren := ⟨fun | 243 => 176 | 246 => 213 | 283 => 226 | 284 => 227 | 285 => 228 | 286 => 229 | 129 => 241 | 317 => 240 | 318 => 242 | 319 => 243 | 320 => 244 | 337 => 252 | 338 => 253 | n => n, fun | 3 => 3 | 9 => 9 | 2 => 2 | 4 => 4 | 171 => 294 | 0 => 0 | 53 => 62 | 37 => 33 | 5 => 5 | 173 => 297 | 212 => 308 | 51 => 38 | 20 => 20 | 213 => 309 | 46 => 164 | 232 => 325 | 233 => 326 | n => n, fun | 17 => 1 | 18 => 2 | 19 => 3 | n => n⟩
def Tryz.laysM171_ren : Go.Shelf.Ren := ⟨fun | 171 => 132 | 243 => 176 | 246 => 213 | 283 => 226 | 284 => 227 | 285 => 228 | 286 => 229 | 129 => 241 | 317 => 240 | 318 => 242 | 319 => 243 | 320 => 244 | 337 => 252 | 338 => 253 | n => n, fun | 3 => 3 | 9 => 9 | 2 => 2 | 4 => 4 | 171 => 294 | 0 => 0 | 53 => 62 | 37 => 33 | 5 => 5 | 173 => 297 | 212 => 308 | 51 => 38 | 20 => 20 | 213 => 309 | 46 => 164 | 232 => 325 | 233 => 326 | n => n, fun | 17 => 1 | 18 => 2 | 19 => 3 | n => n⟩
theorem Tryz.laysM171 : Go.Proofs.LaysM.n171 Tryz.prog Tryz.laysM171_ren := {
 mixed := by kernel_rfl
 f129 := Tryz.func241.trans (congrArg some (by kernel_rfl))
 f171 := Tryz.func132.trans (congrArg some (by kernel_rfl))
 f243 := Tryz.func176.trans (congrArg some (by kernel_rfl))
 f246 := Tryz.func213.trans (congrArg some (by kernel_rfl))
 f283 := Tryz.func226.trans (congrArg some (by kernel_rfl))
 f284 := Tryz.func227.trans (congrArg some (by kernel_rfl))
 f285 := Tryz.func228.trans (congrArg some (by kernel_rfl))
 f286 := Tryz.func229.trans (congrArg some (by kernel_rfl))
 f317 := Tryz.func240.trans (congrArg some (by kernel_rfl))
 f318 := Tryz.func242.trans (congrArg some (by kernel_rfl))
 f319 := Tryz.func243.trans (congrArg some (by kernel_rfl))
 f320 := Tryz.func244.trans (congrArg some (by kernel_rfl))
 f337 := Tryz.func252.trans (congrArg some (by kernel_rfl))
 f338 := Tryz.func253.trans (congrArg some (by kernel_rfl))
 t0 := Tryz.underlying0
 a0 := Tryz.isAgg0
 z0 := Tryz.sizeOf0
 v0 := Tryz.zeroValue0
 t2 := Tryz.underlying2
 a2 := Tryz.isAgg2
 z2 := Tryz.sizeOf2
 v2 := Tryz.zeroValue2
 t3 := Tryz.underlying3
 a3 := Tryz.isAgg3
 z3 := Tryz.sizeOf3
 v3 := Tryz.zeroValue3
 t4 := Tryz.underlying4
 a4 := Tryz.isAgg4
 z4 := Tryz.sizeOf4
 v4 := Tryz.zeroValue4
 t5 := Tryz.underlying5
 a5 := Tryz.isAgg5
 z5 := Tryz.sizeOf5
 v5 := Tryz.zeroValue5
 t9 := Tryz.underlying9
 a9 := Tryz.isAgg9
 z9 := Tryz.sizeOf9
 v9 := Tryz.zeroValue9
 t20 := Tryz.underlying20
 a20 := Tryz.isAgg20
 z20 := Tryz.sizeOf20
 v20 := Tryz.zeroValue20
 t37 := Tryz.underlying33
 a37 := Tryz.isAgg33
 z37 := Tryz.sizeOf33
 v37 := Tryz.zeroValue33
 t46 := Tryz.underlying164
 a46 := Tryz.isAgg164
 z46 := Tryz.sizeOf164
 v46 := Tryz.zeroValue164
 t51 := Tryz.underlying38
 a51 := Tryz.isAgg38
 z51 := Tryz.sizeOf38
 v51 := Tryz.zeroValue38
 t53 := Tryz.underlying62
 a53 := Tryz.isAgg62
 z53 := Tryz.sizeOf62
 v53 := Tryz.zeroValue62
 t171 := Tryz.underlying294
 a171 := Tryz.isAgg294
 z171 := Tryz.sizeOf294
 v171 := Tryz.zeroValue294
 t173 := Tryz.underlying297
 a173 := Tryz.isAgg297
 z173 := Tryz.sizeOf297
 v173 := Tryz.zeroValue297
 t212 := Tryz.underlying308
 a212 := Tryz.isAgg308
 z212 := Tryz.sizeOf308
 v212 := Tryz.zeroValue308
 t213 := Tryz.underlying309
 a213 := Tryz.isAgg309
 z213 := Tryz.sizeOf309
 t232 := Tryz.underlying325
 a232 := Tryz.isAgg325
 z232 := Tryz.sizeOf325
 v232 := Tryz.zeroValue325
 t233 := Tryz.underlying326
 a233 := Tryz.isAgg326
 z233 := Tryz.sizeOf326
 v233 := Tryz.zeroValue326
 g17 := by kernel_rfl
 g18 := by kernel_rfl
 g19 := by kernel_rfl
 i0 := by kernel_rfl
 i2 := by kernel_rfl
 i3 := by kernel_rfl
 i4 := by kernel_rfl
 i5 := by kernel_rfl
 i9 := by kernel_rfl
 i20 := by kernel_rfl
 i37 := by kernel_rfl
 i46 := by kernel_rfl
 i51 := by kernel_rfl
 i53 := by kernel_rfl
 i171 := by kernel_rfl
 i173 := by kernel_rfl
 i212 := by kernel_rfl
 i232 := by kernel_rfl
 i233 := by kernel_rfl
 m17 := by kernel_rfl
 m18 := by kernel_rfl
 m19 := by kernel_rfl }
open Go.RowKit Go.Sort Go.Lib in
theorem Tryz.strconv_Itoa (n : Int) (h0 : -9223372036854775808 ≤ n) (h1 : n ≤ 9223372036854775807) (w : World) (htab : Lib.TabIs Tryz.prog w "internal/strconv.uint64pow10" .u64 Lib.pow10Tab) :
 Calls Tryz.prog 132 #[.int .i64 n] w fun e w' => e = .returned (.string ⟨(Lib.itoa n).toArray⟩) ∧ ∃ k os, w' = grow (w.drewN k) os := Any.strconv_Itoa Tryz.laysM171 n h0 h1 w htab
def Tryz.lays219_ren : Go.Shelf.Ren := ⟨fun | 219 => 219 | 217 => 212 | 225 => 235 | 224 => 236 | 267 => 237 | 266 => 225 | 314 => 247 | n => n, fun | 9 => 9 | 3 => 3 | 4 => 4 | 5 => 5 | 46 => 164 | 146 => 312 | 51 => 38 | n => n, fun | 1 => 0 | n => n⟩
def Tryz.lays145_ren : Go.Shelf.Ren := ⟨fun | 145 => 155 | 220 => 194 | 219 => 219 | 217 => 212 | 225 => 235 | 224 => 236 | 267 => 237 | 266 => 225 | 314 => 247 | n => n, fun | 9 => 9 | 4 => 4 | 59 => 233 | 3 => 3 | 5 => 5 | 46 => 164 | 146 => 312 | 51 => 38 | n => n, fun | 1 => 0 | n => n⟩
theorem Tryz.lays145 : Go.Proofs.Lays.n145 Tryz.prog Tryz.lays145_ren := {
 mixed := by kernel_rfl
 f145 := Tryz.func155.trans (congrArg some (by kernel_rfl))
 f217 := Tryz.func212.trans (congrArg some (by kernel_rfl))
 f219 := Tryz.func219.trans (congrArg some (by kernel_rfl))
 f220 := Tryz.func194.trans (congrArg some (by kernel_rfl))
 f224 := Tryz.func236.trans (congrArg some (by kernel_rfl))
 f225 := Tryz.func235.trans (congrArg some (by kernel_rfl))
 f266 := Tryz.func225.trans (congrArg some (by kernel_rfl))
 f267 := Tryz.func237.trans (congrArg some (by kernel_rfl))
 f314 := Tryz.func247.trans (congrArg some (by kernel_rfl))
 t3 := Tryz.underlying3
 a3 := Tryz.isAgg3
 z3 := Tryz.sizeOf3
 v3 := Tryz.zeroValue3
 t4 := Tryz.underlying4
 a4 := Tryz.isAgg4
 z4 := Tryz.sizeOf4
 v4 := Tryz.zeroValue4
 t5 := Tryz.underlying5
 a5 := Tryz.isAgg5
 z5 := Tryz.sizeOf5
 v5 := Tryz.zeroValue5
 t9 := Tryz.underlying9
 a9 := Tryz.isAgg9
 z9 := Tryz.sizeOf9
 v9 := Tryz.zeroValue9
 t46 := Tryz.underlying164
 a46 := Tryz.isAgg164
 z46 := Tryz.sizeOf164
 v46 := Tryz.zeroValue164
 t51 := Tryz.underlying38
 a51 := Tryz.isAgg38
 z51 := Tryz.sizeOf38
 v51 := Tryz.zeroValue38
 t59 := Tryz.underlying233
 a59 := Tryz.isAgg233
 z59 := Tryz.sizeOf233
 v59 := Tryz.zeroValue233
 t146 := Tryz.underlying312
 a146 := Tryz.isAgg312
 z146 := Tryz.sizeOf312
 v146 := Tryz.zeroValue312
 g1 := by kernel_rfl }
open Go.RowKit Go.Lib in
theorem Tryz.strings_Cut (s sep : ByteArray) (m : Int) (w : World) (hs : s.size < 4294967281) (hm : w.cell? ⟨0, 0, none⟩ = some (.int .i64 m)) :
 Calls Tryz.prog 155 #[.string s, .string sep] w fun e w' => e = .returned (.tuple #[.string ⟨(Lib.cut s.data.toList sep.data.toList).1.toArray⟩, .string ⟨(Lib.cut s.data.toList sep.data.toList).2.1.toArray⟩, .bool (Lib.cut s.data.toList sep.data.toList).2.2]) ∧ ∃ n, w' = w.drewN n := Any.strings_Cut Tryz.lays145 s sep m w hs hm
def Tryz.lays221_ren : Go.Shelf.Ren := ⟨fun | 221 => 239 | 268 => 249 | 138 => 250 | 143 => 251 | 195 => 259 | 197 => 260 | 218 => 261 | 219 => 219 | 260 => 266 | 217 => 212 | 225 => 235 | 224 => 236 | 267 => 237 | 266 => 225 | 314 => 247 | n => n, fun | 9 => 9 | 3 => 3 | 31 => 27 | 4 => 4 | 0 => 0 | 105 => 323 | 21 => 21 | 5 => 5 | 46 => 164 | 119 => 336 | 139 => 339 | 138 => 338 | 146 => 312 | 51 => 38 | n => n, fun | 1 => 0 | 3 => 6 | 4 => 7 | n => n⟩
def Tryz.lays146_ren : Go.Shelf.Ren := ⟨fun | 146 => 222 | 221 => 239 | 268 => 249 | 138 => 250 | 143 => 251 | 195 => 259 | 197 => 260 | 218 => 261 | 219 => 219 | 260 => 266 | 217 => 212 | 225 => 235 | 224 => 236 | 267 => 237 | 266 => 225 | 314 => 247 | n => n, fun | 9 => 9 | 31 => 27 | 3 => 3 | 4 => 4 | 0 => 0 | 105 => 323 | 21 => 21 | 5 => 5 | 46 => 164 | 119 => 336 | 139 => 339 | 138 => 338 | 146 => 312 | 51 => 38 | n => n, fun | 1 => 0 | 3 => 6 | 4 => 7 | n => n⟩
theorem Tryz.lays146 : Go.Proofs.Lays.n146 Tryz.prog Tryz.lays146_ren := {
 mixed := by kernel_rfl
 f138 := Tryz.func250.trans (congrArg some (by kernel_rfl))
 f143 := Tryz.func251.trans (congrArg some (by kernel_rfl))
 f146 := Tryz.func222.trans (congrArg some (by kernel_rfl))
 f195 := Tryz.func259.trans (congrArg some (by kernel_rfl))
 f197 := Tryz.func260.trans (congrArg some (by kernel_rfl))
 f217 := Tryz.func212.trans (congrArg some (by kernel_rfl))
 f218 := Tryz.func261.trans (congrArg some (by kernel_rfl))
 f219 := Tryz.func219.trans (congrArg some (by kernel_rfl))
 f221 := Tryz.func239.trans (congrArg some (by kernel_rfl))
 f224 := Tryz.func236.trans (congrArg some (by kernel_rfl))
 f225 := Tryz.func235.trans (congrArg some (by kernel_rfl))
 f260 := Tryz.func266.trans (congrArg some (by kernel_rfl))
 f266 := Tryz.func225.trans (congrArg some (by kernel_rfl))
 f267 := Tryz.func237.trans (congrArg some (by kernel_rfl))
 f268 := Tryz.func249.trans (congrArg some (by kernel_rfl))
 f314 := Tryz.func247.trans (congrArg some (by kernel_rfl))
 t0 := Tryz.underlying0
 a0 := Tryz.isAgg0
 z0 := Tryz.sizeOf0
 v0 := Tryz.zeroValue0
 t3 := Tryz.underlying3
 a3 := Tryz.isAgg3
 z3 := Tryz.sizeOf3
 v3 := Tryz.zeroValue3
 t4 := Tryz.underlying4
 a4 := Tryz.isAgg4
 z4 := Tryz.sizeOf4
 v4 := Tryz.zeroValue4
 t5 := Tryz.underlying5
 a5 := Tryz.isAgg5
 z5 := Tryz.sizeOf5
 v5 := Tryz.zeroValue5
 t9 := Tryz.underlying9
 a9 := Tryz.isAgg9
 z9 := Tryz.sizeOf9
 v9 := Tryz.zeroValue9
 t21 := Tryz.underlying21
 a21 := Tryz.isAgg21
 z21 := Tryz.sizeOf21
 v21 := Tryz.zeroValue21
 t31 := Tryz.underlying27
 a31 := Tryz.isAgg27
 z31 := Tryz.sizeOf27
 v31 := Tryz.zeroValue27
 t46 := Tryz.underlying164
 a46 := Tryz.isAgg164
 z46 := Tryz.sizeOf164
 v46 := Tryz.zeroValue164
 t51 := Tryz.underlying38
 a51 := Tryz.isAgg38
 z51 := Tryz.sizeOf38
 v51 := Tryz.zeroValue38
 t105 := Tryz.underlying323
 a105 := Tryz.isAgg323
 z105 := Tryz.sizeOf323
 v105 := Tryz.zeroValue323
 t119 := Tryz.underlying336
 a119 := Tryz.isAgg336
 z119 := Tryz.sizeOf336
 t138 := Tryz.underlying338
 a138 := Tryz.isAgg338
 z138 := Tryz.sizeOf338
 v138 := Tryz.zeroValue338
 t139 := Tryz.underlying339
 a139 := Tryz.isAgg339
 z139 := Tryz.sizeOf339
 v139 := Tryz.zeroValue339
 t146 := Tryz.underlying312
 a146 := Tryz.isAgg312
 z146 := Tryz.sizeOf312
 v146 := Tryz.zeroValue312
 g1 := by kernel_rfl
 g3 := by kernel_rfl
 g4 := by kernel_rfl }
open Go.RowKit Go.Lib in
theorem Tryz.strings_Split (s sep : ByteArray) (m : Int) (w : World) (hs : s.size < 4294967281) (hm : w.cell? ⟨0, 0, none⟩ = some (.int .i64 m)) (h1 : 1 ≤ sep.size) :
 Calls Tryz.prog 222 #[.string s, .string sep] w fun e w' =>
  e = .returned (.slice (some ⟨w.heap.size, 0, none⟩) (Lib.countB s sep + 1) (Lib.countB s sep + 1)) ∧ w' = w.alloc (.cells ((Lib.splitB sep 0 (Lib.countB s sep) s).map Value.string).toArray 9) := Any.strings_Split Tryz.lays146 (by kernel_rfl) s sep m w hs hm h1
end Go.Proofs
