/- A text of this seat: Shelf. -/
import Derived.Shelf.Small.Bits
import Derived.Shelf.Small.Strs
import Derived.Shelf.Utf8.RuneCount
import Derived.Shelf.Strconv.Itoa0
import Derived.Shelf.Strconv.Itoa1
import Derived.Shelf.LaysM
import Derived.Shelf.Strconv.Itoa2
import Derived.Shelf.Strconv.Itoa3
import Derived.Shelf.Strconv.Clone
import Derived.Shelf.Strconv.Lower
import Derived.Shelf.Strings.Search1
import Derived.Shelf.Strings.Search2
import Derived.Shelf.Strings.Search3
import Derived.Shelf.Strings.Cut
import Derived.Shelf.Strings.Count
import Derived.Shelf.Strings.Shaped
import Derived.Shelf.Sort.Plain
import Derived.Shelf.Strings.Split
import Derived.Shelf.Strings.SplitShaped
import Derived.Shelf.Unicode.Decode
import Derived.Shelf.Strings.RuneCount
import Derived.Shelf.Strings.Explode
import Derived.Shelf.Unicode.DecodeSlow
import Derived.Shelf.Unicode.DecodeAny
import Derived.Shelf.Slices.Turned
import Derived.Ground.Names2Prog
import Derived.Shelf.Slices.Clone
import Derived.Shelf.Slices.SearchI
import Derived.Shelf.Slices.In.SortNone
import Derived.Ground.SlgnProg
import Derived.Shelf.SlicesE.Clone
import Derived.Shelf.Bytes.Small
import Derived.Test.YtghineciiljeoaaGreatDoorProg
namespace Go.Proofs
open Go.Shelf
def Tryz.lays137_ren : Go.Shelf.Ren := ⟨fun | 137 => 268 | 217 => 311 | 266 => 351 | n => n, fun | 9 => 9 | 5 => 5 | 3 => 3 | n => n, fun | n => n⟩
theorem Tryz.lays137 : Go.Proofs.Lays.n137 Tryz.prog Tryz.lays137_ren := {
 mixed := by kernel_rfl
 f137 := Tryz.func268.trans (congrArg some (by kernel_rfl))
 f217 := Tryz.func311.trans (congrArg some (by kernel_rfl))
 f266 := Tryz.func351.trans (congrArg some (by kernel_rfl))
 t3 := Tryz.underlying3
 a3 := Tryz.isAgg3
 z3 := Tryz.sizeOf3
 v3 := Tryz.zeroValue3
 t5 := Tryz.underlying5
 a5 := Tryz.isAgg5
 z5 := Tryz.sizeOf5
 v5 := Tryz.zeroValue5
 t9 := Tryz.underlying9
 a9 := Tryz.isAgg9
 z9 := Tryz.sizeOf9
 v9 := Tryz.zeroValue9 }
open Go.RowKit in
theorem Tryz.strings_IndexByte (s : ByteArray) (c : Int) (w : World) :
 Calls Tryz.prog 268 #[.string s, .int .u8 c] w fun e w' => e = .returned (.int .i64 (Lib.indexByte s.data.toList c.toNat.toUInt8)) ∧ w' = w := Any.strings_IndexByte Tryz.lays137 s c w
def Tryz.laysM246_ren : Go.Shelf.Ren := ⟨fun | 246 => 312 | 283 => 352 | 284 => 353 | 285 => 354 | 286 => 355 | 129 => 306 | 317 => 367 | 318 => 368 | 319 => 369 | 320 => 370 | 337 => 379 | 338 => 380 | n => n, fun | 2 => 2 | 3 => 3 | 9 => 9 | 4 => 4 | 171 => 457 | 0 => 0 | 53 => 38 | 37 => 34 | 5 => 5 | 173 => 459 | 212 => 472 | 51 => 28 | 20 => 20 | 213 => 473 | 46 => 99 | 232 => 487 | 233 => 488 | n => n, fun | 17 => 1 | 18 => 2 | 19 => 3 | n => n⟩
def Tryz.laysM243_ren : Go.Shelf.Ren := ⟨fun | 243 => 270 | 246 => 312 | 283 => 352 | 284 => 353 | 285 => 354 | 286 => 355 | 129 => 306 | 317 => 367 | 318 => 368 | 319 => 369 | 320 => 370 | 337 => 379 | 338 => 380 | n => n, fun | 3 => 3 | 9 => 9 | 2 => 2 | 4 => 4 | 171 => 457 | 0 => 0 | 53 => 38 | 37 => 34 | 5 => 5 | 173 => 459 | 212 => 472 | 51 => 28 | 20 => 20 | 213 => 473 | 46 => 99 | 232 => 487 | 233 => 488 | n => n, fun | 17 => 1 | 18 => 2 | 19 => 3 | n => n⟩
def Tryz.laysM171_ren : Go.Shelf.Ren := ⟨fun | 171 => 214 | 243 => 270 | 246 => 312 | 283 => 352 | 284 => 353 | 285 => 354 | 286 => 355 | 129 => 306 | 317 => 367 | 318 => 368 | 319 => 369 | 320 => 370 | 337 => 379 | 338 => 380 | n => n, fun | 3 => 3 | 9 => 9 | 2 => 2 | 4 => 4 | 171 => 457 | 0 => 0 | 53 => 38 | 37 => 34 | 5 => 5 | 173 => 459 | 212 => 472 | 51 => 28 | 20 => 20 | 213 => 473 | 46 => 99 | 232 => 487 | 233 => 488 | n => n, fun | 17 => 1 | 18 => 2 | 19 => 3 | n => n⟩
theorem Tryz.laysM171 : Go.Proofs.LaysM.n171 Tryz.prog Tryz.laysM171_ren := {
 mixed := by kernel_rfl
 f129 := Tryz.func306.trans (congrArg some (by kernel_rfl))
 f171 := Tryz.func214.trans (congrArg some (by kernel_rfl))
 f243 := Tryz.func270.trans (congrArg some (by kernel_rfl))
 f246 := Tryz.func312.trans (congrArg some (by kernel_rfl))
 f283 := Tryz.func352.trans (congrArg some (by kernel_rfl))
 f284 := Tryz.func353.trans (congrArg some (by kernel_rfl))
 f285 := Tryz.func354.trans (congrArg some (by kernel_rfl))
 f286 := Tryz.func355.trans (congrArg some (by kernel_rfl))
 f317 := Tryz.func367.trans (congrArg some (by kernel_rfl))
 f318 := Tryz.func368.trans (congrArg some (by kernel_rfl))
 f319 := Tryz.func369.trans (congrArg some (by kernel_rfl))
 f320 := Tryz.func370.trans (congrArg some (by kernel_rfl))
 f337 := Tryz.func379.trans (congrArg some (by kernel_rfl))
 f338 := Tryz.func380.trans (congrArg some (by kernel_rfl))
 t0 := Tryz.underlying0
 a0 := Tryz.isAgg0
 z0 := Tryz.sizeOf0
 v0 := Tryz.zeroValue0
 t2 := Tryz.underlying2
 a2 := Tryz.isAgg2
 z2 := Tryz.sizeOf2
 v2 := Tryz.zeroValue2
 t3 := Tryz.underlying3
 a3 := Tryz.isAgg3
 z3 := Tryz.sizeOf3
 v3 := Tryz.zeroValue3
 t4 := Tryz.underlying4
 a4 := Tryz.isAgg4
 z4 := Tryz.sizeOf4
 v4 := Tryz.zeroValue4
 t5 := Tryz.underlying5
 a5 := Tryz.isAgg5
 z5 := Tryz.sizeOf5
 v5 := Tryz.zeroValue5
 t9 := Tryz.underlying9
 a9 := Tryz.isAgg9
 z9 := Tryz.sizeOf9
 v9 := Tryz.zeroValue9
 t20 := Tryz.underlying20
 a20 := Tryz.isAgg20
 z20 := Tryz.sizeOf20
 v20 := Tryz.zeroValue20
 t37 := Tryz.underlying34
 a37 := Tryz.isAgg34
 z37 := Tryz.sizeOf34
 v37 := Tryz.zeroValue34
 t46 := Tryz.underlying99
 a46 := Tryz.isAgg99
 z46 := Tryz.sizeOf99
 v46 := Tryz.zeroValue99
 t51 := Tryz.underlying28
 a51 := Tryz.isAgg28
 z51 := Tryz.sizeOf28
 v51 := Tryz.zeroValue28
 t53 := Tryz.underlying38
 a53 := Tryz.isAgg38
 z53 := Tryz.sizeOf38
 v53 := Tryz.zeroValue38
 t171 := Tryz.underlying457
 a171 := Tryz.isAgg457
 z171 := Tryz.sizeOf457
 v171 := Tryz.zeroValue457
 t173 := Tryz.underlying459
 a173 := Tryz.isAgg459
 z173 := Tryz.sizeOf459
 v173 := Tryz.zeroValue459
 t212 := Tryz.underlying472
 a212 := Tryz.isAgg472
 z212 := Tryz.sizeOf472
 v212 := Tryz.zeroValue472
 t213 := Tryz.underlying473
 a213 := Tryz.isAgg473
 z213 := Tryz.sizeOf473
 t232 := Tryz.underlying487
 a232 := Tryz.isAgg487
 z232 := Tryz.sizeOf487
 v232 := Tryz.zeroValue487
 t233 := Tryz.underlying488
 a233 := Tryz.isAgg488
 z233 := Tryz.sizeOf488
 v233 := Tryz.zeroValue488
 g17 := by kernel_rfl
 g18 := by kernel_rfl
 g19 := by kernel_rfl
 i0 := by kernel_rfl
 i2 := by kernel_rfl
 i3 := by kernel_rfl
 i4 := by kernel_rfl
 i5 := by kernel_rfl
 i9 := by kernel_rfl
 i20 := by kernel_rfl
 i37 := by kernel_rfl
 i46 := by kernel_rfl
 i51 := by kernel_rfl
 i53 := by kernel_rfl
 i171 := by kernel_rfl
 i173 := by kernel_rfl
 i212 := by kernel_rfl
 i232 := by kernel_rfl
 i233 := by kernel_rfl
 m17 := by kernel_rfl
 m18 := by kernel_rfl
 m19 := by kernel_rfl }
open Go.RowKit Go.Sort Go.Lib in
theorem Tryz.strconv_Itoa (n : Int) (h0 : -9223372036854775808 ≤ n) (h1 : n ≤ 9223372036854775807) (w : World) (htab : Lib.TabIs Tryz.prog w "internal/strconv.uint64pow10" .u64 Lib.pow10Tab) :
 Calls Tryz.prog 214 #[.int .i64 n] w fun e w' => e = .returned (.string ⟨(Lib.itoa n).toArray⟩) ∧ ∃ k os, w' = grow (w.drewN k) os := Any.strconv_Itoa Tryz.laysM171 n h0 h1 w htab
def Tryz.lays219_ren : Go.Shelf.Ren := ⟨fun | 219 => 356 | 217 => 311 | 225 => 371 | 224 => 372 | 267 => 373 | 266 => 351 | 314 => 381 | n => n, fun | 9 => 9 | 3 => 3 | 4 => 4 | 5 => 5 | 46 => 99 | 146 => 477 | 51 => 28 | n => n, fun | 1 => 0 | n => n⟩
def Tryz.lays145_ren : Go.Shelf.Ren := ⟨fun | 145 => 283 | 220 => 320 | 219 => 356 | 217 => 311 | 225 => 371 | 224 => 372 | 267 => 373 | 266 => 351 | 314 => 381 | n => n, fun | 9 => 9 | 4 => 4 | 59 => 397 | 3 => 3 | 5 => 5 | 46 => 99 | 146 => 477 | 51 => 28 | n => n, fun | 1 => 0 | n => n⟩
theorem Tryz.lays145 : Go.Proofs.Lays.n145 Tryz.prog Tryz.lays145_ren := {
 mixed := by kernel_rfl
 f145 := Tryz.func283.trans (congrArg some (by kernel_rfl))
 f217 := Tryz.func311.trans (congrArg some (by kernel_rfl))
 f219 := Tryz.func356.trans (congrArg some (by kernel_rfl))
 f220 := Tryz.func320.trans (congrArg some (by kernel_rfl))
 f224 := Tryz.func372.trans (congrArg some (by kernel_rfl))
 f225 := Tryz.func371.trans (congrArg some (by kernel_rfl))
 f266 := Tryz.func351.trans (congrArg some (by kernel_rfl))
 f267 := Tryz.func373.trans (congrArg some (by kernel_rfl))
 f314 := Tryz.func381.trans (congrArg some (by kernel_rfl))
 t3 := Tryz.underlying3
 a3 := Tryz.isAgg3
 z3 := Tryz.sizeOf3
 v3 := Tryz.zeroValue3
 t4 := Tryz.underlying4
 a4 := Tryz.isAgg4
 z4 := Tryz.sizeOf4
 v4 := Tryz.zeroValue4
 t5 := Tryz.underlying5
 a5 := Tryz.isAgg5
 z5 := Tryz.sizeOf5
 v5 := Tryz.zeroValue5
 t9 := Tryz.underlying9
 a9 := Tryz.isAgg9
 z9 := Tryz.sizeOf9
 v9 := Tryz.zeroValue9
 t46 := Tryz.underlying99
 a46 := Tryz.isAgg99
 z46 := Tryz.sizeOf99
 v46 := Tryz.zeroValue99
 t51 := Tryz.underlying28
 a51 := Tryz.isAgg28
 z51 := Tryz.sizeOf28
 v51 := Tryz.zeroValue28
 t59 := Tryz.underlying397
 a59 := Tryz.isAgg397
 z59 := Tryz.sizeOf397
 v59 := Tryz.zeroValue397
 t146 := Tryz.underlying477
 a146 := Tryz.isAgg477
 z146 := Tryz.sizeOf477
 v146 := Tryz.zeroValue477
 g1 := by kernel_rfl }
open Go.RowKit Go.Lib in
theorem Tryz.strings_Cut (s sep : ByteArray) (m : Int) (w : World) (hs : s.size < 4294967281) (hm : w.cell? ⟨0, 0, none⟩ = some (.int .i64 m)) :
 Calls Tryz.prog 283 #[.string s, .string sep] w fun e w' => e = .returned (.tuple #[.string ⟨(Lib.cut s.data.toList sep.data.toList).1.toArray⟩, .string ⟨(Lib.cut s.data.toList sep.data.toList).2.1.toArray⟩, .bool (Lib.cut s.data.toList sep.data.toList).2.2]) ∧ ∃ n, w' = w.drewN n := Any.strings_Cut Tryz.lays145 s sep m w hs hm
def Tryz.lays221_ren : Go.Shelf.Ren := ⟨fun | 221 => 375 | 268 => 383 | 138 => 384 | 143 => 385 | 195 => 391 | 197 => 392 | 218 => 393 | 219 => 356 | 260 => 398 | 217 => 311 | 225 => 371 | 224 => 372 | 267 => 373 | 266 => 351 | 314 => 381 | n => n, fun | 9 => 9 | 3 => 3 | 31 => 129 | 4 => 4 | 0 => 0 | 105 => 490 | 21 => 21 | 5 => 5 | 46 => 99 | 119 => 501 | 139 => 504 | 138 => 503 | 146 => 477 | 51 => 28 | n => n, fun | 1 => 0 | 3 => 6 | 4 => 7 | n => n⟩
def Tryz.lays146_ren : Go.Shelf.Ren := ⟨fun | 146 => 359 | 221 => 375 | 268 => 383 | 138 => 384 | 143 => 385 | 195 => 391 | 197 => 392 | 218 => 393 | 219 => 356 | 260 => 398 | 217 => 311 | 225 => 371 | 224 => 372 | 267 => 373 | 266 => 351 | 314 => 381 | n => n, fun | 9 => 9 | 31 => 129 | 3 => 3 | 4 => 4 | 0 => 0 | 105 => 490 | 21 => 21 | 5 => 5 | 46 => 99 | 119 => 501 | 139 => 504 | 138 => 503 | 146 => 477 | 51 => 28 | n => n, fun | 1 => 0 | 3 => 6 | 4 => 7 | n => n⟩
theorem Tryz.lays146 : Go.Proofs.Lays.n146 Tryz.prog Tryz.lays146_ren := {
 mixed := by kernel_rfl
 f138 := Tryz.func384.trans (congrArg some (by kernel_rfl))
 f143 := Tryz.func385.trans (congrArg some (by kernel_rfl))
 f146 := Tryz.func359.trans (congrArg some (by kernel_rfl))
 f195 := Tryz.func391.trans (congrArg some (by kernel_rfl))
 f197 := Tryz.func392.trans (congrArg some (by kernel_rfl))
 f217 := Tryz.func311.trans (congrArg some (by kernel_rfl))
 f218 := Tryz.func393.trans (congrArg some (by kernel_rfl))
 f219 := Tryz.func356.trans (congrArg some (by kernel_rfl))
 f221 := Tryz.func375.trans (congrArg some (by kernel_rfl))
 f224 := Tryz.func372.trans (congrArg some (by kernel_rfl))
 f225 := Tryz.func371.trans (congrArg some (by kernel_rfl))
 f260 := Tryz.func398.trans (congrArg some (by kernel_rfl))
 f266 := Tryz.func351.trans (congrArg some (by kernel_rfl))
 f267 := Tryz.func373.trans (congrArg some (by kernel_rfl))
 f268 := Tryz.func383.trans (congrArg some (by kernel_rfl))
 f314 := Tryz.func381.trans (congrArg some (by kernel_rfl))
 t0 := Tryz.underlying0
 a0 := Tryz.isAgg0
 z0 := Tryz.sizeOf0
 v0 := Tryz.zeroValue0
 t3 := Tryz.underlying3
 a3 := Tryz.isAgg3
 z3 := Tryz.sizeOf3
 v3 := Tryz.zeroValue3
 t4 := Tryz.underlying4
 a4 := Tryz.isAgg4
 z4 := Tryz.sizeOf4
 v4 := Tryz.zeroValue4
 t5 := Tryz.underlying5
 a5 := Tryz.isAgg5
 z5 := Tryz.sizeOf5
 v5 := Tryz.zeroValue5
 t9 := Tryz.underlying9
 a9 := Tryz.isAgg9
 z9 := Tryz.sizeOf9
 v9 := Tryz.zeroValue9
 t21 := Tryz.underlying21
 a21 := Tryz.isAgg21
 z21 := Tryz.sizeOf21
 v21 := Tryz.zeroValue21
 t31 := Tryz.underlying129
 a31 := Tryz.isAgg129
 z31 := Tryz.sizeOf129
 v31 := Tryz.zeroValue129
 t46 := Tryz.underlying99
 a46 := Tryz.isAgg99
 z46 := Tryz.sizeOf99
 v46 := Tryz.zeroValue99
 t51 := Tryz.underlying28
 a51 := Tryz.isAgg28
 z51 := Tryz.sizeOf28
 v51 := Tryz.zeroValue28
 t105 := Tryz.underlying490
 a105 := Tryz.isAgg490
 z105 := Tryz.sizeOf490
 v105 := Tryz.zeroValue490
 t119 := Tryz.underlying501
 a119 := Tryz.isAgg501
 z119 := Tryz.sizeOf501
 t138 := Tryz.underlying503
 a138 := Tryz.isAgg503
 z138 := Tryz.sizeOf503
 v138 := Tryz.zeroValue503
 t139 := Tryz.underlying504
 a139 := Tryz.isAgg504
 z139 := Tryz.sizeOf504
 v139 := Tryz.zeroValue504
 t146 := Tryz.underlying477
 a146 := Tryz.isAgg477
 z146 := Tryz.sizeOf477
 v146 := Tryz.zeroValue477
 g1 := by kernel_rfl
 g3 := by kernel_rfl
 g4 := by kernel_rfl }
open Go.RowKit Go.Lib in
theorem Tryz.strings_Split (s sep : ByteArray) (m : Int) (w : World) (hs : s.size < 4294967281) (hm : w.cell? ⟨0, 0, none⟩ = some (.int .i64 m)) (h1 : 1 ≤ sep.size) :
 Calls Tryz.prog 359 #[.string s, .string sep] w fun e w' =>
  e = .returned (.slice (some ⟨w.heap.size, 0, none⟩) (Lib.countB s sep + 1) (Lib.countB s sep + 1)) ∧ w' = w.alloc (.cells ((Lib.splitB sep 0 (Lib.countB s sep) s).map Value.string).toArray 9) := Any.strings_Split Tryz.lays146 (by kernel_rfl) s sep m w hs hm h1
end Go.Proofs
