/- A part of the proof. -/
import Derived.Test.YtdpmhkbhlbfbeaaGreatDoorZCwG
import Derived.Test.YtdpmhkbhlbfbeaaGreatDoorChecked
import Derived.KernelRfl
namespace Go.Proofs.YtdpmhkbhlbfbeaaGreatDoor
open CW
def namesB (P:Program):Bool:=P.funcs.toList.all λfn=>!fn.body.isSome|| !(fn.name== "runtime.NumGoroutine")
theorem namesOk_of {P:Program} (h:namesB P=true):NamesOk P:=by
 intro f fn hf hb
 unfold namesB at h
 rw[List.all_eq_true]at h
 have:=h fn (by have:=Array.mem_of_getElem? hf;simpa using this)
 simp only[hb,Bool.not_true,Bool.false_or,Bool.not_eq_true']at this
 exact this
theorem names:NamesOk Tryz.prog:=namesOk_of (by kernel_rfl)
theorem draws:DrawOk Tryz.prog drawK:=drawK_ok names (by kernel_rfl)
theorem spec_of {f:FuncId} {fn:Func} {args:Array Value} {w:World} {R:KV} {F:Prop} (hf:Tryz.prog.funcs[f]? =some fn)
 (hwf:((match fn.body with|some c=>wfC fn.ntmps c|none=>false)&&Nat.ble args.size fn.ntmps)=true) (he:F=fnK Tryz.prog drawK fn args w R) (h:F):CW.Spec Tryz.prog f args w R:=
 calls_of_fnK names draws hf hwf (he▸h)
theorem sp {f:FuncId} {fn:Func} {args:Array Value} {w:World} {R:KV} {F:Prop} (hf:Tryz.prog.funcs[f]? =some fn) (h:F)
 (hwf:((match fn.body with|some c=>wfC fn.ntmps c|none=>false)&&Nat.ble args.size fn.ntmps)=true:=by kernel_rfl) (he:F=fnK Tryz.prog drawK fn args w R:=by kernel_rfl):CW.Spec Tryz.prog f args w R:=spec_of hf hwf he h
abbrev nvc:Value:=.slice none 0 0
abbrev r5c (a b c:Int) (v:Value) (d:Int):Array Value:= #[.int .i64 a,.int .i64 b,.int .i64 c,v,.int .i64 d]
abbrev r8c (a b c:Int) (v:Value) (d e f:Int) (g:Bool):Array Value:= #[.int .i64 a,.int .i64 b,.int .i64 c,v,.int .u64 d,.int .u64 e,.int .i64 f,.bool g]
abbrev pdc (a:Int) (b:Bool) (c d e f g h i j k0 k1 k2 k3 k4 k5 k6 k7 k8 k9 k10 k11 k12 k13 k14 k15:Int) (v:Value):Array Value:= #[.int .i64 a,.bool b,.int .i64 c,.int .i64 d,.int .u32 e,.int .u32 f,.int .u32 g,.int .u32 h,.int .u32 i,.int .u32 j,.int .u8 k0,.int .u8 k1,.int .u8 k2,.int .u8 k3,.int .u8 k4,.int .u8 k5,.int .u8 k6,.int .u8 k7,.int .u8 k8,.int .u8 k9,.int .u8 k10,.int .u8 k11,.int .u8 k12,.int .u8 k13,.int .u8 k14,.int .u8 k15,v]
abbrev pd0:Array Value:=pdc 0 false 0 0 0 0 0 0 0 0 0 0 0 0 0 0 0 0 0 0 0 0 0 0 0 0 nvc
end Go.Proofs.YtdpmhkbhlbfbeaaGreatDoor
