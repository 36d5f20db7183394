/- A part of the proof. -/
import Derived.Test.YtdinpgnjnleioaaGreatDoorSRfX1
import Derived.Test.YtdinpgnjnleioaaGreatDoorSGL21
set_option linter.unusedSimpArgs false
set_option linter.unusedVariables false
set_option maxRecDepth 100000
namespace Go.Proofs.YtdinpgnjnleioaaGreatDoor.Rf
open CW RowKit
open Ses (Cm Rp RpAt RpOk rRp rCm nilV m32 Doer)
theorem and7 (n:Nat) (h:n < 4294967296):bitsI .and .i64 (n:Int) (7:Int)=((n % 8:Nat):Int):=by
 show IntKind.wrap .i64 (((BitVec.ofInt 64 (n:Int)&&& BitVec.ofInt 64 7).toNat:Nat):Int)=_
 have e:(BitVec.ofInt 64 (n:Int)&&& BitVec.ofInt 64 7).toNat=n % 8:=by
  have e7:(BitVec.ofInt 64 7)=BitVec.ofNat 64 7:=rfl
  rw[e7,BitVec.toNat_and,BitVec.toNat_ofNat,BitVec.toNat_ofInt]
  have:(7 % 2 ^ 64:Nat)=2 ^ 3 - 1:=rfl
  rw[this,Nat.and_two_pow_sub_one_eq_mod]
  omega
 rw[e,wi64_id (by omega) (by omega)]
end Go.Proofs.YtdinpgnjnleioaaGreatDoor.Rf
namespace Go.Proofs.YtdinpgnjnleioaaGreatDoor.Pip
open CW RowKit Pdu Rf
open Ses (Wire WireOk Doer St SAt Cm Rp wireP wireP_ok Prm newS ET)
variable {w:World}
theorem acl_c {R:KV} (k:∀v w',Grow w w'->RdR ET w' v [iqA,iqB]->R v w'):Zs 9 #[] w R:=by
 apply q14W
 refine nm λw0 e0=>?_
 have g0:Grow w w0:=by rw[e0];exact Grow.al (Grow.refl w) _
 have ho:OwnR ET w0 w.heap.size 9 (.slice (some ⟨w.heap.size,0,none⟩) 2 2) [iqA,iqB]:=by
  rw[e0]
  exact OwnR.lit w (Nat.le_refl _) 9 [iqA,iqB] 2 rfl (by simp [maxLen])
 exact k _ w0 g0 ho.rd
end Go.Proofs.YtdinpgnjnleioaaGreatDoor.Pip
