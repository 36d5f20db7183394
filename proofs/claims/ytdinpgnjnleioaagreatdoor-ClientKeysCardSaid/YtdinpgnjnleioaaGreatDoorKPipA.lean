/- Texts of this seat, one behind the other: Pip, Way, Run, Ruo, Rud, Trn, Phs, Ppe. -/
import Derived.Test.YtdinpgnjnleioaaGreatDoorKPlnX
set_option linter.unusedSimpArgs false
set_option linter.unusedVariables false
set_option maxRecDepth 100000
section
namespace Go.Proofs.YtdinpgnjnleioaaGreatDoor.Pip
open Go Go.CW Go.RowKit Go.Proofs.YtdinpgnjnleioaaGreatDoor Go.Proofs.YtdinpgnjnleioaaGreatDoor.Pdu
open Go.Proofs.YtdinpgnjnleioaaGreatDoor.Ses (Wire WireOk Doer St SAt Cm Rp rCm RpAt encQ_eq)
open Go.Proofs.YtdinpgnjnleioaaGreatDoor.Cli (Cl Pq encs CAt SenOk runC)
theorem Step.low {S S' : Fp} {w w' : World} {B : Nat} (st : Step S w w' S') (hB : B ≤ w.heap.size) (h : ∀ k, S k → B ≤ k) : Below B w w' :=
 ⟨st.os, st.tape, st.output, st.size, fun k hk => st.block k (by omega) (fun hs => by have := h k hs; omega)⟩
theorem Step.lo {S S' : Fp} {w w' : World} {B : Nat} (st : Step S w w' S') (hB : B ≤ w.heap.size) (h : ∀ k, S k → B ≤ k) : ∀ k, S' k → B ≤ k := fun k hk => (st.fp k hk).elim (h k) (fun q => Nat.le_trans hB q)
structure PAt (B : Nat) (Q : World → Prop) (K : Doer) (A : List (List UInt8)) (w : World) (gc gs : Nat) (Sc Ss : Fp) (c : Cl) (x : St K.U) : Prop where
 c : CAt w gc Sc [] c
 s : SAt K A w gs Ss [] x
 ap : ∀ k, Sc k → ¬ Ss k
 lc : ∀ k, Sc k → B ≤ k
 ls : ∀ k, Ss k → B ≤ k
 hB : B ≤ w.heap.size
 env : ∀ w', Below B w w' → Q w'
variable {B : Nat} {Q : World → Prop} {W : Wire} {K : Doer} {A : List (List UInt8)} {w w' : World} {gc gs : Nat} {Sc Ss Sc' Ss' : Fp} {c c' : Cl} {x x' : St K.U}
theorem PAt.q (h : PAt B Q K A w gc gs Sc Ss c x) : Q w := h.env w (Below.refl B w)
theorem PAt.envS {S S' : Fp} (h : PAt B Q K A w gc gs Sc Ss c x) (st : Step S w w' S') (hl : ∀ k, S k → B ≤ k) : ∀ w2, Below B w' w2 → Q w2 := fun w2 b => h.env w2 ((Step.low st h.hB hl).trans b)
theorem PAt.grow (h : PAt B Q K A w gc gs Sc Ss c x) (g : Grow w w') : PAt B Q K A w' gc gs Sc Ss c x :=
 ⟨h.c.grow g, h.s.grow g, h.ap, h.lc, h.ls, Nat.le_trans h.hB g.size, fun w2 b => h.env w2 ((g.mono h.hB).trans b)⟩
theorem PAt.apart {T T' : Fp} (h : PAt B Q K A w gc gs Sc Ss c x) (st : Step T w w' T') (h1 : ∀ k, Sc k → ¬ T k) (h2 : ∀ k, Ss k → ¬ T k) (h3 : ∀ k, T k → B ≤ k) : PAt B Q K A w' gc gs Sc Ss c x :=
 ⟨h.c.apart st h1, h.s.apart st h2, h.ap, h.lc, h.ls, Nat.le_trans h.hB st.size, h.envS st h3⟩
theorem PAt.cl (h : PAt B Q K A w gc gs Sc Ss c x) (st : Step Sc w w' Sc') (hc : CAt w' gc Sc' [] c') : PAt B Q K A w' gc gs Sc' Ss c' x :=
 ⟨hc, h.s.apart st (fun k hk hs => h.ap k hs hk), fun k hk hs => (st.fp k hk).elim (fun q => h.ap k q hs) (fun q => by have := h.s.lt k hs; omega), Step.lo st h.hB h.lc, h.ls, Nat.le_trans h.hB st.size, h.envS st h.lc⟩
theorem PAt.se (h : PAt B Q K A w gc gs Sc Ss c x) (st : Step Ss w w' Ss') (hs : SAt K A w' gs Ss' [] x') : PAt B Q K A w' gc gs Sc Ss' c x' :=
 ⟨h.c.apart st h.ap, hs, fun k hk hs => (st.fp k hs).elim (fun q => h.ap k hk q) (fun q => by have := h.c.lt k hk; omega), h.lc, Step.lo st h.hB h.ls, Nat.le_trans h.hB st.size, h.envS st h.ls⟩
variable {sen : List UInt8 → Int × Int × Int × Int} {lgc : Cl → Pd → List UInt8 → Cl} {lg : St K.U → Pd → List UInt8 → St K.U}
theorem sPart_c (HW : WireOk W) (h : PAt B Q K A w gc gs Sc Ss c x) {src : Value} {bs : List UInt8} (hr : RdB w src bs) (hro : bs ≠ [] → ∀ q, src.ownBlock = some q → ¬ Ss q) (hl : x.s.rd.length + bs.length ≤ 1000000)
 (hc : x.s.cl = false) (hre : x.s.re = 0) (hs : decE (x.s.rd ++ bs) = 3) {R : KV}
 (k : ∀ v w' Ss', Step Ss w w' Ss' → PAt B Q K A w' gc gs Sc Ss' c ({x with s := {x.s with rd := x.s.rd ++ bs}, o := []} : St K.U) → RdB w' v [] → R v w') :
 CW.Spec Tryz.prog 23 #[.pointer (some ⟨gs, 0, none⟩), src] w R :=
 Ses.InPart_c HW (Q := Q) (lg := fun a _ _ => a) h.s hr (fun w' S' st => h.envS st h.ls w' (Below.refl B w')) hro hl hc hre hs fun v w' S' st h' r' _ => k v w' S' st (h.se st h') r'
theorem sLast_c (HW : WireOk W) (h : PAt B Q K A w gc gs Sc Ss c x) {src : Value} {bs : List UInt8} {p : Pd} {ds : List UInt8} (hr : RdB w src bs) (hro : bs ≠ [] → ∀ q, src.ownBlock = some q → ¬ Ss q) (hl : x.s.rd.length + bs.length ≤ 1000000)
 (hc : x.s.cl = false) (hre : x.s.re = 0) (hf : PdFits p) (hk : okP p = true) (hn : ds.length ≤ 4096) (he : x.s.rd ++ bs = encP p ds)
 (htk : x.s.op = true → Ses.SOk x.s ∧ Ses.TkOk W K {x with s := {x.s with rd := []}, o := []} p ds) (hlo : x.s.op = false → Ses.LogOk Q K A lg {x with s := {x.s with rd := []}, o := []} p ds)
 {y : St K.U} (hy : y = Ses.one W K.step lg {x with s := {x.s with rd := []}, o := []} p ds) (hrd : y.s.rd = []) (hye : y.s.re = 0) (hyo : y.o.length ≤ 900000000) {R : KV}
 (k : ∀ v w' Ss', Step Ss w w' Ss' → PAt B Q K A w' gc gs Sc Ss' c ({y with o := []} : St K.U) → RdB w' v y.o → R v w') :
 CW.Spec Tryz.prog 23 #[.pointer (some ⟨gs, 0, none⟩), src] w R :=
 Ses.InLast_c HW (Q := Q) (lg := lg) h.s hr (fun w' S' st => h.envS st h.ls w' (Below.refl B w')) hro hl hc hre hf hk hn he htk hlo hy hrd hye hyo fun v w' S' st h' r' _ => k v w' S' st (h.se st h') r'
theorem cAll_c (HS : SenOk sen) (h : PAt B Q K A w gc gs Sc Ss c x) {src : Value} {qs : List Pq} (hr : RdB w src (encs qs)) (hl : (encs qs).length ≤ 1000000) (hrd : c.rd = []) (hc : c.cl = false) (hrun : Cli.Run Q sen lgc qs c) {R : KV}
 (k : ∀ w' Sc', Step Sc w w' Sc' → PAt B Q K A w' gc gs Sc' Ss ({runC sen lgc qs c with rd := []} : Cl) x → R (.tuple #[]) w') :
 CW.Spec Tryz.prog 44 #[.pointer (some ⟨gc, 0, none⟩), src] w R :=
 Cli.InAll_c HS (Q := Q) (lg := lgc) h.c (fun w' S' st => h.envS st h.lc w' (Below.refl B w')) hr hl hrd hc hrun fun w' S' st h' => k w' S' st (h.cl st h')
theorem cOut_c (h : PAt B Q K A w gc gs Sc Ss c x) {lt : Ses.Prm → List UInt8} (ok : c.cl = false → c.op = true → Cli.COk c) (hsay : c.say.length ≤ 1000000) (hlt : c.cl = false → c.asked = false → Cli.AskOk Q lt c.p ∧ (lt c.p).length ≤ 4096) {R : KV}
 (k : ∀ v w' Sc', Step Sc w w' Sc' → PAt B Q K A w' gc gs Sc' Ss (Cli.outC lt c).1 x → RdB w' v (Cli.outC lt c).2 → (∀ q, v.ownBlock = some q → ¬ Sc' q ∧ ¬ Ss q ∧ (Sc q ∨ w.heap.size ≤ q)) → R v w') :
 CW.Spec Tryz.prog 43 #[.pointer (some ⟨gc, 0, none⟩)] w R :=
 Cli.Out_c (Q := Q) h.c (fun w' S' st => h.envS st h.lc w' (Below.refl B w')) ok hsay hlt fun v w' S' st h' r' o' => k v w' S' st (h.cl st h') r' fun q hq => ⟨(o' q hq).2, fun hs => (o' q hq).1.elim (fun hc => h.ap q hc hs) (fun hn => by have := h.s.lt q hs; omega), (o' q hq).1⟩
theorem cDo_c (h : PAt B Q K A w gc gs Sc Ss c x) {cm : Cm} {cb xs : List UInt8} {dv : Value} (hc : c.cl = false) (hd : RdB w dv cm.d) (he : Cli.EncOk cm cb) (hx : Cli.DatOk cm xs) (hlen : c.L.length < 16) {R : KV}
 (k : ∀ w' Sc', Step Sc w w' Sc' → PAt B Q K A w' gc gs Sc' Ss (Cli.ask c cb xs) x → R (.tuple #[.int .u32 (Ses.m32 (c.tag + 1)), .int .i64 0]) w') :
 CW.Spec Tryz.prog 18 #[.pointer (some ⟨gc, 0, none⟩), .agg (rCm cm dv)] w R :=
 Cli.Do_c h.c hc hd he hx hlen fun w' S' st h' => k w' S' st (h.cl st h')
end Go.Proofs.YtdinpgnjnleioaaGreatDoor.Pip
end
section
namespace Go.Proofs.YtdinpgnjnleioaaGreatDoor.Pip
open Go Go.CW Go.RowKit Go.Proofs.YtdinpgnjnleioaaGreatDoor Go.Proofs.YtdinpgnjnleioaaGreatDoor.Pdu
open Go.Proofs.YtdinpgnjnleioaaGreatDoor.Ses (Wire WireOk Doer St SAt Cm Rp rCm RpAt encQ_eq)
open Go.Proofs.YtdinpgnjnleioaaGreatDoor.Cli (Cl Pq encs CAt SenOk runC)
structure Way (Q : World → Prop) (W : Wire) (K : Doer) (A : List (List UInt8)) (lg : St K.U → Pd → List UInt8 → St K.U) (sen : List UInt8 → Int × Int × Int × Int) (lgc : Cl → Pd → List UInt8 → Cl) (p : Pd) (ds : List UInt8) (qs : List Pq) (c c' : Cl) (x y : St K.U) : Prop where
 pf : PdFits p
 pk : okP p = true
 pn : ds.length ≤ 4096
 xcl : x.s.cl = false
 xre : x.s.re = 0
 xrd : x.s.rd = []
 xo : x.o = []
 tk : x.s.op = true → Ses.SOk x.s ∧ Ses.TkOk W K x p ds
 lo : x.s.op = false → Ses.LogOk Q K A lg x p ds
 hy : {y with o := encs qs} = Ses.one W K.step lg x p ds
 yrd : y.s.rd = []
 yre : y.s.re = 0
 yo : y.o = []
 out : (encs qs).length ≤ 1000000
 ccl : c.cl = false
 cre : c.re = 0
 crd : c.rd = []
 run : Cli.Run Q sen lgc qs c
 hc' : c' = {runC sen lgc qs c with rd := []}
variable {B : Nat} {Q : World → Prop} {W : Wire} {K : Doer} {A : List (List UInt8)} {w w' : World} {gc gs : Nat} {Sc Ss Sc' Ss' : Fp} {c c' : Cl} {x y : St K.U}
variable {sen : List UInt8 → Int × Int × Int × Int} {lgc : Cl → Pd → List UInt8 → Cl} {lg : St K.U → Pd → List UInt8 → St K.U} {p : Pd} {ds : List UInt8} {qs : List Pq}
def sAtK (p : Pd) (ds : List UInt8) (x y : St K.U) (k : Nat) : St K.U := if k < (encP p ds).length then {x with s := {x.s with rd := (encP p ds).take k}} else y
def cAtK (p : Pd) (ds : List UInt8) (c c' : Cl) (k : Nat) : Cl := if k < (encP p ds).length then c else c'
def oAtK (p : Pd) (ds : List UInt8) (qs : List Pq) (k : Nat) : List UInt8 := if k < (encP p ds).length then [] else encs qs
theorem Way.zero (H : Way Q W K A lg sen lgc p ds qs c c' x y) : sAtK p ds x y 0 = x ∧ cAtK p ds c c' 0 = c := by
 have : 0 < (encP p ds).length := by rw [encP_length]; omega
 unfold sAtK cAtK
 rw [if_pos this, if_pos this]
 refine ⟨?_, rfl⟩
 have e := H.xrd
 obtain ⟨⟨a1, a2, a3, a4, a5, a6, rd, a7⟩, u, o⟩ := x
 dsimp only at e
 subst e; rfl
theorem way_end (p : Pd) (ds : List UInt8) (c c' : Cl) (x y : St K.U) : sAtK p ds x y (encP p ds).length = y ∧ cAtK p ds c c' (encP p ds).length = c' := by
 unfold sAtK cAtK
 exact ⟨if_neg (by omega), if_neg (by omega)⟩
theorem Way.s_c (H : Way Q W K A lg sen lgc p ds qs c c' x y) (HW : WireOk W) {k m : Nat} (hk : k < (encP p ds).length) (hm : k + m ≤ (encP p ds).length) (h : PAt B Q K A w gc gs Sc Ss c (sAtK p ds x y k)) {src : Value} (hr : RdB w src (((encP p ds).drop k).take m)) (hro : ∀ q, src.ownBlock = some q → ¬ Ss q) {R : KV}
 (kk : ∀ v w' Ss', Step Ss w w' Ss' → PAt B Q K A w' gc gs Sc Ss' c (sAtK p ds x y (k + m)) → RdB w' v (oAtK p ds qs (k + m)) → R v w') :
 CW.Spec Tryz.prog 23 #[.pointer (some ⟨gs, 0, none⟩), src] w R := by
 have ex : sAtK p ds x y k = {x with s := {x.s with rd := (encP p ds).take k}} := by unfold sAtK; rw [if_pos hk]
 rw [ex] at h
 have hlen : (encP p ds).length ≤ 5000 := by have := H.pn; rw [encP_length]; split <;> omega
 have ej : (encP p ds).take k ++ ((encP p ds).drop k).take m = (encP p ds).take (k + m) := by rw [List.take_add]
 have hl : ((encP p ds).take k).length + (((encP p ds).drop k).take m).length ≤ 1000000 := by simp; omega
 by_cases hd : k + m < (encP p ds).length
 · refine sPart_c HW h hr (fun _ => hro) hl H.xcl H.xre (by show decE ((encP p ds).take k ++ _) = 3; rw [ej]; exact dec_short p ds H.pf H.pk H.pn _ hd) fun v w' Ss' st h' r' => kk v w' Ss' st ?_ ?_
   · have e : sAtK p ds x y (k + m) = {x with s := {x.s with rd := (encP p ds).take k ++ ((encP p ds).drop k).take m}, o := []} := by
      unfold sAtK
      rw [if_pos hd, ej, ← H.xo]
     rw [e]; exact h'
   · unfold oAtK; rw [if_pos hd]; exact r'
 · have he : k + m = (encP p ds).length := by omega
   have er : ({x with s := {x.s with rd := []}, o := []} : St K.U) = x := by
    have e1 := H.xrd
    have e2 := H.xo
    obtain ⟨⟨a1, a2, a3, a4, a5, a6, rd, a7⟩, u, o⟩ := x
    dsimp only at e1 e2
    subst e1; subst e2; rfl
   have er' : ({({x with s := {x.s with rd := (encP p ds).take k}} : St K.U) with s := {({x with s := {x.s with rd := (encP p ds).take k}} : St K.U).s with rd := []}, o := []} : St K.U) = x := er
   refine sLast_c HW (lg := lg) (y := {y with o := encs qs}) h hr (fun _ => hro) hl H.xcl H.xre H.pf H.pk H.pn (by show (encP p ds).take k ++ _ = _; rw [ej, he, List.take_length]) (fun hop => ?_) (fun hop => ?_) (by rw [er']; exact H.hy) H.yrd H.yre (by have := H.out; show (encs qs).length ≤ _; omega) fun v w' Ss' st h' r' => kk v w' Ss' st ?_ ?_
   · rw [er']
     obtain ⟨a, b⟩ := H.tk hop
     exact ⟨⟨a.exp, a.sn, a.md, a.bu, a.L, a.len⟩, b⟩
   · rw [er']; exact H.lo hop
   · rw [he, (way_end p ds c c' x y).1]
     have e2 := H.yo
     have : ({({y with o := encs qs} : St K.U) with o := []} : St K.U) = y := by
      obtain ⟨s, u, o⟩ := y
      dsimp only at e2
      subst e2; rfl
     rw [this] at h'; exact h'
   · unfold oAtK; rw [if_neg hd]; exact r'
theorem Way.c_c (H : Way Q W K A lg sen lgc p ds qs c c' x y) (HS : SenOk sen) {k : Nat} {x' : St K.U} (h : PAt B Q K A w gc gs Sc Ss c x') {src : Value} (hr : RdB w src (oAtK p ds qs k)) {R : KV}
 (kk : ∀ w' Sc', Step Sc w w' Sc' → PAt B Q K A w' gc gs Sc' Ss (cAtK p ds c c' k) x' → R (.tuple #[]) w') :
 CW.Spec Tryz.prog 44 #[.pointer (some ⟨gc, 0, none⟩), src] w R := by
 by_cases hd : k < (encP p ds).length
 · have e1 : oAtK p ds qs k = encs [] := by unfold oAtK; rw [if_pos hd]; rfl
   have e2 : cAtK p ds c c' k = {runC sen lgc [] c with rd := []} := by
    unfold cAtK
    rw [if_pos hd]
    have e := H.crd
    show c = {c with rd := []}
    obtain ⟨a1, rd, a2, a3, a4, a5, a6, a7, a8, a9, a10, a11⟩ := c
    dsimp only at e
    subst e; rfl
   rw [e1] at hr
   refine cAll_c HS (lgc := lgc) h hr (by simp [encs]) H.crd H.ccl ⟨H.ccl, H.cre⟩ fun w' Sc' st h' => kk w' Sc' st ?_
   rw [e2]; exact h'
 · have e1 : oAtK p ds qs k = encs qs := by unfold oAtK; rw [if_neg hd]
   have e2 : cAtK p ds c c' k = {runC sen lgc qs c with rd := []} := by unfold cAtK; rw [if_neg hd]; exact H.hc'
   rw [e1] at hr
   refine cAll_c HS (lgc := lgc) h hr H.out H.crd H.ccl H.run fun w' Sc' st h' => kk w' Sc' st ?_
   rw [e2]; exact h'
end Go.Proofs.YtdinpgnjnleioaaGreatDoor.Pip
end
section
namespace Go.Proofs.YtdinpgnjnleioaaGreatDoor.Pip
open Go Go.CW Go.RowKit Go.Proofs.YtdinpgnjnleioaaGreatDoor Go.Proofs.YtdinpgnjnleioaaGreatDoor.Pdu
open Go.Proofs.YtdinpgnjnleioaaGreatDoor.Ses (Wire WireOk Doer St SAt Cm Rp rCm RpAt encQ_eq wireP wireP_ok outs m32 m32_id newS Prm)
open Go.Proofs.YtdinpgnjnleioaaGreatDoor.Cli (Cl Ak Pq encs CAt SenOk runC askB cdbP)
open Go.Proofs.YtdinpgnjnleioaaGreatDoor.Lgn (askL ansL agP LgP neg_ask tak_ans ask_right ans_right oursP)
def sA {U : Type} (p : Prm) (e n : Int) (u : U) : St U := ⟨⟨agP p, true, false, e, n, [], [], 0⟩, u, []⟩
def sW {U : Type} (p : Prm) (e n : Int) (u : U) (v : Ses.Wt) : St U := ⟨⟨agP p, true, false, e, n, [v], [], 0⟩, u, []⟩
def takP (p : Prm) : Prm := {p with bu := min 8192 p.bu}
def cA (p : Prm) (e m t : Int) (L : List Ak) (say : List UInt8) (D : List (Int × Rp)) : Cl := ⟨takP p, [], 0, true, false, true, e, m, t, L, say, D⟩
def cL (p : Prm) (t : Int) (L : List Ak) : Cl := ⟨p, [], 0, false, false, true, 0, 0, t, L, [], []⟩
abbrev pLog : Pd := {zP with op := 3, fin := true, sn := 1}
def qLog (p : Prm) : Pq := ({zP with op := 35, fin := true, sn := 1, exp := 2, mx := 17}, Txt.encB (ansL p))
variable {K : Doer} {A : List (List UInt8)} {u : K.U} {p : Prm}
abbrev lgS {U : Type} (A : List (List UInt8)) (p : Prm) : St U → Pd → List UInt8 → St U := Ses.lgT A (askL p)
abbrev lgC (p : Prm) : Cl → Pd → List UInt8 → Cl := Cli.lgC (ansL p)
theorem one_login {U : Type} {W : Wire} {du : U → List UInt8 → Cm → Rp × U} {u : U} (h : LgP p A) : Ses.one W du (lgS A p) (newS u) pLog (askB p) = {sA p 2 2 u with o := encs [qLog p]} := by
 have hn := neg_ask h
 have ha := (ans_right (p := p)).2.1
 show Ses.lgT A (askL p) (newS u) pLog (askB p) = _
 unfold Ses.lgT
 rw [hn]
 rw [if_pos rfl]
 unfold Ses.sayN Ses.say
 have e2 : m32 (pLog.sn + 1) = 2 := by decide
 dsimp only [newS]
 rw [encQ_eq (by simp [okP, known, zP]) ha.tot]
 simp only [List.nil_append]
 unfold sA encs qLog
 simp only [List.flatMap_cons, List.flatMap_nil, List.append_nil]
 rfl
theorem fits_small {n : Int} (h0 : 0 ≤ n) (h1 : n < 4294967296) : Fits .u32 n := by
 constructor <;> simp [IntKind.min, IntKind.max, IntKind.bits, IntKind.signed] <;> omega
theorem way_login (h : LgP p A) {t : Int} {L : List Ak} : Way Txt.Env wireP K A (lgS A p) Sen.decS (lgC p) pLog (askB p) [qLog p] (cL p t L) (cA p 2 17 t L [] []) (newS u) (sA p 2 2 u) := by
 obtain ⟨a1, a2, a3, a4⟩ := ask_right h
 obtain ⟨b1, b2, b3, b4⟩ := ans_right (p := p)
 have hn := neg_ask h
 have ht := tak_ans h.bu h.dg
 have hrun : runC Sen.decS (lgC p) [qLog p] (cL p t L) = cA p 2 17 t L [] [] := by
  show Cli.take Sen.decS (lgC p) (cL p t L) (qLog p).1 (qLog p).2 = _
  rw [Cli.take_act, if_pos (show (cL p t L).op = false from rfl)]
  show Cli.lgC (ansL p) (cL p t L) (qLog p).1 (qLog p).2 = _
  unfold Cli.lgC
  show ({cL p t L with p := (Lgn.takN p (ansL p)).1, op := true, sn := (qLog p).1.exp, mx := (qLog p).1.mx} : Cl) = _
  rw [ht]; rfl
 have hlen : (encs [qLog p]).length ≤ 1000000 := by
  have : encs [qLog p] = encP (qLog p).1 (Txt.encB (ansL p)) := by simp [encs, qLog]
  rw [this, encP_length]
  have := b2.tot
  split <;> omega
 exact {
  pf := ⟨by decide, by decide, by decide, by decide, by decide, by decide, by decide, by decide, by decide⟩
  pk := by decide
  pn := a2.tot
  xcl := rfl, xre := rfl, xrd := rfl, xo := rfl
  tk := fun e => by cases e
  lo := fun _ => Ses.Login_c (L := askL p) rfl rfl a1 a2 a3 a4 (by rw [hn]; exact b2) (by rw [hn]; exact b3) (by decide) (show Fits .u32 1 by decide) (by show ([] : List UInt8).length ≤ _; simp)
  hy := (one_login h).symm
  yrd := rfl, yre := rfl, yo := rfl
  out := hlen
  ccl := rfl, cre := rfl, crd := rfl
  run := ⟨rfl, rfl, ⟨⟨(by decide : Fits .i64 35), (by decide : Fits .i64 0), (by decide : Fits .i64 0), (by decide : Fits .u32 0), (by decide : Fits .u32 1), (by decide : Fits .u32 2), (by decide : Fits .u32 17), (by decide : Fits .u32 0), (by decide : Fits .u32 0)⟩, rfl, b2.tot⟩, (by show (35 : Int) ≠ 38; decide), (fun e => by cases e), (fun r => rfl),
   fun _ r => Cli.Login_c rfl rfl rfl b1 b2 b3 b4 (by show (Lgn.takN p (ansL p)).2 = 0; rw [ht]), (by
    have e : Cli.take Sen.decS (lgC p) (cL p t L) (qLog p).1 (qLog p).2 = cA p 2 17 t L [] [] := hrun
    show (Cli.take Sen.decS (lgC p) (cL p t L) (qLog p).1 (qLog p).2).cl = false ∧ _
    rw [e]; exact ⟨rfl, rfl⟩)⟩
  hc' := by rw [hrun]; rfl }
end Go.Proofs.YtdinpgnjnleioaaGreatDoor.Pip
end
section
namespace Go.Proofs.YtdinpgnjnleioaaGreatDoor.Pip
open Go Go.CW Go.RowKit Go.Proofs.YtdinpgnjnleioaaGreatDoor Go.Proofs.YtdinpgnjnleioaaGreatDoor.Pdu
open Go.Proofs.YtdinpgnjnleioaaGreatDoor.Ses (Wire WireOk Doer St SAt Cm Rp rCm RpAt encQ_eq wireP wireP_ok outs m32 m32_id newS Prm)
open Go.Proofs.YtdinpgnjnleioaaGreatDoor.Cli (Cl Ak Pq encs CAt SenOk runC askB cdbP)
open Go.Proofs.YtdinpgnjnleioaaGreatDoor.Lgn (askL ansL agP LgP)
variable {K : Doer} {A : List (List UInt8)} {u : K.U} {p : Prm}
structure Nm (e n tag : Int) (D : List (Int × Rp)) : Prop where
 e0 : 0 ≤ e
 e1 : e < 100000
 n0 : 0 ≤ n
 n1 : n < 100000
 t0 : 0 ≤ tag
 t1 : tag < 100000
 D : D.length ≤ 1000
theorem sOk (h : LgP p A) {e n : Int} (he : 0 ≤ e ∧ e < 1000000) (hn : 0 ≤ n ∧ n < 1000000) {L : List Ses.Wt} (hL : ∀ v ∈ L, Ses.WtOk v) (hl : L.length ≤ 16) : Ses.SOk (⟨agP p, true, false, e, n, L, [], 0⟩ : Ses.Ses) := by
 have h1 := h.md
 have h2 := h.bu
 exact ⟨fits_small he.1 (by show e < _; omega), fits_small hn.1 (by show n < _; omega), by show 512 ≤ min 4096 p.md ∧ min 4096 p.md ≤ 1000000000; omega, by show min 8192 p.bu ≤ _; omega, hL, hl⟩
theorem cOk (h : LgP p A) {e m t : Int} {L : List Ak} {D : List (Int × Rp)} (he : 0 ≤ e ∧ e < 1000000) (hm : 0 ≤ m ∧ m < 1000000) (hL : ∀ a ∈ L, Cli.AkOk a) (hl : L.length ≤ 1000) (hD : D.length ≤ 1000000) {say : List UInt8} (hs : say.length ≤ 900000000) : Cli.COk (cA p e m t L say D) := by
 have h1 := h.md
 exact ⟨fits_small he.1 (by show e < _; omega), fits_small hm.1 (by show m < _; omega), by show 512 ≤ p.md ∧ p.md ≤ 1000000000; omega, hL, hl, hs, hD⟩
abbrev pCmd (e tag : Int) (cb : List UInt8) : Pd := cdbP {zP with op := 1, fin := true, tag := tag, sn := e} cb
theorem outs_fits {s : Ses.Ses} {tag : Int} {d : List UInt8} (hd : d.length ≤ 512) (h1 : 0 ≤ s.exp ∧ s.exp < 1000000) (h2 : 0 ≤ s.sn ∧ s.sn < 1000000) (h3 : 0 ≤ tag ∧ tag < 1000000) : (∀ q ∈ outs s tag d, Cli.PqOk q) ∧ (encs (outs s tag d)).length ≤ 1000000 := by
 have em : m32 (s.exp + 15) = s.exp + 15 := m32_id (by omega) (by omega)
 have el : m32 (d.length : Int) = (d.length : Int) := m32_id (by omega) (by omega)
 have f37 : Cli.PqOk ({zP with op := 37, tag := tag, fin := true, exp := s.exp, mx := m32 (s.exp + 15)}, d) := by
  rw [em]
  exact ⟨⟨(by decide : Fits .i64 37), (by decide : Fits .i64 0), (by decide : Fits .i64 0), fits_small (n := tag) h3.1 (by omega), (by decide : Fits .u32 0), fits_small (n := s.exp) h1.1 (by omega), fits_small (n := s.exp + 15) (by omega) (by omega), (by decide : Fits .u32 0), (by decide : Fits .u32 0)⟩, rfl, by show d.length ≤ 4096; omega⟩
 have f33 : Cli.PqOk ({zP with op := 33, tag := tag, fin := true, sn := s.sn, exp := s.exp, mx := m32 (s.exp + 15), ln := m32 (d.length : Int)}, []) := by
  rw [em, el]
  exact ⟨⟨(by decide : Fits .i64 33), (by decide : Fits .i64 0), (by decide : Fits .i64 0), fits_small (n := tag) h3.1 (by omega), fits_small (n := s.sn) h2.1 (by omega), fits_small (n := s.exp) h1.1 (by omega), fits_small (n := s.exp + 15) (by omega) (by omega), (by decide : Fits .u32 0), fits_small (n := (d.length : Int)) (by omega) (by omega)⟩, rfl, by show ([] : List UInt8).length ≤ 4096; simp⟩
 by_cases h : d = []
 · subst h
   have e : outs s tag [] = [({zP with op := 33, tag := tag, fin := true, sn := s.sn, exp := s.exp, mx := m32 (s.exp + 15), ln := m32 ((([] : List UInt8).length : Nat) : Int)}, [])] := rfl
   rw [e]
   refine ⟨fun q hq => by rw [List.mem_singleton.1 hq]; exact f33, ?_⟩
   simp only [encs, List.flatMap_cons, List.flatMap_nil, List.append_nil]
   rw [encP_length]; simp
 · have e : outs s tag d = [({zP with op := 37, tag := tag, fin := true, exp := s.exp, mx := m32 (s.exp + 15)}, d), ({zP with op := 33, tag := tag, fin := true, sn := s.sn, exp := s.exp, mx := m32 (s.exp + 15), ln := m32 (d.length : Int)}, [])] := by unfold outs; rw [if_pos h]; rfl
   rw [e]
   refine ⟨fun q hq => ?_, ?_⟩
   · rcases List.mem_cons.1 hq with rfl | hq
     · exact f37
     · rw [List.mem_singleton.1 hq]; exact f33
   · simp only [encs, List.flatMap_cons, List.flatMap_nil, List.append_nil, List.length_append]
     rw [encP_length, encP_length, if_neg h]
     simp; omega
theorem run_ok (h : LgP p A) {e n t tag : Int} {cb ds d : List UInt8} {D : List (Int × Rp)} (N : Nm e n tag D) (hcb : cb.length = 16) (hds : ds.length ≤ 512) (hd : d.length ≤ 512) {sp : Prm} {L : List Ses.Wt} {m : Int} (hm : 0 ≤ m ∧ m ≤ e + 16) {Q : World → Prop} :
 Cli.Run Q Sen.decS (lgC p) (outs (⟨sp, true, false, e + 1, n, L, [], 0⟩ : Ses.Ses) tag d) (cA p (e + 1) m t [⟨tag, cb, ds, [], true⟩] [] D) ∧
 ({runC Sen.decS (lgC p) (outs (⟨sp, true, false, e + 1, n, L, [], 0⟩ : Ses.Ses) tag d) (cA p (e + 1) m t [⟨tag, cb, ds, [], true⟩] [] D) with rd := []} : Cl) = cA p (e + 1) (e + 16) t [] [] (D ++ [(tag, ⟨0, 0, 0, d, 0⟩)]) := by
 have n1 := N.e0; have n2 := N.e1; have n3 := N.n0; have n4 := N.n1; have n5 := N.t0; have n6 := N.t1; have n7 := N.D
 obtain ⟨hp, _⟩ := outs_fits (s := (⟨sp, true, false, e + 1, n, L, [], 0⟩ : Ses.Ses)) (tag := tag) hd (by show 0 ≤ e + 1 ∧ e + 1 < 1000000; omega) (by show 0 ≤ n ∧ n < 1000000; omega) (by omega)
 have hr := Cli.run_outs (sen := Sen.decS) (lg := lgC p) (c := cA p (e + 1) m t [⟨tag, cb, ds, [], true⟩] [] D) (s := (⟨sp, true, false, e + 1, n, L, [], 0⟩ : Ses.Ses)) (tag := tag) (cb := cb) (ds := ds) (d := d) rfl rfl hm.1 (by show 0 ≤ e + 1; omega) (by show e + 1 < 1000000; omega) (by show m ≤ e + 1 + 15; omega)
 have e16 : e + 1 + 15 = e + 16 := by omega
 refine ⟨?_, by rw [hr]; show cA p (e + 1) (e + 1 + 15) t [] [] _ = _; rw [e16]; rfl⟩
 have ak : ∀ hv : List UInt8, ∀ a ∈ [(⟨tag, cb, ds, hv, true⟩ : Ak)], Cli.AkOk a := fun hv a ha => by
  rw [List.mem_singleton.1 ha]
  exact ⟨fits_small (n := tag) (by omega) (by omega), hds, hcb⟩
 have em : m32 (e + 1 + 15) = e + 16 := by rw [m32_id (by omega) (by omega)]; exact e16
 by_cases hd0 : d = []
 · subst hd0
   have eo : outs (⟨sp, true, false, e + 1, n, L, [], 0⟩ : Ses.Ses) tag [] = [({zP with op := 33, tag := tag, fin := true, sn := n, exp := e + 1, mx := m32 (e + 1 + 15), ln := m32 ((([] : List UInt8).length : Nat) : Int)}, [])] := rfl
   rw [eo] at hp hr ⊢
   refine ⟨rfl, rfl, hp _ (List.mem_cons_self ..), (by show (33 : Int) ≠ 38; decide), (fun _ => ⟨cOk h (by omega) (by omega) (ak []) (by simp) (by omega) (by simp), fun e => by exact absurd e (by show (33 : Int) ≠ 37; decide)⟩), (fun r => rfl), (fun e => by cases e), ?_⟩
   have hr' : Cli.take Sen.decS (lgC p) (cA p (e + 1) m t [⟨tag, cb, ds, [], true⟩] [] D) {zP with op := 33, tag := tag, fin := true, sn := n, exp := e + 1, mx := m32 (e + 1 + 15), ln := m32 ((([] : List UInt8).length : Nat) : Int)} [] = _ := hr
   show (Cli.take Sen.decS (lgC p) _ _ _).cl = false ∧ _
   dsimp only
   rw [hr']
   exact ⟨rfl, rfl⟩
 · have eo : outs (⟨sp, true, false, e + 1, n, L, [], 0⟩ : Ses.Ses) tag d = [({zP with op := 37, tag := tag, fin := true, exp := e + 1, mx := m32 (e + 1 + 15)}, d), ({zP with op := 33, tag := tag, fin := true, sn := n, exp := e + 1, mx := m32 (e + 1 + 15), ln := m32 (d.length : Int)}, [])] := by unfold outs; rw [if_pos hd0]; rfl
   rw [eo] at hp hr ⊢
   have ht : Cli.take Sen.decS (lgC p) (cA p (e + 1) m t [⟨tag, cb, ds, [], true⟩] [] D) {zP with op := 37, tag := tag, fin := true, exp := e + 1, mx := m32 (e + 1 + 15)} d = cA p (e + 1) (e + 16) t [⟨tag, cb, ds, d, true⟩] [] D := by
    rw [em, Cli.take_data (a := ⟨tag, cb, ds, [], true⟩) rfl rfl rfl rfl rfl (by simp), Cli.mxC_up hm.1 (by show m ≤ e + 16; omega) (by show e + 16 < _; omega)]
    rfl
   refine ⟨rfl, rfl, hp _ (List.mem_cons_self ..), (by show (37 : Int) ≠ 38; decide), (fun _ => ⟨cOk h (by omega) (by omega) (ak []) (by simp) (by omega) (by simp), fun _ i a h1 h2 h3 => ?_⟩), (fun r => rfl), (fun e => by cases e), ?_⟩
   · have h2' : [(⟨tag, cb, ds, [], true⟩ : Ak)][i]? = some a := h2
     cases i with
     | succ i => simp at h2'
     | zero =>
       simp only [List.getElem?_cons_zero, Option.some.injEq] at h2'
       subst h2'
       exact ⟨rfl, hd0⟩
   · dsimp only
     rw [ht]
     refine ⟨rfl, rfl, hp _ (List.mem_cons_of_mem _ (List.mem_cons_self ..)), (by show (33 : Int) ≠ 38; decide), (fun _ => ⟨cOk h (by omega) (by omega) (ak d) (by simp) (by omega) (by simp), fun e => by exact absurd e (by show (33 : Int) ≠ 37; decide)⟩), (fun r => rfl), (fun e => by cases e), ?_⟩
     have hr' : Cli.take Sen.decS (lgC p) (Cli.take Sen.decS (lgC p) (cA p (e + 1) m t [⟨tag, cb, ds, [], true⟩] [] D) {zP with op := 37, tag := tag, fin := true, exp := e + 1, mx := m32 (e + 1 + 15)} d) {zP with op := 33, tag := tag, fin := true, sn := n, exp := e + 1, mx := m32 (e + 1 + 15), ln := m32 (d.length : Int)} [] = _ := hr
     rw [ht] at hr'
     show (Cli.take Sen.decS (lgC p) _ _ _).cl = false ∧ _
     dsimp only
     rw [hr']
     exact ⟨rfl, rfl⟩
structure CmdOk (K : Doer) (p : Prm) (u : K.U) (cb ds : List UInt8) (cmR cm' : Cm) : Prop where
 hcb : cb.length = 16
 hc : wireP.cmd cb = (cmR, 0)
 ho : wireP.out cmR = ds.length
 hf : Ses.full wireP cmR ds = some cm'
 hK : K.Ok u p.nm cm'
 hst : (K.step u p.nm cm').1.st = 0
 hd : (K.step u p.nm cm').1.d.length ≤ 512
 hds : ds.length ≤ 512
theorem way_cmd (h : LgP p A) {e n t tag : Int} {cb ds : List UInt8} {cmR cm' : Cm} {D : List (Int × Rp)} (N : Nm e n tag D) (H : CmdOk K p u cb ds cmR cm') (him : ds = [] ∨ p.im = true) {Q : World → Prop} :
 Way Q wireP K A (lgS A p) Sen.decS (lgC p) (pCmd e tag cb) ds (outs (⟨agP p, true, false, e + 1, n, [], [], 0⟩ : Ses.Ses) tag (K.step u p.nm cm').1.d) (cA p (e + 1) (e + 15) t [⟨tag, cb, ds, [], true⟩] [] D)
  (cA p (e + 1) (e + 16) t [] [] (D ++ [(tag, ⟨0, 0, 0, (K.step u p.nm cm').1.d, 0⟩)])) (sA p e n u) (sA p (e + 1) (n + 1) (K.step u p.nm cm').2) := by
 have n1 := N.e0; have n2 := N.e1; have n3 := N.n0; have n4 := N.n1; have n5 := N.t0; have n6 := N.t1; have n7 := N.D
 have q1 := H.hcb; have q2 := H.hd; have q3 := H.hds
 have hcdb : (pCmd e tag cb).cdb = cb := Ses.cdb_of _ _ H.hcb
 obtain ⟨r1, r2⟩ := run_ok (Q := Q) h (t := t) (m := e + 15) N H.hcb H.hds H.hd (sp := agP p) (L := []) (by omega)
 obtain ⟨_, o2⟩ := outs_fits (s := (⟨agP p, true, false, e + 1, n, [], [], 0⟩ : Ses.Ses)) (tag := tag) H.hd (by show 0 ≤ e + 1 ∧ e + 1 < 1000000; omega) (by show 0 ≤ n ∧ n < 1000000; omega) (by omega)
 have hone : Ses.one wireP K.step (lgS A p) (sA p e n u) (pCmd e tag cb) ds = {sA p (e + 1) (n + 1) (K.step u p.nm cm').2 with o := encs (outs (⟨agP p, true, false, e + 1, n, [], [], 0⟩ : Ses.Ses) tag (K.step u p.nm cm').1.d)} := by
  rw [Ses.step_cmd (c := cmR) rfl rfl rfl (by rw [hcdb]; exact H.hc) H.ho him, Ses.done_ok H.hf, Ses.fin_ok (by exact H.hst) (by show (K.step u p.nm cm').1.d.length ≤ 4096; omega)]
  have e1 : m32 (e + 1) = e + 1 := m32_id (by omega) (by omega)
  have e2 : m32 (n + 1) = n + 1 := m32_id (by omega) (by omega)
  show ({s := {(⟨agP p, true, false, m32 (e + 1), n, [], [], 0⟩ : Ses.Ses) with sn := m32 (n + 1)}, u := (K.step u p.nm cm').2, o := [] ++ encs (outs (⟨agP p, true, false, m32 (e + 1), n, [], [], 0⟩ : Ses.Ses) tag (K.step u p.nm cm').1.d)} : St K.U) = _
  rw [e1, e2]; rfl
 exact {
  pf := ⟨(by decide : Fits .i64 1), (by decide : Fits .i64 0), (by decide : Fits .i64 0), fits_small (n := tag) (by omega) (by omega), fits_small (n := e) (by omega) (by omega), (by decide : Fits .u32 0), (by decide : Fits .u32 0), (by decide : Fits .u32 0), (by decide : Fits .u32 0)⟩
  pk := rfl
  pn := by omega
  xcl := rfl, xre := rfl, xrd := rfl, xo := rfl
  tk := fun _ => ⟨sOk h (by omega) (by omega) (by simp) (by simp), ⟨fun _ _ c' => by
   rw [hcdb, H.hc]
   show (wireP.out cmR = 0 → _ → _) ∧ (ds.length = wireP.out cmR → _ → _)
   refine ⟨fun h0 hf => ?_, fun _ hf => ?_⟩
   · have : ds = [] := List.eq_nil_of_length_eq_zero (by rw [← H.ho]; exact h0)
     subst this
     have := H.hf.symm.trans hf
     cases this; exact H.hK
   · have := H.hf.symm.trans hf
     cases this; exact H.hK, fun e => by exact absurd e (by show (1 : Int) ≠ 5; decide), fun e => by exact absurd e (by show (1 : Int) ≠ 2; decide)⟩⟩
  lo := fun e => by cases e
  hy := hone.symm
  yrd := rfl, yre := rfl, yo := rfl
  out := o2
  ccl := rfl, cre := rfl, crd := rfl
  run := r1
  hc' := r2.symm }
end Go.Proofs.YtdinpgnjnleioaaGreatDoor.Pip
end
section
namespace Go.Proofs.YtdinpgnjnleioaaGreatDoor.Pip
open Go Go.CW Go.RowKit Go.Proofs.YtdinpgnjnleioaaGreatDoor Go.Proofs.YtdinpgnjnleioaaGreatDoor.Pdu
open Go.Proofs.YtdinpgnjnleioaaGreatDoor.Ses (Wire WireOk Doer St SAt Cm Rp rCm RpAt encQ_eq wireP wireP_ok outs m32 m32_id newS Prm)
open Go.Proofs.YtdinpgnjnleioaaGreatDoor.Cli (Cl Ak Pq encs CAt SenOk runC askB cdbP)
open Go.Proofs.YtdinpgnjnleioaaGreatDoor.Lgn (askL ansL agP LgP)
variable {K : Doer} {A : List (List UInt8)} {u : K.U} {p : Prm}
abbrev pDat (tag : Int) : Pd := {zP with op := 5, fin := true, tag := tag}
def qAsk (e tag : Int) (n : Nat) : Pq := ({zP with op := 49, tag := tag, ln := (n : Int), exp := e + 1, mx := e + 16}, [])
def wtW (tag : Int) (c : Cm) (n : Nat) : Ses.Wt := ⟨tag, c, [], n, n⟩
theorem way_ask (h : LgP p A) {e n t tag : Int} {cb ds : List UInt8} {cmR cm' : Cm} {D : List (Int × Rp)} (N : Nm e n tag D) (H : CmdOk K p u cb ds cmR cm') (hne : ds ≠ []) {Q : World → Prop} :
 Way Q wireP K A (lgS A p) Sen.decS (lgC p) (pCmd e tag cb) [] [qAsk e tag ds.length] (cA p (e + 1) (e + 15) t [⟨tag, cb, ds, [], true⟩] [] D)
  (cA p (e + 1) (e + 16) t [⟨tag, cb, ds, [], true⟩] (encP (pDat tag) ds) D) (sA p e n u) (sW p (e + 1) n u (wtW tag cmR ds.length)) := by
 have n1 := N.e0; have n2 := N.e1; have n3 := N.n0; have n4 := N.n1; have n5 := N.t0; have n6 := N.t1; have n7 := N.D
 have q1 := H.hcb; have q2 := H.hd; have q3 := H.hds
 have hbu := h.bu
 have hcdb : (pCmd e tag cb).cdb = cb := Ses.cdb_of _ _ H.hcb
 have hl0 : ds.length ≠ 0 := fun e => hne (List.eq_nil_of_length_eq_zero e)
 have e1 : m32 (e + 1) = e + 1 := m32_id (by omega) (by omega)
 have e2 : m32 (e + 1 + 15) = e + 16 := by rw [m32_id (by omega) (by omega)]; omega
 have hone : Ses.one wireP K.step (lgS A p) (sA p e n u) (pCmd e tag cb) [] = {sW p (e + 1) n u (wtW tag cmR ds.length) with o := encs [qAsk e tag ds.length]} := by
  rw [Ses.step_ask (c := cmR) rfl rfl rfl (by rw [hcdb]; exact H.hc) (by rw [H.ho]; exact hl0) (by rw [H.ho]; show ds.length ≤ min 8192 p.bu; omega) rfl, H.ho]
  show ({s := {(⟨agP p, true, false, e, n, [], [], 0⟩ : Ses.Ses) with exp := m32 (e + 1), L := [⟨tag, cmR, [], ds.length, ds.length⟩]}, u := u, o := [] ++ encs [({zP with op := 49, tag := tag, ln := (ds.length : Int), exp := m32 (e + 1), mx := m32 (m32 (e + 1) + 15)}, [])]} : St K.U) = _
  rw [e1, e2]; rfl
 have pq : Cli.PqOk (qAsk e tag ds.length) := ⟨⟨(by decide : Fits .i64 49), (by decide : Fits .i64 0), (by decide : Fits .i64 0), fits_small (n := tag) (by omega) (by omega), (by decide : Fits .u32 0), fits_small (n := e + 1) (by omega) (by omega), fits_small (n := e + 16) (by omega) (by omega), (by decide : Fits .u32 0), fits_small (n := (ds.length : Int)) (by omega) (by omega)⟩, rfl, by show ([] : List UInt8).length ≤ 4096; simp⟩
 have ht : Cli.take Sen.decS (lgC p) (cA p (e + 1) (e + 15) t [⟨tag, cb, ds, [], true⟩] [] D) (qAsk e tag ds.length).1 (qAsk e tag ds.length).2 = cA p (e + 1) (e + 16) t [⟨tag, cb, ds, [], true⟩] (encP (pDat tag) ds) D := by
  show Cli.take Sen.decS (lgC p) _ (qAsk e tag ds.length).1 [] = _
  rw [Cli.take_ready (tag := tag) (cb := cb) (d := ds) (hv := []) (sent := true) rfl rfl rfl rfl rfl rfl hne (by omega), Cli.mxC_up (by show 0 ≤ e + 15; omega) (by show e + 15 ≤ e + 16; omega) (by show e + 16 < _; omega)]
  rfl
 have hr : runC Sen.decS (lgC p) [qAsk e tag ds.length] (cA p (e + 1) (e + 15) t [⟨tag, cb, ds, [], true⟩] [] D) = cA p (e + 1) (e + 16) t [⟨tag, cb, ds, [], true⟩] (encP (pDat tag) ds) D := ht
 have ak : ∀ a ∈ [(⟨tag, cb, ds, [], true⟩ : Ak)], Cli.AkOk a := fun a ha => by
  rw [List.mem_singleton.1 ha]
  exact ⟨fits_small (n := tag) (by omega) (by omega), q3, q1⟩
 exact {
  pf := ⟨(by decide : Fits .i64 1), (by decide : Fits .i64 0), (by decide : Fits .i64 0), fits_small (n := tag) (by omega) (by omega), fits_small (n := e) (by omega) (by omega), (by decide : Fits .u32 0), (by decide : Fits .u32 0), (by decide : Fits .u32 0), (by decide : Fits .u32 0)⟩
  pk := rfl
  pn := by simp
  xcl := rfl, xre := rfl, xrd := rfl, xo := rfl
  tk := fun _ => ⟨sOk h (by omega) (by omega) (by simp) (by simp), ⟨fun _ _ c' => by
   rw [hcdb, H.hc]
   show (wireP.out cmR = 0 → _ → _) ∧ (([] : List UInt8).length = wireP.out cmR → _ → _)
   rw [H.ho]
   exact ⟨fun h0 => absurd h0 hl0, fun h0 => absurd h0.symm hl0⟩, fun e => by exact absurd e (by show (1 : Int) ≠ 5; decide), fun e => by exact absurd e (by show (1 : Int) ≠ 2; decide)⟩⟩
  lo := fun e => by cases e
  hy := hone.symm
  yrd := rfl, yre := rfl, yo := rfl
  out := by simp only [encs, List.flatMap_cons, List.flatMap_nil, List.append_nil]; rw [encP_length]; simp [qAsk]
  ccl := rfl, cre := rfl, crd := rfl
  run := ⟨rfl, rfl, pq, (by show (49 : Int) ≠ 38; decide), (fun _ => ⟨cOk h (by omega) (by omega) ak (by simp) (by omega) (by simp), fun e => by exact absurd e (by show (49 : Int) ≠ 37; decide)⟩), (fun r => rfl), (fun e => by cases e), (by
   show (Cli.take Sen.decS (lgC p) _ (qAsk e tag ds.length).1 (qAsk e tag ds.length).2).cl = false ∧ _
   rw [ht]; exact ⟨rfl, rfl⟩)⟩
  hc' := by rw [hr]; rfl }
theorem way_data (h : LgP p A) {e n t tag : Int} {cb ds : List UInt8} {cmR cm' : Cm} {D : List (Int × Rp)} (N : Nm e n tag D) (H : CmdOk K p u cb ds cmR cm') (hcd : cmR.d = []) {Q : World → Prop} :
 Way Q wireP K A (lgS A p) Sen.decS (lgC p) (pDat tag) ds (outs (⟨agP p, true, false, e + 1, n, [], [], 0⟩ : Ses.Ses) tag (K.step u p.nm cm').1.d) (cA p (e + 1) (e + 16) t [⟨tag, cb, ds, [], true⟩] [] D)
  (cA p (e + 1) (e + 16) t [] [] (D ++ [(tag, ⟨0, 0, 0, (K.step u p.nm cm').1.d, 0⟩)])) (sW p (e + 1) n u (wtW tag cmR ds.length)) (sA p (e + 1) (n + 1) (K.step u p.nm cm').2) := by
 have n1 := N.e0; have n2 := N.e1; have n3 := N.n0; have n4 := N.n1; have n5 := N.t0; have n6 := N.t1; have n7 := N.D
 have q1 := H.hcb; have q2 := H.hd; have q3 := H.hds
 obtain ⟨r1, r2⟩ := run_ok (Q := Q) h (t := t) (m := e + 16) N H.hcb H.hds H.hd (sp := agP p) (L := []) (by omega)
 obtain ⟨_, o2⟩ := outs_fits (s := (⟨agP p, true, false, e + 1, n, [], [], 0⟩ : Ses.Ses)) (tag := tag) H.hd (by show 0 ≤ e + 1 ∧ e + 1 < 1000000; omega) (by show 0 ≤ n ∧ n < 1000000; omega) (by omega)
 have hone : Ses.one wireP K.step (lgS A p) (sW p (e + 1) n u (wtW tag cmR ds.length)) (pDat tag) ds = {sA p (e + 1) (n + 1) (K.step u p.nm cm').2 with o := encs (outs (⟨agP p, true, false, e + 1, n, [], [], 0⟩ : Ses.Ses) tag (K.step u p.nm cm').1.d)} := by
  rw [Ses.step_data (c := cmR) rfl rfl rfl rfl rfl, Ses.done_ok H.hf, Ses.fin_ok (by exact H.hst) (by show (K.step u p.nm cm').1.d.length ≤ 4096; omega)]
  have e2 : m32 (n + 1) = n + 1 := m32_id (by omega) (by omega)
  show ({s := {(⟨agP p, true, false, e + 1, n, [], [], 0⟩ : Ses.Ses) with sn := m32 (n + 1)}, u := (K.step u p.nm cm').2, o := [] ++ encs (outs (⟨agP p, true, false, e + 1, n, [], [], 0⟩ : Ses.Ses) tag (K.step u p.nm cm').1.d)} : St K.U) = _
  rw [e2]; rfl
 have hpos : Ses.posOf [wtW tag cmR ds.length] (pDat tag).tag = some 0 := Ses.pos_one (v := wtW tag cmR ds.length)
 exact {
  pf := ⟨(by decide : Fits .i64 5), (by decide : Fits .i64 0), (by decide : Fits .i64 0), fits_small (n := tag) (by omega) (by omega), (by decide : Fits .u32 0), (by decide : Fits .u32 0), (by decide : Fits .u32 0), (by decide : Fits .u32 0), (by decide : Fits .u32 0)⟩
  pk := rfl
  pn := by omega
  xcl := rfl, xre := rfl, xrd := rfl, xo := rfl
  tk := fun _ => ⟨sOk h (by omega) (by omega) (fun v hv => by
   rw [List.mem_singleton.1 hv]
   exact ⟨fits_small (n := tag) (by omega) (by omega), hcd, q3, by show 0 + ds.length ≤ ds.length; omega⟩) (by simp), ⟨fun e => by exact absurd e (by show (5 : Int) ≠ 1; decide), fun _ i v h1 h2 c' hf => by
   have h1' : Ses.posOf [wtW tag cmR ds.length] (pDat tag).tag = some i := h1
   rw [hpos] at h1'
   cases h1'
   have h2' : [wtW tag cmR ds.length][0]? = some v := h2
   simp only [List.getElem?_cons_zero, Option.some.injEq] at h2'
   subst h2'
   have hf' : Ses.full wireP cmR ds = some c' := hf
   have := H.hf.symm.trans hf'
   cases this; exact H.hK, fun e => by exact absurd e (by show (5 : Int) ≠ 2; decide)⟩⟩
  lo := fun e => by cases e
  hy := hone.symm
  yrd := rfl, yre := rfl, yo := rfl
  out := o2
  ccl := rfl, cre := rfl, crd := rfl
  run := r1
  hc' := r2.symm }
theorem out_cmd' (h : LgP p A) {e t tag : Int} {cb ds : List UInt8} {D : List (Int × Rp)} (he : 0 ≤ e ∧ e < 100000) (hl : ds.length ≤ 512) : Cli.outC askB (cA p e (e + 15) t [⟨tag, cb, ds, [], false⟩] [] D) = (cA p (e + 1) (e + 15) t [⟨tag, cb, ds, [], true⟩] [] D, encP (pCmd e tag cb) (if p.im then ds else [])) := by
 have hg : ¬ Cli.gap e (e + 15) < 0 := by rw [Ses.gap_small (by omega) (by omega) (by omega)]; omega
 have e1 : m32 (e + 1) = e + 1 := m32_id (by omega) (by omega)
 have e2 := Cli.out_cmd (c := cA p e (e + 15) t [⟨tag, cb, ds, [], false⟩] [] D) (lt := askB) (tag := tag) (cb := cb) (ds := ds) rfl rfl rfl rfl rfl hg (by omega)
 rw [e2]
 have e3 : ({cA p e (e + 15) t [⟨tag, cb, ds, [], false⟩] [] D with sn := m32 ((cA p e (e + 15) t [⟨tag, cb, ds, [], false⟩] [] D).sn + 1), L := [⟨tag, cb, ds, [], true⟩]} : Cl) = ({cA p e (e + 15) t [⟨tag, cb, ds, [], false⟩] [] D with sn := m32 (e + 1), L := [⟨tag, cb, ds, [], true⟩]} : Cl) := rfl
 rw [e3, e1]
 rfl
theorem out_dat' {e m t tag : Int} {cb ds say : List UInt8} {D : List (Int × Rp)} : Cli.outC askB (cA p e m t [⟨tag, cb, ds, [], true⟩] say D) = (cA p e m t [⟨tag, cb, ds, [], true⟩] [] D, say) :=
 by rw [Cli.out_say (c := cA p e m t [⟨tag, cb, ds, [], true⟩] say D) rfl rfl rfl (.inr ⟨⟨tag, cb, ds, [], true⟩, rfl, rfl⟩)]; rfl
theorem out_idle {e m t : Int} {D : List (Int × Rp)} : Cli.outC askB (cA p e m t [] [] D) = (cA p e m t [] [] D, []) :=
 by rw [Cli.out_say (c := cA p e m t [] [] D) rfl rfl rfl (.inl rfl)]; rfl
theorem out_log (h : LgP p A) {t : Int} {L : List Ak} : Cli.outC askB ({cL p t L with asked := false} : Cl) = (cL p t L, encP pLog (askB p)) :=
 by rw [Cli.out_login (c := {cL p t L with asked := false}) rfl rfl rfl (Lgn.ask_right h).2.1.tot]; rfl
end Go.Proofs.YtdinpgnjnleioaaGreatDoor.Pip
end
section
namespace Go.Proofs.YtdinpgnjnleioaaGreatDoor.Pip
open Go Go.CW Go.RowKit Go.Proofs.YtdinpgnjnleioaaGreatDoor Go.Proofs.YtdinpgnjnleioaaGreatDoor.Pdu
open Go.Proofs.YtdinpgnjnleioaaGreatDoor.Ses (Wire WireOk Doer St SAt Cm Rp rCm RpAt encQ_eq wireP wireP_ok outs m32 m32_id newS Prm)
open Go.Proofs.YtdinpgnjnleioaaGreatDoor.Cli (Cl Ak Pq encs CAt SenOk runC askB cdbP)
open Go.Proofs.YtdinpgnjnleioaaGreatDoor.Lgn (askL ansL agP LgP)
variable {K : Doer} {A : List (List UInt8)} {u : K.U} {p : Prm}
structure OutOk (c : Cl) : Prop where
 ok : c.cl = false → c.op = true → Cli.COk c
 say : c.say.length ≤ 1000000
 ask : c.cl = false → c.asked = false → Cli.AskOk Txt.Env askB c.p ∧ (askB c.p).length ≤ 4096
inductive Turn1 (K : Doer) (A : List (List UInt8)) (p : Prm) : Cl × St K.U → Cl × St K.U → Prop
 | idle {c : Cl} {x : St K.U} (o : OutOk c) (h : Cli.outC askB c = (c, [])) : Turn1 K A p (c, x) (c, x)
 | way {c c1 c' : Cl} {x y : St K.U} {q : Pd} {ds : List UInt8} {qs : List Pq} (o : OutOk c) (h : Cli.outC askB c = (c1, encP q ds)) (w : Way Txt.Env wireP K A (lgS A p) Sen.decS (lgC p) q ds qs c1 c' x y) : Turn1 K A p (c, x) (c', y)
def Turns (K : Doer) (A : List (List UInt8)) (p : Prm) : Nat → Cl × St K.U → Cl × St K.U → Prop
 | 0, a, b => a = b
 | n + 1, a, b => ∃ m, Turn1 K A p a m ∧ Turns K A p n m b
theorem Turns.then : ∀ {n m : Nat} {a b c : Cl × St K.U}, Turns K A p n a b → Turns K A p m b c → Turns K A p (n + m) a c
 | 0, m, a, b, c, h, h' => by
   have : a = b := h
   subst this; rw [Nat.zero_add]; exact h'
 | n + 1, m, a, b, c, ⟨d, h1, h2⟩, h' => by
   rw [Nat.add_right_comm]
   exact ⟨d, h1, Turns.then h2 h'⟩
theorem Turns.one {a b : Cl × St K.U} (h : Turn1 K A p a b) : Turns K A p 1 a b := ⟨b, h, rfl⟩
theorem outOk_open (h : LgP p A) {e m t : Int} {L : List Ak} {say : List UInt8} {D : List (Int × Rp)} (he : 0 ≤ e ∧ e < 1000000) (hm : 0 ≤ m ∧ m < 1000000) (hL : ∀ a ∈ L, Cli.AkOk a) (hl : L.length ≤ 1000) (hD : D.length ≤ 1000000) (hs : say.length ≤ 1000000) : OutOk (cA p e m t L say D) :=
 ⟨fun _ _ => cOk h he hm hL hl hD (by omega), hs, fun _ e => by cases e⟩
theorem idle_turn (h : LgP p A) {e t : Int} {D : List (Int × Rp)} (he : 0 ≤ e ∧ e < 100000) (hD : D.length ≤ 1000) (x : St K.U) : Turn1 K A p (cA p e (e + 15) t [] [] D, x) (cA p e (e + 15) t [] [] D, x) :=
 .idle (outOk_open h (by omega) (by omega) (by simp) (by simp) (by omega) (by simp)) out_idle
theorem idle_turns (h : LgP p A) {e t : Int} {D : List (Int × Rp)} (he : 0 ≤ e ∧ e < 100000) (hD : D.length ≤ 1000) (x : St K.U) : ∀ n, Turns K A p n (cA p e (e + 15) t [] [] D, x) (cA p e (e + 15) t [] [] D, x)
 | 0 => rfl
 | n + 1 => ⟨_, idle_turn h he hD x, idle_turns h he hD x n⟩
theorem login_turn (h : LgP p A) {t : Int} {L : List Ak} (u : K.U) : Turn1 K A p (({cL p t L with asked := false} : Cl), newS u) (cA p 2 17 t L [] [], sA p 2 2 u) := by
 have h1 := h.md
 have h2 := h.bu
 obtain ⟨a1, a2, a3, a4⟩ := Lgn.ask_right h
 exact .way ⟨(fun _ e => by cases e), (by show ([] : List UInt8).length ≤ 1000000; simp), fun _ _ => ⟨Cli.AskOk_c (by show p.md ≤ _; omega) (by show p.bu ≤ _; omega) a2 a3, a2.tot⟩⟩ (out_log h) (way_login h)
theorem cmd_turns (h : LgP p A) {e n t tag : Int} {cb ds : List UInt8} {cmR cm' : Cm} {D : List (Int × Rp)} (N : Nm e n tag D) (N' : e + 1 < 100000 ∧ D.length + 1 ≤ 1000) (H : CmdOk K p u cb ds cmR cm') (hcd : cmR.d = []) :
 Turns K A p 2 (cA p e (e + 15) t [⟨tag, cb, ds, [], false⟩] [] D, sA p e n u) (cA p (e + 1) (e + 16) t [] [] (D ++ [(tag, ⟨0, 0, 0, (K.step u p.nm cm').1.d, 0⟩)]), sA p (e + 1) (n + 1) (K.step u p.nm cm').2) := by
 have n1 := N.e0; have n2 := N.e1; have n3 := N.n0; have n4 := N.n1; have n5 := N.t0; have n6 := N.t1; have n7 := N.D
 have q1 := H.hcb; have q3 := H.hds
 have ak : ∀ b : Bool, ∀ a ∈ [(⟨tag, cb, ds, [], b⟩ : Ak)], Cli.AkOk a := fun b a ha => by
  rw [List.mem_singleton.1 ha]
  exact ⟨fits_small (n := tag) (by omega) (by omega), q3, q1⟩
 have o1 : OutOk (cA p e (e + 15) t [⟨tag, cb, ds, [], false⟩] [] D) := outOk_open h (by omega) (by omega) (ak false) (by simp) (by omega) (by simp)
 have hout := out_cmd' h (t := t) (tag := tag) (cb := cb) (ds := ds) (D := D) ⟨n1, n2⟩ q3
 have e16 : e + 16 = e + 1 + 15 := by omega
 by_cases him : ds = [] ∨ p.im = true
 · have ed : (if p.im then ds else []) = ds := by
    rcases him with rfl | him
    · split <;> rfl
    · rw [if_pos him]
   rw [ed] at hout
   refine ⟨_, .way o1 hout (way_cmd h N H him), Turns.one ?_⟩
   rw [e16]
   exact idle_turn h (by omega) (by simp; omega) _
 · have hne : ds ≠ [] := fun e => him (.inl e)
   have hi : p.im = false := by
    cases hp : p.im with
    | true => exact absurd (.inr hp) him
    | false => rfl
   rw [hi] at hout
   refine ⟨_, .way o1 hout (way_ask h N H hne), Turns.one (.way ?_ out_dat' (way_data h N H hcd))⟩
   exact outOk_open h (by omega) (by omega) (ak true) (by simp) (by omega) (by rw [encP_length]; split <;> omega)
end Go.Proofs.YtdinpgnjnleioaaGreatDoor.Pip
end
section
namespace Go.Proofs.YtdinpgnjnleioaaGreatDoor.Pip
open Go Go.CW Go.RowKit Go.Proofs.YtdinpgnjnleioaaGreatDoor Go.Proofs.YtdinpgnjnleioaaGreatDoor.Pdu
open Go.Proofs.YtdinpgnjnleioaaGreatDoor.Ses (Wire WireOk Doer St SAt Cm Rp rCm RpAt encQ_eq wireP wireP_ok outs m32 m32_id newS Prm cmE)
open Go.Proofs.YtdinpgnjnleioaaGreatDoor.Cli (Cl Ak Pq encs CAt SenOk runC askB cdbP)
open Go.Proofs.YtdinpgnjnleioaaGreatDoor.Lgn (askL ansL agP LgP)
variable {K : Doer} {A : List (List UInt8)} {u : K.U} {p : Prm}
theorem ask_open {e m t : Int} {D : List (Int × Rp)} {cb ds : List UInt8} (ht : 0 ≤ t ∧ t < 100000) : Cli.ask (cA p e m t [] [] D) cb ds = cA p e m (t + 1) [⟨t + 1, cb, ds, [], false⟩] [] D := by
 have e1 : m32 (t + 1) = t + 1 := m32_id (by omega) (by omega)
 show (⟨takP p, [], 0, true, false, true, e, m, m32 (t + 1), [] ++ [⟨m32 (t + 1), cb, ds, [], false⟩], [], D⟩ : Cl) = _
 rw [e1]; rfl
theorem ask_new {cb ds : List UInt8} : Cli.ask (Cli.newC p) cb ds = ({cL p 1 [⟨1, cb, ds, [], false⟩] with asked := false} : Cl) := by
 have e1 : m32 (0 + 1) = 1 := by decide
 show (⟨p, [], 0, false, false, false, 0, 0, m32 (0 + 1), [] ++ [⟨m32 (0 + 1), cb, ds, [], false⟩], [], []⟩ : Cl) = _
 rw [e1]; rfl
theorem phase (h : LgP p A) {e n t : Int} {cb ds : List UInt8} {cmR cm' : Cm} {D : List (Int × Rp)} (N : Nm e n (t + 1) D) (N' : e + 1 < 100000 ∧ D.length + 1 ≤ 1000 ∧ 0 ≤ t) (H : CmdOk K p u cb ds cmR cm') (hcd : cmR.d = []) (m : Nat) :
 Turns K A p (2 + m) (Cli.ask (cA p e (e + 15) t [] [] D) cb ds, sA p e n u) (cA p (e + 1) (e + 16) (t + 1) [] [] (D ++ [(t + 1, ⟨0, 0, 0, (K.step u p.nm cm').1.d, 0⟩)]), sA p (e + 1) (n + 1) (K.step u p.nm cm').2) := by
 have n1 := N.e0; have n2 := N.e1; have n5 := N.t0; have n6 := N.t1; have n7 := N.D
 rw [ask_open ⟨N'.2.2, by omega⟩]
 refine (cmd_turns h (t := t + 1) N ⟨N'.1, N'.2.1⟩ H hcd).then ?_
 have e16 : e + 16 = e + 1 + 15 := by omega
 rw [e16]
 exact idle_turns h (by omega) (by simp; omega) _ m
theorem phase0 (h : LgP p A) {cb ds : List UInt8} {cmR cm' : Cm} (H : CmdOk K p u cb ds cmR cm') (hcd : cmR.d = []) (m : Nat) :
 Turns K A p (3 + m) (Cli.ask (Cli.newC p) cb ds, newS u) (cA p 3 18 1 [] [] [(1, ⟨0, 0, 0, (K.step u p.nm cm').1.d, 0⟩)], sA p 3 3 (K.step u p.nm cm').2) := by
 rw [ask_new]
 have h1 := cmd_turns h (e := 2) (n := 2) (t := 1) (tag := 1) (D := []) ⟨by omega, by omega, by omega, by omega, by omega, by omega, by simp⟩ ⟨by omega, by simp⟩ H hcd
 have h2 := (Turns.one (login_turn h (t := 1) (L := [⟨1, cb, ds, [], false⟩]) u)).then (h1.then (idle_turns h (e := 3) (t := 1) (D := [(1, ⟨0, 0, 0, (K.step u p.nm cm').1.d, 0⟩)]) (by omega) (by simp) _ m))
 have e : 1 + (2 + m) = 3 + m := by omega
 rw [e] at h2
 exact h2
theorem cmd_read {pos n : Nat} (hn : n ≤ 32) (hp : pos < 4611686018427387904) (hK : K.Ok u p.nm ⟨2, pos, n, 0, 0, 0, false, []⟩) (hst : (K.step u p.nm ⟨2, pos, n, 0, 0, 0, false, []⟩).1.st = 0) (hl : (K.step u p.nm ⟨2, pos, n, 0, 0, 0, false, []⟩).1.d.length ≤ 512) :
 CmdOk K p u (Cdb.encB Ses.xRead false 0 pos n) [] (cmE Ses.xRead 0 pos n) ⟨2, pos, n, 0, 0, 0, false, []⟩ :=
 ⟨Cdb.encB_length .., Ses.cmd_enc Ses.x_mem.2.1 (by omega) hp (by omega), rfl, Ses.full_one rfl [], hK, hst, hl, by simp⟩
theorem cmd_reg {k o : Int} (hk : 0 ≤ k ∧ k < 18446744073709551616) (ho : 0 ≤ o ∧ o < 18446744073709551616) (hK : K.Ok u p.nm ⟨10, 0, 0, k, o, 0, false, []⟩) (hst : (K.step u p.nm ⟨10, 0, 0, k, o, 0, false, []⟩).1.st = 0) (hl : (K.step u p.nm ⟨10, 0, 0, k, o, 0, false, []⟩).1.d.length ≤ 512) :
 CmdOk K p u (Cdb.encB Ses.xReg false 0 (0 : Nat) (0 : Nat)) (Lst.encB k o) (cmE Ses.xReg 0 0 0) ⟨10, 0, 0, k, o, 0, false, []⟩ :=
 ⟨Cdb.encB_length .., Ses.cmd_enc Ses.x_mem.2.2.1 (by omega) (by omega) (by omega), by rw [Lst.encB_length]; rfl, Ses.full_two rfl hk ho, hK, hst, hl, by rw [Lst.encB_length]; omega⟩
theorem cmd_res {t k o : Int} (ht : 0 ≤ t ∧ t ≤ 15) (hk : 0 ≤ k ∧ k < 18446744073709551616) (ho : 0 ≤ o ∧ o < 18446744073709551616) (hK : K.Ok u p.nm ⟨12, 0, 0, k, o, t, false, []⟩) (hst : (K.step u p.nm ⟨12, 0, 0, k, o, t, false, []⟩).1.st = 0) (hl : (K.step u p.nm ⟨12, 0, 0, k, o, t, false, []⟩).1.d.length ≤ 512) :
 CmdOk K p u (Cdb.encB Ses.xRes false t (0 : Nat) (0 : Nat)) (Lst.encB k o) (cmE Ses.xRes t 0 0) ⟨12, 0, 0, k, o, t, false, []⟩ :=
 ⟨Cdb.encB_length .., Ses.cmd_enc Ses.x_mem.2.2.2.1 ht (by omega) (by omega), by rw [Lst.encB_length]; rfl, Ses.full_two rfl hk ho, hK, hst, hl, by rw [Lst.encB_length]; omega⟩
theorem cmd_keys (hK : K.Ok u p.nm ⟨16, 0, 0, 0, 0, 0, false, []⟩) (hst : (K.step u p.nm ⟨16, 0, 0, 0, 0, 0, false, []⟩).1.st = 0) (hl : (K.step u p.nm ⟨16, 0, 0, 0, 0, 0, false, []⟩).1.d.length ≤ 512) :
 CmdOk K p u (Cdb.encB Ses.xKeys false 0 (0 : Nat) (0 : Nat)) [] (cmE Ses.xKeys 0 0 0) ⟨16, 0, 0, 0, 0, 0, false, []⟩ :=
 ⟨Cdb.encB_length .., Ses.cmd_enc Ses.x_mem.2.2.2.2 (by omega) (by omega) (by omega), rfl, Ses.full_one rfl [], hK, hst, hl, by simp⟩
end Go.Proofs.YtdinpgnjnleioaaGreatDoor.Pip
end
section
namespace Go.Proofs.YtdinpgnjnleioaaGreatDoor.Pip
open Go Go.CW Go.RowKit Go.Proofs.YtdinpgnjnleioaaGreatDoor Go.Proofs.YtdinpgnjnleioaaGreatDoor.Pdu
open Go.Proofs.YtdinpgnjnleioaaGreatDoor.Ses (Wire WireOk Doer St SAt Cm Rp)
open Go.Proofs.YtdinpgnjnleioaaGreatDoor.Cli (Cl Pq encs CAt)
structure Pp (B : Nat) (Q : World → Prop) (K : Doer) (A : List (List UInt8)) (w : World) (gp : Nat) (cs : Array Value) (te : TypeId) (gc gs : Nat) (Sc Ss : Fp) (c : Cl) (x : St K.U) : Prop where
 b : BK w gp cs te
 h : PAt B Q K A w gc gs Sc Ss c x
 nc : ¬ Sc gp
 ns : ¬ Ss gp
 lo : B ≤ gp
variable {B : Nat} {Q : World → Prop} {K : Doer} {A : List (List UInt8)} {w w' : World} {gp gc gs : Nat} {cs : Array Value} {te : TypeId} {Sc Ss Sc' Ss' : Fp} {c c' : Cl} {x x' : St K.U}
theorem Pp.cl (H : Pp B Q K A w gp cs te gc gs Sc Ss c x) (st : Step Sc w w' Sc') (h' : PAt B Q K A w' gc gs Sc' Ss c' x) : Pp B Q K A w' gp cs te gc gs Sc' Ss c' x :=
 ⟨H.b.stepS st H.nc, h', fun hk => (st.fp _ hk).elim H.nc (fun q => by have := H.b.lt; omega), H.ns, H.lo⟩
theorem Pp.se (H : Pp B Q K A w gp cs te gc gs Sc Ss c x) (st : Step Ss w w' Ss') (h' : PAt B Q K A w' gc gs Sc Ss' c x') : Pp B Q K A w' gp cs te gc gs Sc Ss' c x' :=
 ⟨H.b.stepS st H.ns, h', H.nc, fun hk => (st.fp _ hk).elim H.ns (fun q => by have := H.b.lt; omega), H.lo⟩
theorem Pp.grow (H : Pp B Q K A w gp cs te gc gs Sc Ss c x) (g : Grow w w') : Pp B Q K A w' gp cs te gc gs Sc Ss c x :=
 ⟨H.b.grow g, H.h.grow g, H.nc, H.ns, H.lo⟩
end Go.Proofs.YtdinpgnjnleioaaGreatDoor.Pip
end
