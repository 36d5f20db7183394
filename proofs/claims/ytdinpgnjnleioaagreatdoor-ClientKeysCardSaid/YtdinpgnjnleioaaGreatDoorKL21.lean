/- The laws of gemellaw21: ClientWrites, ClientKeys. -/
import Derived.Test.YtdinpgnjnleioaaGreatDoorKRfW
set_option linter.unusedSimpArgs false
set_option linter.unusedVariables false
set_option maxRecDepth 100000
namespace Go.Proofs.YtdinpgnjnleioaaGreatDoor.Pip
open Go Go.CW Go.RowKit Go.Proofs.YtdinpgnjnleioaaGreatDoor Go.Proofs.YtdinpgnjnleioaaGreatDoor.Pdu Go.Proofs.YtdinpgnjnleioaaGreatDoor.Rf
open Go.Proofs.YtdinpgnjnleioaaGreatDoor.Ses (Wire WireOk Doer St SAt Cm Rp wireP wireP_ok Prm decS_ok newS ET sl Sl m32)
open Go.Proofs.YtdinpgnjnleioaaGreatDoor.Cli (Cl Pq encs CAt askB DnAt ED)
variable {B : Nat} {K : Doer} {A : List (List UInt8)} {p : Prm} {gp gc gs gd : Nat} {w w' : World} {a : Cl × St K.U}
theorem PI.c0 (h : PI B K A gp gc gs gd w a) : w.cell? (Addr.add ⟨gp, 0, none⟩ 0) = some (.pointer (some ⟨gc, 0, none⟩)) := by obtain ⟨Sc, Ss, H⟩ := h; exact H.b.cell 0
theorem PI.c1 (h : PI B K A gp gc gs gd w a) : w.cell? (Addr.add ⟨gp, 0, none⟩ 1) = some (.pointer (some ⟨gs, 0, none⟩)) := by obtain ⟨Sc, Ss, H⟩ := h; exact H.b.cell 1
theorem PI.grow (h : PI B K A gp gc gs gd w a) (g : Grow w w') : PI B K A gp gc gs gd w' a := by obtain ⟨Sc, Ss, H⟩ := h; exact ⟨Sc, Ss, H.grow g⟩
theorem PI.hB (h : PI B K A gp gc gs gd w a) : B ≤ w.heap.size := by obtain ⟨Sc, Ss, H⟩ := h; exact H.h.hB
theorem pDo_c (h : PI B K A gp gc gs gd w a) {cm : Cm} {cb xs : List UInt8} {dv : Value} (hc : a.1.cl = false) (hd : RdB w dv cm.d) (he : Cli.EncOk cm cb) (hx : Cli.DatOk cm xs) (hlen : a.1.L.length < 16) {R : KV}
 (k : ∀ w', Below B w w' → PI B K A gp gc gs gd w' (Cli.ask a.1 cb xs, a.2) → R (.tuple #[.int .u32 (m32 (a.1.tag + 1)), .int .i64 0]) w') :
 CW.Spec Tryz.prog 18 #[.pointer (some ⟨gc, 0, none⟩), .agg (Ses.rCm cm dv)] w R := by
 obtain ⟨Sc, Ss, H⟩ := h
 exact cDo_c H.h hc hd he hx hlen fun w' Sc' st h' => k w' (Step.low st H.h.hB H.h.lc) ⟨Sc', Ss, H.cl st h'⟩
theorem pDone_c (h : PI B K A gp gc gs gd w a) {R : KV}
 (k : ∀ v w' Sc Ss, Below B w w' → Pp B Txt.Env K A w' gp (rPip gc gs gd) tPip gc gs Sc Ss ({a.1 with done := []} : Cl) a.2 → DnAt w' Sc v a.1.done → R v w') :
 CW.Spec Tryz.prog 20 #[.pointer (some ⟨gc, 0, none⟩)] w R := by
 obtain ⟨Sc, Ss, H⟩ := h
 exact Cli.Done_c H.h.c fun v w' st hc hd => k v w' Sc Ss (Step.low st H.h.hB H.h.lc) (H.cl st (H.h.cl st hc)) hd
theorem dn_at {S : Fp} {v : Value} {D : List (Int × Rp)} (h : DnAt w S v D) {i : Nat} (hi : i < D.length) :
 ∃ ad sd, sliceAt v (i : Int) 6 = some ad ∧ w.cell? (Addr.add ad 0) = some (.int .u32 D[i].1) ∧ w.cell? (Addr.add (Addr.add ad 1) 0) = some (.int .i64 D[i].2.st) ∧ w.cell? (Addr.add (Addr.add ad 1) 3) = some (sl sd) ∧ RdB w (sl sd) D[i].2.d := by
 obtain ⟨ds, hl, hr, _, hb⟩ := h
 have hz : (D.zip ds).length = D.length := by rw [List.length_zip, hl, Nat.min_self]
 obtain ⟨ad, h1, h2, _⟩ := hr.at (i := (i : Int)) (by omega) (by omega)
 have hd := hb i hi (by omega)
 have e : (D.zip ds)[(i : Int).toNat]'(by rw [hz]; exact hi) = (D[i], ds[i]'(by omega)) := by simp
 refine ⟨ad, ds[i]'(by omega), h1, ?_, ?_, ?_, hd.1⟩
 · rw [h2 0 (by decide), e]; rfl
 · rw [add_add, h2 1 (by decide), e]; rfl
 · rw [add_add, h2 4 (by decide), e]; rfl
theorem dn_len {S : Fp} {v : Value} {D : List (Int × Rp)} (h : DnAt w S v D) : sliceLen v = some D.length := by
 obtain ⟨ds, hl, hr, _, hb⟩ := h
 have hz : (D.zip ds).length = D.length := by rw [List.length_zip, hl, Nat.min_self]
 rw [hr.len, hz]
theorem e_write {pos n : Nat} {d : List UInt8} (hn : n ≤ 32) (hp : pos ≤ 1000) : Cli.EncOk ⟨3, pos, n, 0, 0, 0, false, d⟩ (Cdb.encB Ses.xWrite false 0 pos n) := Cli.enc_c (cm := ⟨3, pos, n, 0, 0, 0, false, d⟩) (x := Ses.xWrite) Ses.x_find.1 (by show pos < _; omega) (by show n ≤ 255; omega) (by show (0 : Int) ≤ 0 ∧ (0 : Int) ≤ 15; omega)
theorem e_read {pos n : Nat} (hn : n ≤ 32) (hp : pos ≤ 1000) : Cli.EncOk ⟨2, pos, n, 0, 0, 0, false, []⟩ (Cdb.encB Ses.xRead false 0 pos n) := Cli.enc_c (cm := ⟨2, pos, n, 0, 0, 0, false, []⟩) (x := Ses.xRead) Ses.x_find.2.1 (by show pos < _; omega) (by show n ≤ 255; omega) (by show (0 : Int) ≤ 0 ∧ (0 : Int) ≤ 15; omega)
theorem e_reg {key : Int} : Cli.EncOk ⟨10, 0, 0, 0, key, 0, false, []⟩ (Cdb.encB Ses.xReg false 0 (0 : Nat) (0 : Nat)) := Cli.enc_c (cm := ⟨10, 0, 0, 0, key, 0, false, []⟩) (x := Ses.xReg) Ses.x_find.2.2.1 (by show 0 < _; omega) (by show 0 ≤ 255; omega) (by show (0 : Int) ≤ 0 ∧ (0 : Int) ≤ 15; omega)
theorem e_res {key y : Int} (hy : 0 ≤ y ∧ y ≤ 15) : Cli.EncOk ⟨12, 0, 0, key, 0, y, false, []⟩ (Cdb.encB Ses.xRes false y (0 : Nat) (0 : Nat)) := Cli.enc_c (cm := ⟨12, 0, 0, key, 0, y, false, []⟩) (x := Ses.xRes) Ses.x_find.2.2.2.1 (by show 0 < _; omega) (by show 0 ≤ 255; omega) hy
theorem e_keys : Cli.EncOk ⟨16, 0, 0, 0, 0, 0, false, []⟩ (Cdb.encB Ses.xKeys false 0 (0 : Nat) (0 : Nat)) := Cli.enc_c (cm := ⟨16, 0, 0, 0, 0, 0, false, []⟩) (x := Ses.xKeys) Ses.x_find.2.2.2.2 (by show 0 < _; omega) (by show 0 ≤ 255; omega) (by show (0 : Int) ≤ 0 ∧ (0 : Int) ≤ 15; omega)
theorem d_read {pos n : Nat} : Cli.DatOk ⟨2, pos, n, 0, 0, 0, false, []⟩ [] := Cli.dat_c (cm := ⟨2, pos, n, 0, 0, 0, false, []⟩) (by simp) (fun _ => rfl)
theorem d_reg {key : Int} : Cli.DatOk ⟨10, 0, 0, 0, key, 0, false, []⟩ (Lst.encB 0 key) := Cli.dat_c (cm := ⟨10, 0, 0, 0, key, 0, false, []⟩) (by simp) (fun h => absurd (show (10 : Int) ≤ 10 ∧ (10 : Int) ≤ 15 by omega) h)
theorem d_res {key y : Int} : Cli.DatOk ⟨12, 0, 0, key, 0, y, false, []⟩ (Lst.encB key 0) := Cli.dat_c (cm := ⟨12, 0, 0, key, 0, y, false, []⟩) (by simp) (fun h => absurd (show (10 : Int) ≤ 12 ∧ (12 : Int) ≤ 15 by omega) h)
theorem d_keys : Cli.DatOk ⟨16, 0, 0, 0, 0, 0, false, []⟩ [] := Cli.dat_c (cm := ⟨16, 0, 0, 0, 0, 0, false, []⟩) (by decide) (fun _ => rfl)
abbrev Kd (gd : Nat) : Doer := docK gd
abbrev AA : List (List UInt8) := [iqA, iqB]
theorem known_c (hE : Txt.Env w) {R : KV} (k : ∀ w', Grow w w' → R (.bool true) w') : CW.Spec Tryz.prog 15 #[] w R := by
 apply q37W
 refine params_c (n := iqA) (b := 1024) (now := true) fun w1 g1 => ⟨_, _, _, _, _, rfl, ?_⟩
 refine newPipe_c (B := w.heap.size) (p := pA 1024 true) g1.size (fun w' bel => hE.grow (g1.trans bel)) fun gp gc gs gd w8 g8 h8 => ⟨_, rfl, ?_⟩
 have gA := g1.then g8
 refine JoinP.bool (fun b w' => b = false ∧ w8 = w') (fun j hj => withAddr_some ⟨_, h8.c0, false, rfl, cond_f rfl (withAddr_some ⟨_, h8.c1, false, rfl, hj _ _ ⟨rfl, rfl⟩⟩)⟩) ?_
 rintro _ _ ⟨rfl, rfl⟩
 refine cond_f rfl (withAddr_some ⟨_, h8.c0, ?_⟩)
 refine pDo_c h8 (cm := ⟨2, 0, 1, 0, 0, 0, false, []⟩) rfl (Rd.nil _) (e_read (by omega) (by omega)) d_read (by show 0 < 16; omega) fun w15 b15 h15 => ⟨_, _, rfl, ?_⟩
 have L : Lgn.LgP (pA 1024 true) AA := lgp (by omega)
 have H : CmdOk (Kd gd) (pA 1024 true) u0 (Cdb.encB Ses.xRead false 0 (0 : Nat) (1 : Nat)) [] (Ses.cmE Ses.xRead 0 0 1) ⟨2, 0, 1, 0, 0, 0, false, []⟩ :=
  cmd_read (K := Kd gd) (by omega) (by omega) ⟨fine0, ok_read (by omega) (by omega)⟩ (by show (stepR u0 iqA _).1.st = 0; rw [read_0]; rfl) (by show (stepR u0 iqA _).1.d.length ≤ 512; rw [read_0]; decide)
 have T := phase0 (K := Kd gd) L H rfl 27
 refine turn_c (n := 30) (cut := 1000) (by omega) (by omega) T h15 fun w19 b19 h19 => ⟨rfl, withAddr_some ⟨_, h19.c0, ?_⟩⟩
 refine pDone_c h19 fun v22 w23 Sc Ss b23 H23 dn => ?_
 have hd8 : ((Kd gd).step u0 (pA 1024 true).nm ⟨2, 0, 1, 0, 0, 0, false, []⟩).1.d.length = 8 := by
  show (stepR u0 iqA _).1.d.length = 8
  rw [read_0]; decide
 have gB : Grow w w23 := gA.trans (b15.trans (b19.trans b23))
 refine JoinP.bool (fun b w' => b = true ∧ Grow w w') (fun j hj => cond_t rfl ⟨_, dn_len dn, cond_t rfl ?_⟩) (fun b w' hh => by rw [hh.1]; exact k w' hh.2)
 obtain ⟨ad, sd, q1, q2, q3, q4, q5⟩ := dn_at dn (i := 0) (by show 0 < 1; omega)
 refine ⟨ad, q1, _, q2, cond_t rfl ⟨ad, q1, _, q4, _, RdB.len q5, cond_t ?_ ?_⟩⟩
 · show ((((((Kd gd).step u0 (pA 1024 true).nm ⟨2, 0, 1, 0, 0, 0, false, []⟩).1.d.length : Nat) : Int)) == 8) = true
   rw [hd8]; rfl
 · refine withAddr_some ⟨_, H23.b.cell 0, Cli.Open_c H23.h.c ⟨_, rfl, cond_t rfl (withAddr_some ⟨_, H23.b.cell 0, ?_⟩)⟩⟩
   refine Cli.Waiting_c H23.h.c (by show 0 ≤ 1000; omega) fun w41 g41 => ⟨_, rfl, hj _ _ ⟨rfl, gB.then g41⟩⟩
theorem and3 : ∀ t : Fin 256, bitsI .and .u8 (t.val : Int) 3 = ((t.val % 4 : Nat) : Int) := by decide +kernel
theorem ty_at {w0 : World} {b : Nat} (h : BK w0 b #[.int .i64 1, .int .i64 3, .int .i64 5, .int .i64 6] 3) {t : Int} (ht : Fits .u8 t) :
 ∃ ad y, sliceAt (.slice (some ⟨b, 0, none⟩) 4 4) (bitsI .and .u8 t (3 : Int)) 1 = some ad ∧ w0.cell? ad = some (.int .i64 y) ∧ isT y = true ∧ 1 ≤ y ∧ y ≤ 6 := by
 have hq := ht.u8
 have e := and3 ⟨t.toNat, by omega⟩
 have et : ((t.toNat : Nat) : Int) = t := by omega
 simp only [et] at e
 rw [e]
 have hlt : t.toNat % 4 < 4 := Nat.mod_lt _ (by omega)
 generalize t.toNat % 4 = z at hlt
 refine ⟨Addr.add ⟨b, 0, none⟩ (z * 1), ?_⟩
 have hs : sliceAt (.slice (some ⟨b, 0, none⟩) 4 4) ((z : Nat) : Int) 1 = some (Addr.add ⟨b, 0, none⟩ (z * 1)) := by
  simp only [sliceAt]
  rw [if_pos (by omega)]; rfl
 have : z = 0 ∨ z = 1 ∨ z = 2 ∨ z = 3 := by omega
 rcases this with rfl | rfl | rfl | rfl
 · exact ⟨1, hs, h.cell 0, by decide, by omega, by omega⟩
 · exact ⟨3, hs, h.cell 1, by decide, by omega, by omega⟩
 · exact ⟨5, hs, h.cell 2, by decide, by omega, by omega⟩
 · exact ⟨6, hs, h.cell 3, by decide, by omega, by omega⟩
theorem fineK {key : Int} (h : 0 < key ∧ key < 18446744073709551616) : Fine (uK key) := by
 have := step_fine (u := u0) (n := iqA) (c := ⟨10, 0, 0, 0, key, 0, false, []⟩) fine0 (ok_reg h)
 rw [reg_a] at this; exact this
theorem fineH {key y : Int} (h : 0 < key ∧ key < 18446744073709551616) (hy : isT y = true) : Fine (uH key y) := by
 have := step_fine (u := uK key) (n := iqA) (c := ⟨12, 0, 0, key, 0, y, false, []⟩) (fineK h) (ok_res h hy)
 rw [res_a (by omega)] at this; exact this
theorem reg_one (key : Int) : stepH (u0n 1) 0 ⟨10, 0, 0, 0, key, 0, false, []⟩ = (good, {u0n 1 with keys := [key, 0, 0, 0, 0, 0, 0, 0], gen := 1}) := by
 unfold stepH
 rw [if_neg (show ¬ allowsR (u0n 1) 0 10 = false by decide), if_neg (show ¬ (10 : Int) = 2 by decide), if_neg (show ¬ (10 : Int) = 3 by decide), if_pos rfl, if_pos (show (u0n 1).keys.getD 0 0 = 0 by decide)]
 rfl
theorem keys_one {key : Int} (hk : key ≠ 0) : stepH {u0n 1 with keys := [key, 0, 0, 0, 0, 0, 0, 0], gen := 1} 0 ⟨16, 0, 0, 0, 0, 0, false, []⟩ = ({good with d := Lst.keysB 1 [key]}, {u0n 1 with keys := [key, 0, 0, 0, 0, 0, 0, 0], gen := 1}) := by
 unfold stepH
 have a : allowsR {u0n 1 with keys := [key, 0, 0, 0, 0, 0, 0, 0], gen := 1} 0 16 = true := rfl
 have l : listR {u0n 1 with keys := [key, 0, 0, 0, 0, 0, 0, 0], gen := 1} = [key] := by
  show List.filter (fun k => decide (k ≠ 0)) [key, (0 : Int), 0, 0, 0, 0, 0, 0] = [key]
  simp [hk]
 rw [if_neg (by show ¬ allowsR {u0n 1 with keys := [key, 0, 0, 0, 0, 0, 0, 0], gen := 1} 0 16 = false; rw [a]; simp), if_neg (by show ¬ (16 : Int) = 2; decide), if_neg (by show ¬ (16 : Int) = 3; decide), if_neg (by show ¬ (16 : Int) = 10; decide), if_neg (by show ¬ (16 : Int) = 12; decide), l]
theorem doc_typ {gd : Nat} {F : Fp} {u : Ru} (h : docAt gd w F u) : ∃ gu gt, w.cell? (Addr.add ⟨gd, 0, none⟩ 0) = some (.pointer (some ⟨gu, 0, none⟩)) ∧ w.cell? (Addr.add ⟨gu, 0, none⟩ 1) = some (.pointer (some ⟨gt, 0, none⟩)) ∧ w.cell? (Addr.add ⟨gt, 0, none⟩ 9) = some (.int .i64 u.typ) := by
 obtain ⟨gu, F', b, fg, ff, lt, gs, gt, bv, mv, m, h⟩ := h
 exact ⟨gu, gt, b.cell 0, h.o.cell 1, h.t.at9⟩
theorem sat_unit {g : Nat} {Ss : Fp} {x : St K.U} (h : SAt K A w g Ss [] x) : ∃ F, K.At w F x.u ∧ ∀ k, F k → Ss k := by
 obtain ⟨κ, gr, acl, rv, lv, tv, hs, FU, h⟩ := h
 exact ⟨FU, h.r.u, fun k hk => (h.r.uc k hk).1⟩
theorem clientKeys_s {w : World} (hE : Txt.Env w) {key typ : Int} (hk : Fits .u64 key) (ht : Fits .u8 typ) {v : Value} {d : List UInt8} (hd : RdB w v d) :
 CW.Spec Tryz.prog 5 #[.int .u64 key, .int .u8 typ, v] w (Law w) := by
 apply q36W
 refine known_c hE fun w1 g1 => ⟨_, rfl, cond_f rfl ?_⟩
 have hl := RdB.len hd
 have hk0 : 0 ≤ key ∧ key < 18446744073709551616 := by
  have := hk
  simp only [Fits, IntKind.min, IntKind.max, IntKind.bits, IntKind.signed] at this
  simp at this; omega
 refine JoinP.bool (fun b w' => w1 = w' ∧ (b = false → key ≠ 0 ∧ d.length = 8)) (fun j hj => cond_intro (fun _ => hj _ _ ⟨rfl, fun e => by cases e⟩) (fun c1 => ⟨_, hl, hj _ _ ⟨rfl, fun c2 => ⟨by simpa using c1, ?_⟩⟩⟩)) ?_
 · have c2 : ((d.length : Nat) : Int) = 8 := by simpa using c2
   omega
 rintro b _ ⟨rfl, hh⟩
 refine cond_intro (fun _ => ⟨rfl, g1⟩) (fun hbf => ?_)
 obtain ⟨hk1, hd8⟩ := hh hbf
 have kk : 0 < key ∧ key < 18446744073709551616 := by omega
 refine nm fun w5 e5 => ?_
 obtain ⟨b5, g5, s5⟩ := alE e5
 obtain ⟨a6, y, q1, q2, hy, y1, y2⟩ := ty_at b5 ht
 refine ⟨a6, q1, y, q2, ?_⟩
 refine params_c (n := iqA) (b := 1000) (now := true) fun w9 g9 => ⟨_, _, _, _, _, rfl, ?_⟩
 have gA := g1.then (g5.then g9)
 refine newPipe_c (B := w.heap.size) (p := pA 1000 true) gA.size (fun w' bel => hE.grow (gA.trans bel)) fun gp gc gs gd w16 g16 h16 => ⟨_, rfl, withAddr_some ⟨_, h16.c0, ?_⟩⟩
 have gB := gA.then g16
 have L : Lgn.LgP (pA 1000 true) AA := lgp (by omega)
 have s1 : stepR u0 iqA ⟨10, 0, 0, 0, key, 0, false, []⟩ = (good, uK key) := reg_a key
 refine pDo_c h16 (cm := ⟨10, 0, 0, 0, key, 0, false, []⟩) rfl (Rd.nil _) e_reg d_reg (by show 0 < 16; omega) fun w21 b21 h21 => ⟨_, _, rfl, ?_⟩
 have H1 : CmdOk (Kd gd) (pA 1000 true) u0 (Cdb.encB Ses.xReg false 0 (0 : Nat) (0 : Nat)) (Lst.encB 0 key) (Ses.cmE Ses.xReg 0 0 0) ⟨10, 0, 0, 0, key, 0, false, []⟩ :=
  cmd_reg (K := Kd gd) (by omega) (by omega) ⟨fine0, ok_reg kk⟩ (by show (stepR u0 iqA _).1.st = 0; rw [s1]; rfl) (by show (stepR u0 iqA _).1.d.length ≤ 512; rw [s1]; show good.d.length ≤ 512; decide)
 have T1 := phase0 (K := Kd gd) L H1 rfl 7
 have u1 : ((Kd gd).step u0 (pA 1000 true).nm ⟨10, 0, 0, 0, key, 0, false, []⟩) = (good, uK key) := s1
 rw [u1] at T1
 refine turn_c (n := 10) (cut := 1000) (by omega) (by omega) T1 h21 fun w25 b25 h25 => ⟨rfl, withAddr_some ⟨_, h25.c0, ?_⟩⟩
 have s2 : stepR (uK key) iqA ⟨12, 0, 0, key, 0, y, false, []⟩ = (good, uH key y) := res_a hk1
 refine pDo_c h25 (cm := ⟨12, 0, 0, key, 0, y, false, []⟩) rfl (Rd.nil _) (e_res (by omega)) d_res (by show 0 < 16; omega) fun w29 b29 h29 => ⟨_, _, rfl, ?_⟩
 have H2 : CmdOk (Kd gd) (pA 1000 true) (uK key) (Cdb.encB Ses.xRes false y (0 : Nat) (0 : Nat)) (Lst.encB key 0) (Ses.cmE Ses.xRes y 0 0) ⟨12, 0, 0, key, 0, y, false, []⟩ :=
  cmd_res (K := Kd gd) (by omega) (by omega) (by omega) ⟨fineK kk, ok_res kk hy⟩ (by show (stepR (uK key) iqA _).1.st = 0; rw [s2]; rfl) (by show (stepR (uK key) iqA _).1.d.length ≤ 512; rw [s2]; show good.d.length ≤ 512; decide)
 have T2 := phase (K := Kd gd) L (e := 3) (n := 3) (t := 1) (D := [(1, ⟨0, 0, 0, good.d, 0⟩)]) ⟨by omega, by omega, by omega, by omega, by omega, by omega, by simp⟩ ⟨by omega, by simp, by omega⟩ H2 rfl 8
 have u2 : ((Kd gd).step (uK key) (pA 1000 true).nm ⟨12, 0, 0, key, 0, y, false, []⟩) = (good, uH key y) := s2
 rw [u2] at T2
 refine turn_c (n := 10) (cut := 1000) (by omega) (by omega) T2 h29 fun w33 b33 h33 => ⟨rfl, withAddr_some ⟨_, h33.c0, ?_⟩⟩
 have s3 : stepR (uH key y) iqA ⟨16, 0, 0, 0, 0, 0, false, []⟩ = ({good with d := Lst.keysB 1 [key]}, uH key y) := keys_a hk1
 refine pDo_c h33 (cm := ⟨16, 0, 0, 0, 0, 0, false, []⟩) rfl (Rd.nil _) e_keys d_keys (by show 0 < 16; omega) fun w37 b37 h37 => ⟨_, _, rfl, ?_⟩
 have H3 : CmdOk (Kd gd) (pA 1000 true) (uH key y) (Cdb.encB Ses.xKeys false 0 (0 : Nat) (0 : Nat)) [] (Ses.cmE Ses.xKeys 0 0 0) ⟨16, 0, 0, 0, 0, 0, false, []⟩ :=
  cmd_keys (K := Kd gd) ⟨fineH kk hy, ok_keys⟩ (by show (stepR (uH key y) iqA _).1.st = 0; rw [s3]; rfl) (by show (stepR (uH key y) iqA _).1.d.length ≤ 512; rw [s3]; exact keys_len)
 have T3 := phase (K := Kd gd) L (e := 4) (n := 4) (t := 2) (D := [(1, ⟨0, 0, 0, good.d, 0⟩), (2, ⟨0, 0, 0, good.d, 0⟩)]) ⟨by omega, by omega, by omega, by omega, by omega, by omega, by simp⟩ ⟨by omega, by simp, by omega⟩ H3 rfl 8
 have u3 : ((Kd gd).step (uH key y) (pA 1000 true).nm ⟨16, 0, 0, 0, 0, 0, false, []⟩) = ({good with d := Lst.keysB 1 [key]}, uH key y) := s3
 rw [u3] at T3
 refine turn_c (n := 10) (cut := 1000) (by omega) (by omega) T3 h37 fun w41 b41 h41 => ⟨rfl, withAddr_some ⟨_, h41.c0, ?_⟩⟩
 refine pDone_c h41 fun v44 w45 Sc Ss b45 H45 dn => ?_
 have gC : Grow w w45 := gB.trans (b21.trans (b25.trans (b29.trans (b33.trans (b37.trans (b41.trans b45))))))
 refine withAddr_some ⟨_, H45.b.cell 2, oneK_of (Rd.isOne hd) ?_⟩
 obtain ⟨F, hu, hF⟩ := sat_unit H45.h.s
 have hu : docAt gd w45 F (uH key y) := hu
 have s4 : stepR (uH key y) iqB ⟨3, 0, 1, 0, 0, 0, false, d⟩ = (conf, uH key y) := write_b
 have ev := doc_c hu (n := iqB) (c := ⟨3, 0, 1, 0, 0, 0, false, d⟩) (dv := v) (fineH kk hy) (ok_wb hd8) (hd.grow gC) (R := ?_)
 refine ev fun v48 w49 F' st hu' hv => ?_
 rw [s4] at hu' hv
 obtain ⟨dv, rfl, hr, hn⟩ := hv
 refine ⟨_, _, _, _, _, rfl, nm fun w55 e55 => ?_⟩
 obtain ⟨b55, g55, s55⟩ := alE e55
 refine ⟨b55.row rfl (one_rep (Rd.isOne hr)), nm fun w56 e56 => ?_⟩
 obtain ⟨b56, t56⟩ := rowE b55 e56 rfl
 have hFB : ∀ q, F q → w.heap.size ≤ q := fun q hq => H45.h.ls q (hF q hq)
 have g49 : Grow w w49 := gC.trans (Step.low st gC.size hFB)
 have g56 : Grow w w56 := Below.turn (g49.then g55) t56 g49.size
 have out : ∀ q, Sc q → ¬ F q := fun q h1 h2 => H45.h.ap q h1 (hF q h2)
 obtain ⟨ds, dl, dr, do_, db⟩ := dn
 have dn' : DnAt w56 Sc v44 [(1, ⟨0, 0, 0, good.d, 0⟩), (2, ⟨0, 0, 0, good.d, 0⟩), (3, ⟨0, 0, 0, Lst.keysB 1 [key], 0⟩)] := by
  have lt : ∀ q, Sc q → q < w49.heap.size := fun q hq => Nat.lt_of_lt_of_le (H45.h.c.lt q hq) st.size
  have ne : ∀ q, Sc q → q ≠ w49.heap.size := fun q hq e => by have := lt q hq; omega
  have st56 : Step (fun q => F q ∨ w45.heap.size ≤ q) w45 w56 (fun q => F q ∨ w45.heap.size ≤ q) := by
   have md : Md F w45.heap.size w45 w56 := ((((Md.refl F w45.heap.size w45).stp st (fun q hq => .inl hq) (fun q hq => (st.fp q hq).elim (fun h => .inl (.inl h)) (fun h => .inr h))).grow g55).turn t56 (.inr (by have := st.size; omega)))
   exact md
  have nS : ∀ q, Sc q → ¬ (F q ∨ w45.heap.size ≤ q) := fun q hq hh => hh.elim (out q hq) (fun hh => by have := H45.h.c.lt q hq; omega)
  refine ⟨ds, dl, ?_, do_, fun i h1 h2 => ⟨(db i h1 h2).1.stepS st56 (fun hx q hq => nS q ((db i h1 h2).2 (fun e => hx (by rw [e]; rfl)) q hq)), (db i h1 h2).2⟩⟩
  exact Ses.RdR.stepS dr st56 (fun q hq => nS q (do_ q hq))
 have hp56 : w56.cell? (Addr.add ⟨gp, 0, none⟩ 2) = some (.pointer (some ⟨gd, 0, none⟩)) := by
  have l1 := H45.b.lt
  have b' := ((H45.b.stepS st (fun hh => H45.ns (hF _ hh))).grow g55).turn t56 (fun e => by have := st.size; omega)
  exact b'.cell 2
 have hu56 : docAt gd w56 F' (uH key y) := by
  have lt' : InW w49 F' := by obtain ⟨_, _, _, _, _, lt, _⟩ := hu'; exact lt
  refine docAt.stable hu' (by have := g55.size; have := t56.size; omega) fun q hq => ?_
  have := lt' q hq
  exact (t56.block q (by omega)).trans (g55.block q this)
 refine JoinP.bool (fun b w' => b = false ∧ Grow w56 w') (fun j hj => nm fun w86 e86 => ?_) ?_
 · have g86 := drE e86
   have dn86 : DnAt w86 Sc v44 [(1, ⟨0, 0, 0, good.d, 0⟩), (2, ⟨0, 0, 0, good.d, 0⟩), (3, ⟨0, 0, 0, Lst.keysB 1 [key], 0⟩)] := by
    obtain ⟨ds, dl, dr, do_, db⟩ := dn'
    exact ⟨ds, dl, RdR.grow dr g86, do_, fun i h1 h2 => ⟨(db i h1 h2).1.grow g86, (db i h1 h2).2⟩⟩
   obtain ⟨ad0, sd0, i1, i2, i3, i4, i5⟩ := dn_at dn86 (i := 0) (by show 0 < 3; omega)
   obtain ⟨ad1, sd1, j1, j2, j3, j4, j5⟩ := dn_at dn86 (i := 1) (by show 1 < 3; omega)
   obtain ⟨ad2, sd2, k1, k2, k3, k4, k5⟩ := dn_at dn86 (i := 2) (by show 2 < 3; omega)
   obtain ⟨gu, gt, m1, m2, m3⟩ := doc_typ hu56
   have cg : ∀ {a : Addr} {x : Value}, w56.cell? a = some x → w86.cell? a = some x := fun hx => (g86.cell (World.block_lt_of_cell? _ _ hx)).trans hx
   refine ⟨_, dn_len dn86, cond_f rfl ⟨ad0, i1, _, i3, ad1, j1, _, j3, ad2, k1, _, k3, cond_f rfl ⟨_, (b56.grow g86).cell 0, cond_f rfl (withAddr_some ⟨_, cg hp56, withAddr_some ⟨_, cg m1, withAddr_some ⟨_, cg m2, withAddr_some ⟨_, cg m3, nm fun w106 e106 => hj _ _ ⟨?_, drE e106⟩⟩⟩⟩⟩)⟩⟩⟩
   show (y != y) = false
   simp
 · rintro b w58 ⟨rfl, g58⟩
   refine cond_f rfl ?_
   have un := @uNew_c w58 1 (by omega) (by omega)
   refine un fun gu Fn w60 g60 hFn hn60 => ⟨_, _, rfl, ?_⟩
   obtain ⟨gs1, gt1, bv1, mv1, m1, hn60⟩ := hn60
   refine uDo_c hn60 (i := 0) (c := ⟨10, 0, 0, 0, key, 0, false, []⟩) (by omega) (Rd.nil _) (.inr (.inr (.inl ⟨rfl, by show key ≠ 0; exact hk1⟩))) fun v63 w64 F1 st64 hu64 hv64 => ?_
   rw [reg_one] at hu64 hv64
   obtain ⟨dv1, rfl, hr1, hn1⟩ := hv64
   refine ⟨_, _, _, _, _, rfl, nm fun w70 e70 => ?_⟩
   have g70 := drE e70
   have g64 : Grow w58 w64 := g60.trans (Step.low st64 g60.size hFn)
   have dn70 : DnAt w70 Sc v44 [(1, ⟨0, 0, 0, good.d, 0⟩), (2, ⟨0, 0, 0, good.d, 0⟩), (3, ⟨0, 0, 0, Lst.keysB 1 [key], 0⟩)] := by
    obtain ⟨ds, dl, dr, do_, db⟩ := dn'
    have g := (g58.then g64).then g70
    exact ⟨ds, dl, RdR.grow dr g, do_, fun i h1 h2 => ⟨(db i h1 h2).1.grow g, (db i h1 h2).2⟩⟩
   obtain ⟨ad2, sd2, k1, k2, k3, k4, k5⟩ := dn_at dn70 (i := 2) (by show 2 < 3; omega)
   have k5' : RdB w70 (sl sd2) (Lst.keysB 1 [key]) := k5
   refine ⟨ad2, k1, _, k4, _, to_text k5', nm fun w74 e74 => ?_⟩
   have g74 := drE e74
   obtain ⟨gs2, gt2, bv2, mv2, m2, hu64⟩ := hu64
   have hu74 := hu64.grow g74
   have hF1 : ∀ q, F1 q → w58.heap.size ≤ q := fun q hq => (st64.fp q hq).elim (hFn q) (fun h => Nat.le_trans g60.size h)
   refine uDo_c hu74 (i := 0) (c := ⟨16, 0, 0, 0, 0, 0, false, []⟩) (by omega) (Rd.nil _) (.inr (.inr (.inr (.inr ⟨rfl, by show (0 : Int) ≤ 1; omega, by show (1 : Int) < _; omega⟩)))) fun v75 w76 F2 st76 hu76 hv76 => ?_
   rw [keys_one hk1] at hv76
   obtain ⟨dv2, rfl, hr2, hn2⟩ := hv76
   have gz : Grow w58 w74 := g64.then g74
   have g76 : Below w58.heap.size w74 w76 := Step.low st76 gz.size hF1
   have g7 : Grow w58 w76 := gz.trans g76
   have dn76 : DnAt w76 Sc v44 [(1, ⟨0, 0, 0, good.d, 0⟩), (2, ⟨0, 0, 0, good.d, 0⟩), (3, ⟨0, 0, 0, Lst.keysB 1 [key], 0⟩)] := by
    obtain ⟨ds, dl, dr, do_, db⟩ := dn'
    have g := g58.then g7
    exact ⟨ds, dl, RdR.grow dr g, do_, fun i h1 h2 => ⟨(db i h1 h2).1.grow g, (db i h1 h2).2⟩⟩
   have k4' : w76.cell? (Addr.add (Addr.add ad2 1) 3) = some (sl sd2) := by
    obtain ⟨ad3, sd3, l1, l2, l3, l4, l5⟩ := dn_at dn76 (i := 2) (by show 2 < 3; omega)
    have ea : ad3 = ad2 := Option.some.inj (l1.symm.trans k1)
    subst ea
    obtain ⟨ds, dl, dr, do_, db⟩ := dn'
    obtain ⟨adx, sdx, x1, x2, x3, x4, x5⟩ := dn_at (⟨ds, dl, dr, do_, db⟩ : DnAt w56 Sc v44 [(1, ⟨0, 0, 0, good.d, 0⟩), (2, ⟨0, 0, 0, good.d, 0⟩), (3, ⟨0, 0, 0, Lst.keysB 1 [key], 0⟩)]) (i := 2) (by show 2 < 3; omega)
    have ex : adx = ad3 := Option.some.inj (x1.symm.trans l1)
    subst ex
    have c70 : w70.cell? (Addr.add (Addr.add adx 1) 3) = some (sl sdx) := (((g58.then g64).then g70).cell (World.block_lt_of_cell? _ _ x4)).trans x4
    have c76 : w76.cell? (Addr.add (Addr.add adx 1) 3) = some (sl sdx) := ((g58.then g7).cell (World.block_lt_of_cell? _ _ x4)).trans x4
    have : (some (sl sdx) : Option Value) = some (sl sd2) := c70.symm.trans k4
    exact c76.trans this
   have k76 : RdB w76 (sl sd2) (Lst.keysB 1 [key]) := by
    have e74' : w74 = w70 := e74.trans e70.symm
    have r74 : RdB w74 (sl sd2) (Lst.keysB 1 [key]) := by rw [e74']; exact k5'
    refine Rd.kept r74 fun a x hx ho => ?_
    obtain ⟨ds, dl, dr, do_, db⟩ := dn'
    obtain ⟨adx, sdx, x1, x2, x3, x4, x5⟩ := dn_at (⟨ds, dl, dr, do_, db⟩ : DnAt w56 Sc v44 [(1, ⟨0, 0, 0, good.d, 0⟩), (2, ⟨0, 0, 0, good.d, 0⟩), (3, ⟨0, 0, 0, Lst.keysB 1 [key], 0⟩)]) (i := 2) (by show 2 < 3; omega)
    have ex : adx = ad2 := Option.some.inj (x1.symm.trans k1)
    subst ex
    have c70 : w70.cell? (Addr.add (Addr.add adx 1) 3) = some (sl sdx) := (((g58.then g64).then g70).cell (World.block_lt_of_cell? _ _ x4)).trans x4
    have es : sl sdx = sl sd2 := Option.some.inj (c70.symm.trans k4)
    have x5' : RdB w56 (sl sd2) (Lst.keysB 1 [key]) := es ▸ x5
    have hne : (Lst.keysB 1 [key]).map b8 ≠ [] := by
     intro e
     have := congrArg List.length e
     rw [List.length_map, Lst.keysB_length] at this
     simp at this
    have hlt : a.block < w56.heap.size := Rd.lt x5' hne _ ho
    have hlt58 : a.block < w58.heap.size := Nat.lt_of_lt_of_le hlt g58.size
    exact (cell_of_heap (g76.block a.block hlt58)).trans hx
   refine ⟨_, _, _, _, _, rfl, ⟨_, k4', rfl⟩, ⟨_, to_text k76, rfl⟩, _, to_text hr2, ?_, ?_⟩
   · simp
   · exact g56.then (g58.then g7)
end Go.Proofs.YtdinpgnjnleioaaGreatDoor.Pip
