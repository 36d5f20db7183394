/- The laws of gemellaw21: ClientWrites, ClientKeys. -/
import Derived.Test.YtdinpgnjnleioaaGreatDoorWRfW
set_option linter.unusedSimpArgs false
set_option linter.unusedVariables false
set_option maxRecDepth 100000
namespace Go.Proofs.YtdinpgnjnleioaaGreatDoor.Pip
open Go Go.CW Go.RowKit Go.Proofs.YtdinpgnjnleioaaGreatDoor Go.Proofs.YtdinpgnjnleioaaGreatDoor.Pdu Go.Proofs.YtdinpgnjnleioaaGreatDoor.Rf
open Go.Proofs.YtdinpgnjnleioaaGreatDoor.Ses (Wire WireOk Doer St SAt Cm Rp wireP wireP_ok Prm decS_ok newS ET sl Sl m32)
open Go.Proofs.YtdinpgnjnleioaaGreatDoor.Cli (Cl Pq encs CAt askB DnAt ED)
variable {B : Nat} {K : Doer} {A : List (List UInt8)} {p : Prm} {gp gc gs gd : Nat} {w w' : World} {a : Cl × St K.U}
theorem PI.c0 (h : PI B K A gp gc gs gd w a) : w.cell? (Addr.add ⟨gp, 0, none⟩ 0) = some (.pointer (some ⟨gc, 0, none⟩)) := by obtain ⟨Sc, Ss, H⟩ := h; exact H.b.cell 0
theorem PI.c1 (h : PI B K A gp gc gs gd w a) : w.cell? (Addr.add ⟨gp, 0, none⟩ 1) = some (.pointer (some ⟨gs, 0, none⟩)) := by obtain ⟨Sc, Ss, H⟩ := h; exact H.b.cell 1
theorem PI.grow (h : PI B K A gp gc gs gd w a) (g : Grow w w') : PI B K A gp gc gs gd w' a := by obtain ⟨Sc, Ss, H⟩ := h; exact ⟨Sc, Ss, H.grow g⟩
theorem PI.hB (h : PI B K A gp gc gs gd w a) : B ≤ w.heap.size := by obtain ⟨Sc, Ss, H⟩ := h; exact H.h.hB
theorem pDo_c (h : PI B K A gp gc gs gd w a) {cm : Cm} {cb xs : List UInt8} {dv : Value} (hc : a.1.cl = false) (hd : RdB w dv cm.d) (he : Cli.EncOk cm cb) (hx : Cli.DatOk cm xs) (hlen : a.1.L.length < 16) {R : KV}
 (k : ∀ w', Below B w w' → PI B K A gp gc gs gd w' (Cli.ask a.1 cb xs, a.2) → R (.tuple #[.int .u32 (m32 (a.1.tag + 1)), .int .i64 0]) w') :
 CW.Spec Tryz.prog 18 #[.pointer (some ⟨gc, 0, none⟩), .agg (Ses.rCm cm dv)] w R := by
 obtain ⟨Sc, Ss, H⟩ := h
 exact cDo_c H.h hc hd he hx hlen fun w' Sc' st h' => k w' (Step.low st H.h.hB H.h.lc) ⟨Sc', Ss, H.cl st h'⟩
theorem pDone_c (h : PI B K A gp gc gs gd w a) {R : KV}
 (k : ∀ v w' Sc Ss, Below B w w' → Pp B Txt.Env K A w' gp (rPip gc gs gd) tPip gc gs Sc Ss ({a.1 with done := []} : Cl) a.2 → DnAt w' Sc v a.1.done → R v w') :
 CW.Spec Tryz.prog 20 #[.pointer (some ⟨gc, 0, none⟩)] w R := by
 obtain ⟨Sc, Ss, H⟩ := h
 exact Cli.Done_c H.h.c fun v w' st hc hd => k v w' Sc Ss (Step.low st H.h.hB H.h.lc) (H.cl st (H.h.cl st hc)) hd
theorem dn_at {S : Fp} {v : Value} {D : List (Int × Rp)} (h : DnAt w S v D) {i : Nat} (hi : i < D.length) :
 ∃ ad sd, sliceAt v (i : Int) 6 = some ad ∧ w.cell? (Addr.add ad 0) = some (.int .u32 D[i].1) ∧ w.cell? (Addr.add (Addr.add ad 1) 0) = some (.int .i64 D[i].2.st) ∧ w.cell? (Addr.add (Addr.add ad 1) 3) = some (sl sd) ∧ RdB w (sl sd) D[i].2.d := by
 obtain ⟨ds, hl, hr, _, hb⟩ := h
 have hz : (D.zip ds).length = D.length := by rw [List.length_zip, hl, Nat.min_self]
 obtain ⟨ad, h1, h2, _⟩ := hr.at (i := (i : Int)) (by omega) (by omega)
 have hd := hb i hi (by omega)
 have e : (D.zip ds)[(i : Int).toNat]'(by rw [hz]; exact hi) = (D[i], ds[i]'(by omega)) := by simp
 refine ⟨ad, ds[i]'(by omega), h1, ?_, ?_, ?_, hd.1⟩
 · rw [h2 0 (by decide), e]; rfl
 · rw [add_add, h2 1 (by decide), e]; rfl
 · rw [add_add, h2 4 (by decide), e]; rfl
theorem dn_len {S : Fp} {v : Value} {D : List (Int × Rp)} (h : DnAt w S v D) : sliceLen v = some D.length := by
 obtain ⟨ds, hl, hr, _, hb⟩ := h
 have hz : (D.zip ds).length = D.length := by rw [List.length_zip, hl, Nat.min_self]
 rw [hr.len, hz]
theorem e_write {pos n : Nat} {d : List UInt8} (hn : n ≤ 32) (hp : pos ≤ 1000) : Cli.EncOk ⟨3, pos, n, 0, 0, 0, false, d⟩ (Cdb.encB Ses.xWrite false 0 pos n) := Cli.enc_c (cm := ⟨3, pos, n, 0, 0, 0, false, d⟩) (x := Ses.xWrite) Ses.x_find.1 (by show pos < _; omega) (by show n ≤ 255; omega) (by show (0 : Int) ≤ 0 ∧ (0 : Int) ≤ 15; omega)
theorem e_read {pos n : Nat} (hn : n ≤ 32) (hp : pos ≤ 1000) : Cli.EncOk ⟨2, pos, n, 0, 0, 0, false, []⟩ (Cdb.encB Ses.xRead false 0 pos n) := Cli.enc_c (cm := ⟨2, pos, n, 0, 0, 0, false, []⟩) (x := Ses.xRead) Ses.x_find.2.1 (by show pos < _; omega) (by show n ≤ 255; omega) (by show (0 : Int) ≤ 0 ∧ (0 : Int) ≤ 15; omega)
theorem e_reg {key : Int} : Cli.EncOk ⟨10, 0, 0, 0, key, 0, false, []⟩ (Cdb.encB Ses.xReg false 0 (0 : Nat) (0 : Nat)) := Cli.enc_c (cm := ⟨10, 0, 0, 0, key, 0, false, []⟩) (x := Ses.xReg) Ses.x_find.2.2.1 (by show 0 < _; omega) (by show 0 ≤ 255; omega) (by show (0 : Int) ≤ 0 ∧ (0 : Int) ≤ 15; omega)
theorem d_write {pos n : Nat} {d : List UInt8} (hn : n ≤ 32) (hd : d.length = n * 8) : Cli.DatOk ⟨3, pos, n, 0, 0, 0, false, d⟩ d :=
 Cli.dat_c (cm := ⟨3, pos, n, 0, 0, 0, false, d⟩) (by show d.length ≤ _; omega) (fun _ => by
  show (d.length : Int) = Cdb.outI 3 n
  unfold Cdb.outI Cdb.runI
  rw [if_pos rfl, if_neg (by omega), hd]; omega)
theorem d_read {pos n : Nat} : Cli.DatOk ⟨2, pos, n, 0, 0, 0, false, []⟩ [] := Cli.dat_c (cm := ⟨2, pos, n, 0, 0, 0, false, []⟩) (by simp) (fun _ => rfl)
abbrev Kd (gd : Nat) : Doer := docK gd
abbrev AA : List (List UInt8) := [iqA, iqB]
theorem known_c (hE : Txt.Env w) {R : KV} (k : ∀ w', Grow w w' → R (.bool true) w') : CW.Spec Tryz.prog 15 #[] w R := by
 apply q37W
 refine params_c (n := iqA) (b := 1024) (now := true) fun w1 g1 => ⟨_, _, _, _, _, rfl, ?_⟩
 refine newPipe_c (B := w.heap.size) (p := pA 1024 true) g1.size (fun w' bel => hE.grow (g1.trans bel)) fun gp gc gs gd w8 g8 h8 => ⟨_, rfl, ?_⟩
 have gA := g1.then g8
 refine JoinP.bool (fun b w' => b = false ∧ w8 = w') (fun j hj => withAddr_some ⟨_, h8.c0, false, rfl, cond_f rfl (withAddr_some ⟨_, h8.c1, false, rfl, hj _ _ ⟨rfl, rfl⟩⟩)⟩) ?_
 rintro _ _ ⟨rfl, rfl⟩
 refine cond_f rfl (withAddr_some ⟨_, h8.c0, ?_⟩)
 refine pDo_c h8 (cm := ⟨2, 0, 1, 0, 0, 0, false, []⟩) rfl (Rd.nil _) (e_read (by omega) (by omega)) d_read (by show 0 < 16; omega) fun w15 b15 h15 => ⟨_, _, rfl, ?_⟩
 have L : Lgn.LgP (pA 1024 true) AA := lgp (by omega)
 have H : CmdOk (Kd gd) (pA 1024 true) u0 (Cdb.encB Ses.xRead false 0 (0 : Nat) (1 : Nat)) [] (Ses.cmE Ses.xRead 0 0 1) ⟨2, 0, 1, 0, 0, 0, false, []⟩ :=
  cmd_read (K := Kd gd) (by omega) (by omega) ⟨fine0, ok_read (by omega) (by omega)⟩ (by show (stepR u0 iqA _).1.st = 0; rw [read_0]; rfl) (by show (stepR u0 iqA _).1.d.length ≤ 512; rw [read_0]; decide)
 have T := phase0 (K := Kd gd) L H rfl 27
 refine turn_c (n := 30) (cut := 1000) (by omega) (by omega) T h15 fun w19 b19 h19 => ⟨rfl, withAddr_some ⟨_, h19.c0, ?_⟩⟩
 refine pDone_c h19 fun v22 w23 Sc Ss b23 H23 dn => ?_
 have hd8 : ((Kd gd).step u0 (pA 1024 true).nm ⟨2, 0, 1, 0, 0, 0, false, []⟩).1.d.length = 8 := by
  show (stepR u0 iqA _).1.d.length = 8
  rw [read_0]; decide
 have gB : Grow w w23 := gA.trans (b15.trans (b19.trans b23))
 refine JoinP.bool (fun b w' => b = true ∧ Grow w w') (fun j hj => cond_t rfl ⟨_, dn_len dn, cond_t rfl ?_⟩) (fun b w' hh => by rw [hh.1]; exact k w' hh.2)
 obtain ⟨ad, sd, q1, q2, q3, q4, q5⟩ := dn_at dn (i := 0) (by show 0 < 1; omega)
 refine ⟨ad, q1, _, q2, cond_t rfl ⟨ad, q1, _, q4, _, RdB.len q5, cond_t ?_ ?_⟩⟩
 · show ((((((Kd gd).step u0 (pA 1024 true).nm ⟨2, 0, 1, 0, 0, 0, false, []⟩).1.d.length : Nat) : Int)) == 8) = true
   rw [hd8]; rfl
 · refine withAddr_some ⟨_, H23.b.cell 0, Cli.Open_c H23.h.c ⟨_, rfl, cond_t rfl (withAddr_some ⟨_, H23.b.cell 0, ?_⟩)⟩⟩
   refine Cli.Waiting_c H23.h.c (by show 0 ≤ 1000; omega) fun w41 g41 => ⟨_, rfl, hj _ _ ⟨rfl, gB.then g41⟩⟩
theorem clientWrites_s {w : World} (hE : Txt.Env w) {v : Value} {d : List UInt8} (hd : RdB w v d) {at_ burst cut : Int} {now : Bool} (ha : Fits .i64 at_) (hb : Fits .i64 burst) (hc : Fits .i64 cut) :
 CW.Spec Tryz.prog 4 #[v, .int .i64 at_, .int .i64 burst, .bool now, .int .i64 cut] w (Law w) := by
 apply q36W
 refine known_c hE fun w1 g1 => ⟨_, rfl, cond_f rfl ?_⟩
 have hl := RdB.len hd
 have hle := hd.le
 rw [List.length_map] at hle
 have en : IntKind.wrap .i64 (Int.tdiv ((d.length : Nat) : Int) (8 : Int)) = ((d.length / 8 : Nat) : Int) := by
  rw [Int.tdiv_eq_ediv_of_nonneg (by omega), wi64_id (by omega) (by omega)]; omega
 have em : Int.tmod ((d.length : Nat) : Int) (8 : Int) = ((d.length % 8 : Nat) : Int) := by
  rw [Int.tmod_eq_emod_of_nonneg (by omega)]; omega
 refine ⟨_, hl, ?_⟩
 rw [en]
 refine JoinP.bool (fun b w' => w1 = w' ∧ (b = false → d.length = d.length / 8 * 8 ∧ 1 ≤ d.length / 8 ∧ d.length / 8 ≤ 32 ∧ 0 ≤ at_ ∧ at_ ≤ 32 ∧ 512 ≤ burst ∧ burst ≤ 9000 ∧ 1 ≤ cut)) (fun j hj => ⟨_, hl, ?_⟩) ?_
 · rw [em]
   refine cond_intro (fun _ => hj _ _ ⟨rfl, fun e => by cases e⟩) fun c1 => cond_intro (fun _ => hj _ _ ⟨rfl, fun e => by cases e⟩) fun c2 => cond_intro (fun _ => hj _ _ ⟨rfl, fun e => by cases e⟩) fun c3 => cond_intro (fun _ => hj _ _ ⟨rfl, fun e => by cases e⟩) fun c4 => cond_intro (fun _ => hj _ _ ⟨rfl, fun e => by cases e⟩) fun c5 => cond_intro (fun _ => hj _ _ ⟨rfl, fun e => by cases e⟩) fun c6 => cond_intro (fun _ => hj _ _ ⟨rfl, fun e => by cases e⟩) fun c7 => hj _ _ ⟨rfl, fun c8 => ?_⟩
   have c1 : ((d.length % 8 : Nat) : Int) = 0 := by simpa using c1
   have c2 := of_decide_eq_false c2
   have c3 := of_decide_eq_false c3
   have c4 := of_decide_eq_false c4
   have c5 := of_decide_eq_false c5
   have c6 := of_decide_eq_false c6
   have c7 := of_decide_eq_false c7
   have c8 := of_decide_eq_false c8
   omega
 rintro b _ ⟨rfl, hh⟩
 refine cond_intro (fun _ => ⟨rfl, g1⟩) (fun hbf => ?_)
 obtain ⟨d1, d2, d3, a1, a2, b1, b2, c1⟩ := hh hbf
 generalize hn : d.length / 8 = n at *
 obtain ⟨pos, rfl⟩ := Int.eq_ofNat_of_zero_le a1
 obtain ⟨bu, rfl⟩ := Int.eq_ofNat_of_zero_le (show 0 ≤ burst by omega)
 refine params_c (n := iqA) (b := bu) (now := now) fun w7 g7 => ⟨_, _, _, _, _, rfl, ?_⟩
 have gA := g1.then g7
 refine newPipe_c (B := w.heap.size) (p := pA bu now) gA.size (fun w' bel => hE.grow (gA.trans bel)) fun gp gc gs gd w14 g14 h14 => ⟨_, rfl, withAddr_some ⟨_, h14.c0, oneK_of (Rd.isOne hd) ?_⟩⟩
 have gB := gA.then g14
 refine pDo_c h14 (cm := ⟨3, pos, n, 0, 0, 0, false, d⟩) rfl (hd.grow gB) (e_write (by omega) (by omega)) (d_write (by omega) d1) (by show 0 < 16; omega) fun w19 b19 h19 => ⟨_, _, rfl, ?_⟩
 have L : Lgn.LgP (pA bu now) AA := lgp (by omega)
 have H : CmdOk (Kd gd) (pA bu now) u0 (Cdb.encB Ses.xWrite false 0 pos n) d (Ses.cmE Ses.xWrite 0 pos n) ⟨3, pos, n, 0, 0, 0, false, d⟩ :=
  cmd_write (K := Kd gd) (by omega) (by omega) d1 ⟨fine0, ok_write (by omega) (by omega) d1⟩ (by show (stepR u0 iqA _).1.st = 0; rw [write_a (n := n)]; rfl) (by show (stepR u0 iqA _).1.d.length ≤ 512; rw [write_a (n := n)]; show good.d.length ≤ 512; decide)
 have T := phase0 (K := Kd gd) L H rfl 27
 refine turn_c (n := 30) (by omega) c1 T h19 fun w23 b23 h23 => ⟨rfl, withAddr_some ⟨_, h23.c0, ?_⟩⟩
 have es : stepR u0 iqA ⟨3, pos, n, 0, 0, 0, false, d⟩ = (good, uW pos d) := write_a
 have eu : ((Kd gd).step u0 (pA bu now).nm ⟨3, pos, n, 0, 0, 0, false, d⟩) = (good, uW pos d) := es
 rw [eu] at h23
 have fW : Fine (uW pos d) := by
  have := step_fine (u := u0) (n := iqA) fine0 (ok_write (pos := pos) (n := n) (by omega) (by omega) d1)
  rw [es] at this; exact this
 have hr0 : stepR (uW pos d) iqA ⟨2, pos, n, 0, 0, 0, false, []⟩ = ({good with d := d}, uW pos d) := read_a (by omega) d1
 refine pDo_c h23 (cm := ⟨2, pos, n, 0, 0, 0, false, []⟩) rfl (Rd.nil _) (e_read (by omega) (by omega)) d_read (by show 0 < 16; omega) fun w27 b27 h27 => ⟨_, _, rfl, ?_⟩
 have H2 : CmdOk (Kd gd) (pA bu now) (uW pos d) (Cdb.encB Ses.xRead false 0 pos n) [] (Ses.cmE Ses.xRead 0 pos n) ⟨2, pos, n, 0, 0, 0, false, []⟩ :=
  cmd_read (K := Kd gd) (by omega) (by omega) ⟨fW, ok_read (by omega) (by omega)⟩ (by show (stepR (uW pos d) iqA _).1.st = 0; rw [hr0]; rfl) (by show (stepR (uW pos d) iqA _).1.d.length ≤ 512; rw [hr0]; show d.length ≤ 512; omega)
 have T2 := phase (K := Kd gd) L (e := 3) (n := 3) (t := 1) (D := [(1, ⟨0, 0, 0, good.d, 0⟩)]) ⟨by omega, by omega, by omega, by omega, by omega, by omega, by simp⟩ ⟨by omega, by simp, by omega⟩ H2 rfl 28
 have eu2 : ((Kd gd).step (uW pos d) (pA bu now).nm ⟨2, pos, n, 0, 0, 0, false, []⟩) = ({good with d := d}, uW pos d) := hr0
 rw [eu2] at T2
 refine turn_c (n := 30) (by omega) c1 T2 h27 fun w31 b31 h31 => ⟨rfl, withAddr_some ⟨_, h31.c0, ?_⟩⟩
 refine pDone_c h31 fun v34 w35 Sc Ss b35 H35 dn => ?_
 have gC : Grow w w35 := gB.trans (b19.trans (b23.trans (b27.trans (b31.trans b35))))
 refine JoinP.bool (fun b w' => b = true ∧ Grow w w') (fun j hj => ?_) (fun b w' hh => by rw [hh.1]; exact ⟨rfl, hh.2⟩)
 refine nm fun w39 e39 => ?_
 have g39 := drE e39
 obtain ⟨ad, sd, q1, q2, q3, q4, q5⟩ := dn_at dn (i := 0) (by show 0 < 2; omega)
 obtain ⟨ad', sd', p1, p2, p3, p4, p5⟩ := dn_at dn (i := 1) (by show 1 < 2; omega)
 have p5' : RdB w35 (sl sd') d := p5
 refine cond_t rfl ⟨_, dn_len dn, cond_t rfl ⟨ad, q1, _, (g39.cell (World.block_lt_of_cell? _ _ q3)).trans q3, cond_t rfl ⟨ad', p1, _, (g39.cell (World.block_lt_of_cell? _ _ p3)).trans p3, cond_t rfl ⟨ad', p1, _, (g39.cell (World.block_lt_of_cell? _ _ p4)).trans p4, _, to_text (p5'.grow g39), _, to_text ((hd.grow gC).grow g39), nm fun w49 e49 => hj _ _ ⟨?_, gC.then (drE e49)⟩⟩⟩⟩⟩
 simp
end Go.Proofs.YtdinpgnjnleioaaGreatDoor.Pip
