/- The law PduBounds. -/
import Derived.Test.YtooeeodkaeimeaaPduO
set_option linter.unusedVariables false
set_option linter.unusedSimpArgs false
set_option maxRecDepth 100000
namespace Go.Proofs.Ytooeeodkaeimeaa
open Go Go.CW Go.RowKit Go.Crc

theorem refKnown_c {w : World} {R : KV} (k : ∀ w', Grow w w' → R (.bool true) w') : Go.CW.Spec Try.prog 26 #[.int .i64 0] w R := by
  apply gemelref7_Known_wp
  refine nm fun w0 e0 => ?_
  obtain ⟨b0, g0, _⟩ := alE e0
  refine ⟨fun (i : Int) (ww : World) => i = 0 ∧ ww = w0, fun (_ : Int) (_ : World) => 0, ⟨rfl, rfl⟩, ?_⟩
  dsimp only [allR, mapR2, eqN, ltN]
  rintro m i ww ⟨⟨rfl, rfl⟩, hm⟩
  refine ⟨14, rfl, cond_t (by rfl) ⟨⟨w.heap.size, 0, none⟩, rfl, 0, b0.at 0, cond_t (by rfl) (k _ g0)⟩⟩

theorem refEncode_c {w : World} {R : KV} (k : ∀ v w', Grow w w' → OwnB w' w.heap.size tb v (sealed (hdr zP 0)) → R (.tuple #[v, .int .i64 0]) w') : Go.CW.Spec Try.prog 10 #[vP zP (.slice none 0 0)] w R := by
  apply gemelref7_Encode_wp
  refine nm fun w0 e0 => ?_
  obtain ⟨b0, g0, _⟩ := alE e0
  clear e0
  refine JoinP.bool (fun b w' => Grow w0 w' ∧ b = false) (fun j hj => ?_) ?_
  · refine ⟨_, b0.cell 0, refKnown_c fun w1 g1 => ?_⟩
    have b1 := b0.grow g1
    exact ⟨_, rfl, cond_f rfl ⟨_, b1.cell 2, cond_f (by rfl) ⟨_, b1.cell 2, cond_f (by rfl) ⟨_, b1.cell 3, cond_f (by rfl) ⟨_, b1.cell 3, hj _ _ ⟨g1, by rfl⟩⟩⟩⟩⟩⟩
  rintro b w2 ⟨g2, rfl⟩
  have b2 := b0.grow g2
  refine cond_f rfl ⟨_, b2.cell 26, 0, rfl, cond_f (by rfl) ⟨_, b2.cell 2, ?_⟩⟩
  refine JoinP.int (fun n w' => w' = w2 ∧ n = 0) (fun j hj => ⟨_, b2.cell 1, cond_f rfl (hj _ _ ⟨rfl, by rfl⟩)⟩) ?_
  rintro n w7 ⟨rfl, rfl⟩
  refine ⟨_, b2.cell 0, _, b2.cell 3, nm fun w10 e10 => ?_⟩
  obtain ⟨_, g10, _⟩ := alE e10
  have hB : w.heap.size ≤ w7.heap.size := Nat.le_trans g0.size g2.size
  have o10 : OwnB w10 w.heap.size tb (.slice (some ⟨w7.heap.size, 0, none⟩) 4 4) [0, 0, 0, 0] := by
    subst e10; exact Own.lit w7 hB tb _ 4 rfl (by simp [maxLen])
  have b10 := b2.grow g10
  have hB10 : w.heap.size ≤ w10.heap.size := Nat.le_trans hB g10.size
  refine ⟨_, b10.cell 26, 0, rfl, gemelref1_Put_c o10 hB10 (by simp) fun v13 w14 n13 o13 => ?_⟩
  have g14 : Grow w w14 := ((g0.then g2).then g10).trans (n13.below hB10 o10.blk)
  have e13 : putS [0, 0, 0, 0] (IntKind.wrap .u64 ((0 : Nat) : Int)) 4 = h8 zP 0 := rfl
  rw [e13] at o13
  have b14 : BK w14 w.heap.size (rP zP (.slice none 0 0)) 35 := (n13.by_.block w.heap.size b10.lt (by
    intro e
    have : w7.heap.size = w.heap.size := by simpa [Value.ownBlock] using e.symm
    have := b2.lt
    omega)).trans b10
  refine ⟨_, b14.cell 4, _, b14.cell 5, _, b14.cell 6, _, b14.cell 7, _, b14.cell 8, _, b14.cell 9, nm fun w21 e21 => ?_⟩
  obtain ⟨b21, g21, _⟩ := alE e21
  clear e21
  have hne : w.heap.size ≠ w14.heap.size := Nat.ne_of_lt b14.lt
  refine ⟨fun (v : Value) (i : Int) (ww : World) => 0 ≤ i ∧ i ≤ 6 ∧ Grow w ww ∧ OwnB ww w.heap.size tb v (h8 zP 0 ++ puts ((nums zP).take i.toNat)) ∧ BK ww w14.heap.size #[.int .u32 zP.tag, .int .u32 zP.sn, .int .u32 zP.exp, .int .u32 zP.mx, .int .u32 zP.off, .int .u32 zP.ln] 22 ∧ BK ww w.heap.size (rP zP (.slice none 0 0)) 35, fun (_ : Value) (i : Int) (_ : World) => (6 - i).toNat, ⟨by omega, by omega, g14.then g21, ?_, b21, b14.grow g21⟩, ?_⟩
  · have := o13.grow g21
    simpa [puts] using this
  dsimp only [allR, mapR2, eqN, ltN]
  rintro m v i ww ⟨⟨h0, h1, g, o, bl, bz⟩, hm⟩
  refine cond_intro (fun h3 => ?_) (fun h3 => ?_)
  · have h3 : i < 6 := by simpa using h3
    have hcell : ww.cell? (⟨w14.heap.size, i.toNat, none⟩ : Addr) = some (.int .u32 0) := by
      rw [bl.at i.toNat]
      have : i.toNat = 0 ∨ i.toNat = 1 ∨ i.toNat = 2 ∨ i.toNat = 3 ∨ i.toNat = 4 ∨ i.toNat = 5 := by omega
      rcases this with e | e | e | e | e | e <;> rw [e] <;> rfl
    refine ⟨⟨w14.heap.size, i.toNat, none⟩, ?_, _, hcell, ?_⟩
    · simp only [sliceAt]
      rw [if_pos (by omega), Nat.mul_one, ad0]
    have hpl := puts_len ((nums zP).take i.toNat)
    refine gemelref1_Put_c o g.size (by simp only [List.length_append, h8, putL_length, hpl, List.length_take, List.length_cons, List.length_nil]; omega) fun v2 w3 n2 o2 => ?_
    have hb2 : ∀ {k : Nat} {cs : Array Value} {e : TypeId}, BK ww k cs e → tb ≠ e → BK w3 k cs e := fun hk he => (n2.by_.block _ hk.lt (fun e => own_ne o hk he e.symm)).trans hk
    rw [wi64_id (n := i + 1) (by omega) (by omega)]
    have e : (i + 1).toNat = i.toNat + 1 := by omega
    refine ⟨⟨by omega, by omega, g.trans (n2.below g.size o.blk), ?_, hb2 bl (by decide), hb2 bz (by decide)⟩, by omega⟩
    have nl : (nums zP).length = 6 := rfl
    have e2 : (nums zP)[i.toNat]'(by omega) = 0 := by
      have : i.toNat = 0 ∨ i.toNat = 1 ∨ i.toNat = 2 ∨ i.toNat = 3 ∨ i.toNat = 4 ∨ i.toNat = 5 := by omega
      rcases this with e | e | e | e | e | e <;> simp only [e] <;> rfl
    rw [e, puts_take _ _ (by omega), e2, ← List.append_assoc]
    exact o2
  · have h3 : ¬ i < 6 := by simpa using h3
    have et : (nums zP).take i.toNat = nums zP := List.take_of_length_le (by show 6 ≤ _; omega)
    rw [et] at o
    have rc : RdB ww (.slice (some (Addr.add ⟨w.heap.size, 0, none⟩ 10)) 16 16) zP.cdb := rd_mid bz 10 16 (by simp) (by simp [maxLen])
    have hl8 : (h8 zP 0 ++ puts (nums zP)).length = 32 := by simp [h8, putL_length, puts, nums]
    obtain ⟨v30, w31, k30, o30, n30⟩ := app_bytes o rc g.size (by rw [hl8]; simp [Pd.cdb])
    have g31 : Grow w w31 := g.trans (n30.below g.size o.blk)
    have o30 : OwnB w31 w.heap.size tb v30 (hdr zP 0) := o30
    have bz31 : BK w31 w.heap.size (rP zP (.slice none 0 0)) 35 := (n30.by_.block _ bz.lt (fun e => own_ne o bz (by decide) e.symm)).trans bz
    refine ⟨v30, w31, k30, ref_Sum_c o30.rd ⟨_, rfl, ref_Four_c fun v35 w36 g36 o36 => ?_⟩⟩
    have o30' := o30.grow g36
    have hh := hdr_length zP 0
    obtain ⟨v37, w38, k37, o37, n37⟩ := app_bytes o30' o36.rd (Nat.le_trans g31.size g36.size) (by rw [hh, le4_length]; omega)
    have g38 : Grow w w38 := (g31.then g36).trans (n37.below (Nat.le_trans g31.size g36.size) o30'.blk)
    have bz36 := bz31.grow g36
    have bz38 : BK w38 w.heap.size (rP zP (.slice none 0 0)) 35 := (n37.by_.block _ bz36.lt (fun e => own_ne o30' bz36 (by decide) e.symm)).trans bz36
    refine ⟨v37, w38, k37, ?_⟩
    exact JoinP.val (fun v ww => ww = w38 ∧ v = v37) (fun j hj => ⟨_, bz38.cell 26, 0, rfl, cond_f (by rfl) (hj _ _ ⟨rfl, rfl⟩)⟩) (by rintro v ww ⟨rfl, rfl⟩; exact k _ _ g38 o37)

theorem big_front (n : Nat) (h0 : 4096 < n) (h1 : n < 4294967296) : decE (sealed (hdr zP n)) = 5 := by
  have hh := hdr_length zP n
  obtain ⟨t1, t2⟩ := take48 zP n (le4 (sum (hdr zP n)))
  have sl := sealed_length (hdr zP n)
  have n4 : num4 (sealed (hdr zP n)) 4 = n := by
    have := num_at [byt zP.op, flB zP, byt zP.st, 0] (puts (nums zP) ++ zP.cdb ++ le4 (sum (hdr zP n))) (n : Int) (by omega) 4 rfl
    rw [← this]; simp [sealed, hdr, h8]
  have f : frontE (sealed (hdr zP n)) = 5 := by
    unfold frontE
    rw [if_neg (by omega)]
    have e1 : (sealed (hdr zP n)).take 48 = hdr zP n := t1
    have e2 : (sealed (hdr zP n)).drop 48 = le4 (sum (hdr zP n)) := t2
    rw [e1, e2, List.take_of_length_le (by rw [le4_length]; omega), if_pos rfl, if_neg, n4, if_pos (by omega)]
    have k0 : known (bn ((sealed (hdr zP n)).getD 0 0)) = true := rfl
    have k3 : (sealed (hdr zP n)).getD 3 0 = 0 := rfl
    rw [k0, k3]; simp
  unfold decE
  rw [if_pos (by rw [f]; decide), f]

theorem pduBounds_s {w : World} {n more : Int} (hn : Fits .i64 n) (hm : Fits .u32 more) :
    Go.CW.Spec Try.prog 4 #[.int .i64 n, .int .u32 more] w (Law w) := by
  have hm' := hm.u32
  apply gemellaw7_PduBounds_wp
  refine known_c fun w1 g1 => ⟨_, rfl, cond_f rfl ?_⟩
  refine JoinP.bool (fun b w' => w' = w1 ∧ (b = false → 4090 ≤ n ∧ n ≤ 4100)) (fun j hj => ?_) ?_
  · refine cond_intro (fun h => hj _ _ ⟨rfl, by simp⟩) (fun h => hj _ _ ⟨rfl, fun h3 => ?_⟩)
    simp at h h3
    omega
  rintro b w4 ⟨rfl, hb⟩
  refine cond_intro (fun h => ⟨rfl, g1⟩) (fun h => ?_)
  obtain ⟨h0, h1⟩ := hb h
  clear hb h
  obtain ⟨n, rfl⟩ := Int.eq_ofNat_of_zero_le (show 0 ≤ n by omega)
  obtain ⟨v5, w6, k5, o5, g6⟩ := make_bytes (w := w4) n (by omega)
  refine ⟨v5, w6, k5, oneK_of (Rd.isOne o5.rd) ?_⟩
  have hrl : (List.replicate n (0 : UInt8)).length = n := List.length_replicate
  refine Encode_c (p := zP) zP_fits o5.rd fun v9 e w8 g8 _ k2 k3 => ⟨_, _, rfl, ?_⟩
  have gA := g1.then (g6.then g8)
  refine cond_intro (fun h => ?_) (fun h => ?_)
  · simp only [decide_eq_true_eq, gt_iff_lt] at h
    obtain ⟨rfl, rfl⟩ := k2 rfl (by omega)
    exact JoinP.bool (fun b w' => b = true ∧ w' = w8) (fun j hj => cond_t (by rfl) ⟨0, rfl, hj _ _ ⟨rfl, rfl⟩⟩) (by rintro b w' ⟨rfl, rfl⟩; exact ⟨rfl, gA⟩)
  simp only [decide_eq_false_iff_not, gt_iff_lt] at h
  obtain ⟨r9, rfl, _⟩ := k3 rfl (by omega)
  clear k2 k3
  obtain ⟨q1, q2, q3, q4, q5⟩ := dec_enc zP (List.replicate n 0) zP_fits rfl (by omega)
  have el := encP_length zP (List.replicate n 0)
  have hne : List.replicate n (0 : UInt8) ≠ [] := fun e => by rw [e] at hrl; simp at hrl; omega
  rw [if_neg hne, hrl] at el
  have hds : decDs (encP zP (List.replicate n 0)) = List.replicate n 0 := by unfold decDs; rw [if_pos q1, q3]
  refine Decode_c r9 (by omega) fun dv w16 g16 r16 n16 => ?_
  rw [hds] at r16
  rw [q1, if_pos rfl, if_pos rfl, q2, q4]
  refine ⟨_, _, _, _, _, _, _, _, _, _, _, _, _, _, _, _, _, _, _, _, _, _, _, _, _, _, _, _, _, rfl, nm fun w46 e46 => ?_⟩
  obtain ⟨b46, g46, _⟩ := alE e46
  clear e46
  refine ⟨b46.row rfl (one_rP (Rd.isOne r16)), nm fun w47 e47 => ?_⟩
  obtain ⟨b47, t47⟩ := rowE b46 e47 rfl
  clear e47
  have g47 : Grow w16 w47 := Below.turn g46 t47 (Nat.le_refl _)
  have r47 := r16.grow g47
  have r947 := r9.grow (g16.then g47)
  have gB := gA.then (g16.then g47)
  refine JoinP.bool (fun b w' => b = false ∧ w' = w47) (fun j hj => ?_) ?_
  · refine cond_f (by rfl) ⟨_, b47.cell 26, _, RdB.len r47, cond_f (by simp [hrl]) ⟨_, RdB.len r947, hj _ _ ⟨by simp, rfl⟩⟩⟩
  rintro b w49 ⟨rfl, rfl⟩
  refine cond_f rfl (refEncode_c fun v52 w51 g51 o51 => ⟨_, _, rfl, ?_⟩)
  have hbig : IntKind.wrap .u32 ((4097 : Int) + Int.tmod more 100000) = 4097 + more % 100000 := by
    rw [Int.tmod_eq_emod_of_nonneg (by omega), w32_id (by omega) (by omega)]
  rw [hbig]
  obtain ⟨big, hbg⟩ := Int.eq_ofNat_of_zero_le (show 0 ≤ 4097 + more % 100000 by omega)
  rw [hbg]
  have hb0 : 4096 < big ∧ big < 4294967296 := by omega
  clear hbig hbg
  have W0 : Wr w51 w49.heap.size v52 ((sealed (hdr zP 0)).map b8) := o51.wr
  have sl0 := sealed_length (hdr zP 0)
  have hh0 := hdr_length zP 0
  have hhb := hdr_length zP big
  simp only [b8_wrap]
  -- the four bytes
  obtain ⟨a1, ha1, _, st1, B1, _, p1⟩ := W0.put (i := 4) (by omega) (by simp; omega)
  refine ⟨a1, ha1, st1, nm fun w55 e55 => ?_⟩
  have W1 := p1 (b8 (byt (Int.fdiv (big : Int) 16777216)))
  rw [← e55] at W1
  have f1 : Below w49.heap.size w49 w55 := by rw [e55]; exact (show Below w49.heap.size w49 w51 from g51).setCell B1 _
  clear p1 st1 e55
  obtain ⟨a2, ha2, _, st2, B2, _, p2⟩ := W1.put (i := 5) (by omega) (by simp; omega)
  refine ⟨a2, ha2, st2, nm fun w57 e57 => ?_⟩
  have W2 := p2 (b8 (byt (Int.fdiv (big : Int) 65536)))
  rw [← e57] at W2
  have f2 : Below w49.heap.size w49 w57 := by rw [e57]; exact f1.setCell B2 _
  clear p2 st2 e57
  obtain ⟨a3, ha3, _, st3, B3, _, p3⟩ := W2.put (i := 6) (by omega) (by simp; omega)
  refine ⟨a3, ha3, st3, nm fun w59 e59 => ?_⟩
  have W3 := p3 (b8 (byt (Int.fdiv (big : Int) 256)))
  rw [← e59] at W3
  have f3 : Below w49.heap.size w49 w59 := by rw [e59]; exact f2.setCell B3 _
  clear p3 st3 e59
  obtain ⟨a4, ha4, _, st4, B4, _, p4⟩ := W3.put (i := 7) (by omega) (by simp; omega)
  refine ⟨a4, ha4, st4, nm fun w61 e61 => ?_⟩
  have W4 := p4 (b8 (byt (big : Int)))
  rw [← e61] at W4
  have f4 : Below w49.heap.size w49 w61 := by rw [e61]; exact f3.setCell B4 _
  clear p4 st4 e61
  have hL : ((((((sealed (hdr zP 0)).map b8).set (4 : Int).toNat (b8 (byt (Int.fdiv (big : Int) 16777216)))).set (5 : Int).toNat (b8 (byt (Int.fdiv (big : Int) 65536)))).set (6 : Int).toNat (b8 (byt (Int.fdiv (big : Int) 256)))).set (7 : Int).toNat (b8 (byt (big : Int)))) = (hdr zP big ++ le4 (sum (hdr zP 0))).map b8 := by
    have d : putL (big : Int) 4 = [byt (Int.fdiv (big : Int) 16777216), byt (Int.fdiv (big : Int) 65536), byt (Int.fdiv (big : Int) 256), byt (big : Int)] := by
      show [byt ((big : Int) / 16777216), byt ((big : Int) / 65536), byt ((big : Int) / 256), byt ((big : Int) / 1)] = _
      rw [Int.ediv_one, Int.fdiv_eq_ediv_of_nonneg _ (by omega), Int.fdiv_eq_ediv_of_nonneg _ (by omega), Int.fdiv_eq_ediv_of_nonneg _ (by omega)]
    have e : hdr zP big ++ le4 (sum (hdr zP 0)) = [0, 0, 0, 0] ++ (putL (big : Int) 4 ++ (puts (nums zP) ++ zP.cdb ++ le4 (sum (hdr zP 0)))) := by
      simp only [hdr, h8, List.append_assoc]; rfl
    rw [e, d]
    rfl
  rw [hL] at W4
  clear W0 W1 W2 W3 hL
  generalize hl0 : le4 (sum (hdr zP 0)) = l0 at *
  have hl0' : l0.length = 4 := by rw [← hl0, le4_length]
  have r61 : RdB w61 v52 (hdr zP big ++ l0) := W4.rd
  obtain ⟨az, _, hcz, _, _, owz, _⟩ := W4.put (i := 0) (by omega) (by simp; omega)
  have hz := World.block_lt_of_cell? _ _ hcz
  obtain ⟨v62, hs62, hr62, _⟩ := Rd.sub r61 (lo := none) (hi := some (.int .i64 48)) (l := 0) (r := 48) (fun cap hc => by rw [bounds_ni (by omega) (by simp at hc; omega)]; rfl) (by omega) (by simp; omega)
  have r62 : RdB w61 v62 (hdr zP big) := by
    have e : (((hdr zP big ++ l0).map b8).drop 0).take (48 - 0) = (hdr zP big).map b8 := by
      rw [List.drop_zero, ← List.map_take, List.take_append_of_le_length (by omega), List.take_of_length_le (by omega)]
    rw [e] at hr62; exact hr62
  refine ⟨v62, hs62, ref_Sum_c r62 ⟨_, rfl, ref_Four_c fun v66 w67 g67 o67 => ?_⟩⟩
  generalize hls : le4 (sum (hdr zP big)) = ls at *
  have hls' : ls.length = 4 := by rw [← hls, le4_length]
  have f67 : Below w49.heap.size w49 w67 := f4.trans (g67.mono f4.size)
  refine ⟨fun (i : Int) (ww : World) => 0 ≤ i ∧ i ≤ 4 ∧ Below w49.heap.size w49 ww ∧ Wr ww w49.heap.size v52 ((hdr zP big ++ (ls.take i.toNat ++ l0.drop i.toNat)).map b8) ∧ OwnB ww w61.heap.size tb v66 ls, fun (i : Int) (_ : World) => (4 - i).toNat, ⟨by omega, by omega, f67, W4.grow g67, o67⟩, ?_⟩
  dsimp only [allR, mapR2, eqN, ltN]
  rintro m i ww ⟨⟨h2, h3, f, W, o66⟩, hmu⟩
  refine cond_intro (fun h4 => ?_) (fun h4 => ?_)
  · have h4 : i < 4 := by simpa using h4
    obtain ⟨a71, ha71, hc71⟩ := RdB.at o66.rd h2 (by omega)
    have hx : (hdr zP big ++ (ls.take i.toNat ++ l0.drop i.toNat)).length = 52 := by simp [hls', hl0', hhb]; omega
    rw [wi64_id (n := 48 + i) (by omega) (by omega)]
    obtain ⟨a73, ha73, _, st73, B73, ow73, p73⟩ := W.put (i := 48 + i) (by omega) (by rw [List.length_map, hx]; omega)
    refine ⟨a71, ha71, _, hc71, a73, ha73, st73, nm fun w74 e74 => ?_⟩
    have W74 := p73 (b8 (ls[i.toNat]'(by omega)))
    rw [show World.setCell ww a73 (b8 (ls[i.toNat]'(by omega))) = w74 from e74.symm] at W74
    have hsm : v66.ownBlock ≠ some a73.block := by
      intro e
      have q1 := o66.blk _ e
      have q2 : some a73.block = some az.block := ow73.symm.trans owz
      injection q2 with q2
      omega
    have o74 : OwnB w74 w61.heap.size tb v66 ls := o66.turn (by rw [e74]; exact Turn.set _ _ _) hsm
    rw [wi64_id (n := i + 1) (by omega) (by omega)]
    refine ⟨⟨by omega, by omega, by rw [e74]; exact f.setCell B73 _, ?_, o74⟩, by omega⟩
    have e1 : (i + 1).toNat = i.toNat + 1 := by omega
    have e2 : (48 + i).toNat = (hdr zP big).length + i.toNat := by omega
    have e3 : (hdr zP big ++ (ls.take i.toNat ++ l0.drop i.toNat)).set (48 + i).toNat (ls[i.toNat]'(by omega)) = hdr zP big ++ (ls.take (i + 1).toNat ++ l0.drop (i + 1).toNat) := by
      rw [e2, List.set_append_right _ _ (by omega), Nat.add_sub_cancel_left, List.set_append_right _ _ (by simp; omega)]
      have e4 : i.toNat - (ls.take i.toNat).length = 0 := by simp; omega
      rw [e4, e1, List.take_add_one, List.getElem?_eq_getElem (by omega)]
      have e5 : l0.drop i.toNat = l0[i.toNat]'(by omega) :: l0.drop (i.toNat + 1) := List.drop_eq_getElem_cons (by omega)
      rw [e5, List.set_cons_zero]
      simp only [Option.toList_some, List.append_assoc, List.cons_append, List.nil_append]
    rw [← List.map_set, e3] at W74
    exact W74
  · have h4 : ¬ i < 4 := by simpa using h4
    obtain rfl : i = 4 := by omega
    have e1 : hdr zP big ++ (ls.take (4 : Int).toNat ++ l0.drop (4 : Int).toNat) = sealed (hdr zP big) := by
      rw [show (4 : Int).toNat = 4 from rfl, List.take_of_length_le (by omega), List.drop_of_length_le (by omega), List.append_nil]
      unfold sealed; rw [hls]
    rw [e1] at W
    have rc : RdB ww v52 (sealed (hdr zP big)) := W.rd
    have slb := sealed_length (hdr zP big)
    have d5 := big_front big hb0.1 hb0.2
    have gW : Grow w49 ww := f
    refine Decode_c rc (by omega) fun dv2 w76 g76 r76 n76 => ?_
    rw [d5]
    refine ⟨_, _, _, _, _, _, _, _, _, _, _, _, _, _, _, _, _, _, _, _, _, _, _, _, _, _, _, _, _, rfl, nm fun w106 e106 => ?_⟩
    obtain ⟨b106, g106, _⟩ := alE e106
    clear e106
    refine ⟨b106.row rfl (one_rP (Rd.isOne r76)), nm fun w107 e107 => ?_⟩
    obtain ⟨b107, t107⟩ := rowE b106 e107 rfl
    clear e107
    have g107 : Grow w76 w107 := Below.turn g106 t107 (Nat.le_refl _)
    refine NewReader_c fun w109 g109 h109 => ⟨_, rfl, ?_⟩
    have rc109 := rc.grow (g76.then (g107.then g109))
    refine Put_c h109 rc109 (by rw [slb, hhb]; simp) fun v' w112 g112 h112 => ⟨rfl, ?_⟩
    rw [List.nil_append] at h112
    refine Next_c h112 (by omega) fun v'' dv3 w114 g114 h114 r114 n114 => ?_
    have nE : nxE (sealed (hdr zP big)) = 5 := by unfold nxE; rw [d5]; rfl
    rw [nE] at h114
    rw [d5]
    refine ⟨_, _, _, _, _, _, _, _, _, _, _, _, _, _, _, _, _, _, _, _, _, _, _, _, _, _, _, _, rfl, nm fun w143 e143 => ?_⟩
    obtain ⟨b143, g143, _⟩ := alE e143
    clear e143
    refine ⟨b143.row rfl (one_rP (Rd.isOne r114)), nm fun w144 e144 => ?_⟩
    obtain ⟨b144, t144⟩ := rowE b143 e144 rfl
    clear e144
    have g144 : Grow w114 w144 := Below.turn g143 t144 (Nat.le_refl _)
    have gL : Grow w w144 := gB.then (gW.then (g76.then (g107.then ((show Grow w107 w114 from (g109.trans g112).trans g114).then g144))))
    exact JoinP.bool (fun b w' => b = true ∧ w' = w144) (fun j hj => cond_t (by rfl) (cond_t (by rfl) (Err_c (h114.grow g144) ⟨_, rfl, hj _ _ ⟨rfl, rfl⟩⟩))) (by rintro b w' ⟨rfl, rfl⟩; exact ⟨rfl, gL⟩)

end Go.Proofs.Ytooeeodkaeimeaa
