/- The contracts of an order's bytes, Request, the reader, Answer of a request. -/
import Derived.Test.YtmbdbplobnkleaaCrcN
import Derived.Test.YtmbdbplobnkleaaSepX
import Derived.Test.YtmbdbplobnkleaaPutW
import Derived.Test.YtmbdbplobnkleaaTimQ
import Derived.Test.YtmbdbplobnkleaaGPth
set_option linter.unusedVariables false
set_option linter.unusedSimpArgs false
set_option maxRecDepth 100000
namespace Go.Proofs.Ytmbdbplobnkleaa
open Go Go.CW Go.RowKit Go.Crc

structure Cmd where
  kind : Int
  pos : Int
  n : Int
  key : Int
  new : Int
  typ : Int
  force : Bool

abbrev tCmd : TypeId := 31
abbrev rCmd (c : Cmd) (d : Value) : Array Value := #[.int .i64 c.kind, .int .i64 c.pos, .int .i64 c.n, d, .int .u64 c.key, .int .u64 c.new, .int .i64 c.typ, .bool c.force]
structure CmdFits (c : Cmd) : Prop where
  kind : Fits .i64 c.kind
  pos : Fits .i64 c.pos
  n : Fits .i64 c.n
  key : Fits .u64 c.key
  new : Fits .u64 c.new
  typ : Fits .i64 c.typ

def o8 (l : List Int) : List UInt8 := l.flatMap fun x => putL x 8
theorem o8_take (l : List Int) (i : Nat) (hi : i < l.length) : o8 (l.take (i + 1)) = o8 (l.take i) ++ putL l[i] 8 := by
  rw [List.take_add_one, List.getElem?_eq_getElem hi]; unfold o8; rw [List.flatMap_append]; simp
theorem o8_len (l : List Int) : (o8 l).length = 8 * l.length := by
  induction l with
  | nil => rfl
  | cons x l ih => simp only [o8, List.flatMap_cons, List.length_append, List.length_cons, putL_length] at ih ⊢; omega
abbrev u64 (n : Int) : Int := IntKind.wrap .u64 n
def bitN (b : Bool) : Int := if b then 1 else 0
def nums (id floor : Int) (c : Cmd) : List Int := [id, floor, u64 c.kind, u64 c.pos, u64 c.n, c.key, c.new, u64 c.typ]
def ordL (host id floor : Int) (c : Cmd) (ds : List UInt8) : List UInt8 := putL (u64 host) 8 ++ o8 (nums id floor c) ++ putL (bitN c.force) 1 ++ ds
theorem ordL_len (host id floor : Int) (c : Cmd) (ds : List UInt8) : (ordL host id floor c ds).length = 73 + ds.length := by
  simp [ordL, putL_length, o8_len, nums]; omega
def reqL (host id floor : Int) (c : Cmd) (ds : List UInt8) : List UInt8 := sld ([1] ++ ordL host id floor c ds)

theorem app_full {w : World} {v u : Value} {bs cs : List UInt8} (hv : RdB w v bs) (hf : Ful v) (hu : RdB w u cs) (hl : bs.length + cs.length ≤ 1000000000) :
    ∃ v' w', Sem.run Try.prog (Builtin.append_ #[tB, tB] tB #[v, u]) w = .ok v' w' ∧ RdB w' v' (bs ++ cs) ∧ Grow w w' := by
  by_cases h : cs = []
  · subst h
    exact ⟨v, w, app_none tyB hv hu, by rw [List.append_nil]; exact hv, Grow.refl _⟩
  · obtain ⟨v', w', k1, k2, k3⟩ := app_ful tyB hv hf hu one_b8 (by simpa using h) (by simp only [List.length_map]; omega)
    exact ⟨v', w', k1, by have := k2.rd; rwa [← List.map_append] at this, k3⟩

theorem bit_c {w : World} {b : Bool} {R : KV} (k : R (.int .u64 (bitN b)) w) : Go.CW.Spec Try.prog 48 #[.bool b] w R := by
  apply node_bit_wp
  cases b <;> exact k

abbrev rOrd (host id floor : Int) (c : Cmd) (d : Value) : Array Value := #[.int .i64 host, .int .u64 id, .int .u64 floor, .int .i64 c.kind, .int .i64 c.pos, .int .i64 c.n, d, .int .u64 c.key, .int .u64 c.new, .int .i64 c.typ, .bool c.force]

theorem bytes_c {w : World} {host id floor : Int} {c : Cmd} {d : Value} {ds : List UInt8} {R : KV} (hd : RdB w d ds) (hl : ds.length ≤ 100000)
    (k : ∀ v' w', Grow w w' → RdB w' v' (ordL host id floor c ds) → R v' w') : Go.CW.Spec Try.prog 42 #[.agg (rOrd host id floor c d)] w R := by
  apply node_order_bytes_m_wp
  refine nm fun w0 e0 => ?_
  obtain ⟨b0, g0, _⟩ := alE e0
  clear e0
  refine ⟨_, b0.cell 0, bin_Put_w (bs := []) (Rd.nil w0) (by simp) (by omega) fun v2 w3 g3 o3 f3 n3 => ?_⟩
  have b3 := b0.grow g3
  refine ⟨_, b3.cell 1, _, b3.cell 2, _, (by rw [add_add]; exact b3.cell 3), _, (by rw [add_add]; exact b3.cell 4), _, (by rw [add_add]; exact b3.cell 5), _, (by rw [add_add]; exact b3.cell 7), _, (by rw [add_add]; exact b3.cell 8), _, (by rw [add_add]; exact b3.cell 9), nm fun w12 e12 => ?_⟩
  obtain ⟨b12, g12, _⟩ := alE e12
  clear e12
  refine ⟨8, rfl, ?_⟩
  have nl : (nums id floor c).length = 8 := rfl
  refine ⟨fun (vv : Value) (i : Int) (ww : World) => 0 ≤ i ∧ i ≤ 8 ∧ Grow w12 ww ∧ RdB ww vv (putL (u64 host) 8 ++ o8 ((nums id floor c).take i.toNat)) ∧ Ful vv, fun (_ : Value) (i : Int) (_ : World) => (8 - i).toNat, ⟨by omega, by omega, Grow.refl _, ?_, f3⟩, ?_⟩
  · have := o3.rd.grow g12
    simpa [o8] using this
  dsimp only [allR, mapR2, eqN, ltN]
  rintro m vv i ww ⟨⟨i0, i1, gg, r, fl⟩, hm⟩
  have hpl := o8_len ((nums id floor c).take i.toNat)
  rw [List.length_take, nl] at hpl
  refine cond_intro (fun e => ?_) (fun e => ?_)
  · have e : i < 8 := by simpa using e
    have hcell : ww.cell? (⟨w3.heap.size, i.toNat, none⟩ : Addr) = some (.int .u64 ((nums id floor c)[i.toNat]'(by omega))) := by
      rw [(b12.grow gg).at i.toNat]
      have : i.toNat = 0 ∨ i.toNat = 1 ∨ i.toNat = 2 ∨ i.toNat = 3 ∨ i.toNat = 4 ∨ i.toNat = 5 ∨ i.toNat = 6 ∨ i.toNat = 7 := by omega
      rcases this with e | e | e | e | e | e | e | e <;> simp only [e] <;> rfl
    refine ⟨⟨w3.heap.size, i.toNat, none⟩, ?_, _, hcell, ?_⟩
    · simp only [sliceAt]
      rw [if_pos (by omega), Nat.mul_one, ad0]
    refine bin_Put_w r (by simp only [List.length_append, putL_length]; omega) (by omega) fun v21 w22 g22 o22 f22 n22 => ?_
    rw [wi64_id (n := i + 1) (by omega) (by omega)]
    have e1 : (i + 1).toNat = i.toNat + 1 := by omega
    refine ⟨⟨by omega, by omega, gg.then g22, ?_, f22⟩, by omega⟩
    have hr := o22.rd
    rw [e1, o8_take _ _ (by omega)]
    rw [List.append_assoc] at hr
    exact hr
  · have e : ¬ i < 8 := by simpa using e
    have et : (nums id floor c).take i.toNat = nums id floor c := List.take_of_length_le (by omega)
    rw [et] at r
    have gA := (g3.then (g12.then gg))
    have bw := b0.grow gA
    refine nm fun w22 e22 => ?_
    have g22 := drE e22
    have b22 := bw.grow g22
    refine ⟨_, (by rw [add_add]; exact b22.cell 10), _, (by rw [add_add]; exact b22.cell 6), nm fun w25 e25 => bit_c ⟨_, rfl, ?_⟩⟩
    obtain rfl : w25 = w22 := e25.trans e22.symm
    refine ⟨⟨_, (by rw [add_add]; exact b22.cell 6), rfl⟩, bin_Put_w (r.grow g22) (by simp only [List.length_append, putL_length, o8_len, nl]; omega) (by omega) fun v30 w31 g31 o31 f31 n31 => ?_⟩
    refine ⟨⟨_, (by rw [add_add]; exact (b22.grow g31).cell 6), rfl⟩, ?_⟩
    have hd31 := hd.grow (g0.then (gA.then (g22.then g31)))
    obtain ⟨v33, w34, k33, r33, g33⟩ := app_full o31.rd f31 hd31 (by simp only [List.length_append, putL_length, o8_len, nl]; omega)
    exact ⟨v33, w34, k33, k v33 w34 (g0.then (gA.then (g22.then (g31.then g33)))) r33⟩

theorem Request_c {w : World} {host id floor : Int} {c : Cmd} {d : Value} {ds : List UInt8} {R : KV} (hd : RdB w d ds) (hl : ds.length ≤ 100000)
    (k : ∀ v' w', Grow w w' → RdB w' v' (reqL host id floor c ds) → NewV w v' → R v' w') : Go.CW.Spec Try.prog 28 #[.int .i64 host, .int .u64 id, .int .u64 floor, .agg (rCmd c d)] w R := by
  apply node_Request_wp
  refine nm fun w0 e0 => ?_
  obtain ⟨b0, g0, _⟩ := alE e0
  clear e0
  refine nm fun w1 e1 => ?_
  obtain ⟨_, g1, _⟩ := alE e1
  have o1 : OwnB w1 w0.heap.size tb (.slice (some ⟨w0.heap.size, 0, none⟩) 1 1) [1] := by
    subst e1; exact Own.lit w0 (Nat.le_refl _) tb _ 1 rfl (by simp [maxLen])
  have b1 := b0.grow g1
  refine ⟨_, _, _, _, _, _, _, _, b1.ld rfl, bytes_c (hd.grow (g0.then g1)) hl fun v10 w11 g11 r11 => ?_⟩
  have hol := ordL_len host id floor c ds
  have o11 := o1.grow g11
  have hB : w0.heap.size ≤ w11.heap.size := Nat.le_trans g1.size g11.size
  obtain ⟨v12, w13, k12, o13, n13⟩ := app_bytes o11 r11 hB (by rw [hol]; simp; omega)
  have g13 : Grow w0 w13 := (g1.then g11).trans (n13.below hB o11.blk)
  refine ⟨v12, w13, k12, crc_Seal_c o13.rd (by rw [List.length_append, hol]; simp; omega) fun v14 w15 g15 o15 => k v14 w15 (g0.then (g13.then g15)) o15.rd ?_⟩
  have hne : (sld ([1] ++ ordL host id floor c ds)).map b8 ≠ [] := by
    intro e
    have := congrArg List.length e
    rw [List.length_map, sld_length] at this
    simp at this
  obtain ⟨q, cap, cur, e, rfl, hq, _⟩ := o15.2 hne
  intro q' hq'
  have : q = q' := by simpa [Value.ownBlock] using hq'
  have := g0.size
  have := g13.size
  omega

/-! ### the reader -/
abbrev tRdr : TypeId := 84
structure Rdr (w : World) (B g : Nat) (S : Fp) (bs : List UInt8) (bad : Bool) : Prop where
  ex : ∃ v, BK w g #[v, .bool bad] tRdr ∧ RdX S w v (bs.map b8)
  le : B ≤ g
  mem : S g
  len : bs.length ≤ 10000000

theorem number_c {w : World} {B g : Nat} {S : Fp} {bs : List UInt8} {bad : Bool} {n : Int} {R : KV} (h : Rdr w B g S bs bad) (hn : 1 ≤ n ∧ n ≤ 8)
    (k : ∀ w' bs' bad', Below B w w' → Rdr w' B g S bs' bad' → R (.int .u64 (getV bs 0 n)) w') : Go.CW.Spec Try.prog 31 #[.pointer (some ⟨g, 0, none⟩), .int .i64 n] w R := by
  obtain ⟨⟨v, b, r⟩, hle, hmem, hlb⟩ := h
  have hlen := r.1.le
  rw [List.length_map] at hlen
  apply node_reader_number_m_wp
  refine withAddr_some ⟨_, b.cell 0, bin_Get_c r.1 (by decide) ⟨by simp [IntKind.min, IntKind.bits, IntKind.signed]; omega, by simp [IntKind.max, IntKind.bits, IntKind.signed]; omega⟩ ⟨_, _, rfl, cond_intro (fun d => ?_) (fun d => ?_)⟩⟩
  · simp only [Bool.not_eq_true'] at d
    refine withAddr_some ⟨st1_at b (by show 1 < 2; omega), nm fun w7 e7 => withAddr_some ?_⟩
    obtain ⟨b7, t7⟩ := setE b e7
    refine ⟨st1_at b7 (by show 0 < 2; omega), nm fun w9 e9 => ?_⟩
    obtain ⟨b9, t9⟩ := setE b7 e9
    have h0 : getV bs 0 n = 0 := by unfold getV; rw [d]; rfl
    rw [h0] at k
    exact k w9 [] true (Below.turn (Below.turn (Below.refl B w) t7 hle) t9 hle) ⟨⟨_, b9, RdX.nil _ _⟩, hle, hmem, by simp⟩
  · simp only [Bool.not_eq_false'] at d
    have hb : n ≤ bs.length := by
      unfold getB at d
      simp only [Bool.and_eq_true, decide_eq_true_eq] at d
      omega
    obtain ⟨v12, hs12, hr12, ob⟩ := Rd.sub r.1 (lo := some (.int .i64 n)) (hi := none) (l := n.toNat) (r := bs.length) (fun cap hc => by rw [bounds_in (by omega) (by simp; omega)]; simp) (by omega) (by simp)
    have r12 : RdB w v12 (bs.drop n.toNat) := by
      have e : ((bs.map b8).drop n.toNat).take (bs.length - n.toNat) = (bs.drop n.toNat).map b8 := by rw [List.map_drop, List.take_of_length_le (by simp)]
      rw [e] at hr12; exact hr12
    have x12 : RdX S w v12 ((bs.drop n.toNat).map b8) := r.part r12 ob (fun h e => by
      have : bs = [] := by simpa using e
      subst this; simp at h)
    refine withAddr_some ⟨_, b.cell 0, v12, hs12, withAddr_some (oneK_of (Rd.isOne r12) ⟨st1_at b (by show 0 < 2; omega), nm fun w14 e14 => ?_⟩)⟩
    obtain ⟨b14, t14⟩ := setE b e14
    have st : Step S w w14 S := by subst e14; exact Step.setA w _ _ (by rw [add_block]; exact hmem)
    exact k w14 _ bad (Below.turn (Below.refl B w) t14 hle) ⟨⟨_, b14, x12.step st⟩, hle, hmem, by rw [List.length_drop]; omega⟩

theorem rint_c {w : World} {B g : Nat} {S : Fp} {bs : List UInt8} {bad : Bool} {R : KV} (h : Rdr w B g S bs bad)
    (k : ∀ w' bs' bad' n, Below B w w' → Rdr w' B g S bs' bad' → R (.int .i64 n) w') : Go.CW.Spec Try.prog 32 #[.pointer (some ⟨g, 0, none⟩)] w R := by
  apply node_reader_int_m_wp
  exact number_c h (by omega) fun w' bs' bad' b' h' => ⟨_, rfl, k w' bs' bad' _ b' h'⟩

theorem flag_c {w : World} {B g : Nat} {S : Fp} {bs : List UInt8} {bad : Bool} {R : KV} (h : Rdr w B g S bs bad)
    (k : ∀ w' bs' bad' b, Below B w w' → Rdr w' B g S bs' bad' → R (.bool b) w') : Go.CW.Spec Try.prog 33 #[.pointer (some ⟨g, 0, none⟩)] w R := by
  apply node_reader_flag_m_wp
  refine number_c h (by omega) fun w1 bs' bad' b1 h1 => ⟨_, rfl, ?_⟩
  refine JoinP.unit (fun w' => Below B w w' ∧ ∃ bs' bad', Rdr w' B g S bs' bad') (fun j hj => ?_) (by rintro w' ⟨b', bs', bad', h'⟩; exact k w' bs' bad' _ b' h')
  obtain ⟨⟨v, b, r⟩, hle, hmem, hlb⟩ := h1
  have set : ∀ x w', w' = World.setCell w1 (Addr.add ⟨g, 0, none⟩ 1) (.bool x) → j w' := by
    intro x w' e
    obtain ⟨b2, t2⟩ := setE b e
    have st : Step S w1 w' S := by subst e; exact Step.setA w1 _ _ (by rw [add_block]; exact hmem)
    exact hj _ ⟨Below.turn b1 t2 hle, bs', x, ⟨v, b2, r.step st⟩, hle, hmem, hlb⟩
  exact withAddr_some ⟨_, b.cell 1, cond_intro (fun d => withAddr_some ⟨st1_at b (by show 1 < 2; omega), nm fun w8 e8 => set _ _ e8⟩) (fun d => withAddr_some ⟨st1_at b (by show 1 < 2; omega), nm fun w8 e8 => set _ _ e8⟩)⟩

abbrev rZ : Array Value := #[.int .i64 0, .int .i64 0, .int .i64 0, .slice none 0 0, .int .i64 0]
abbrev tRep : TypeId := 62

/-- a request is no answer -/
theorem Answer_req {w : World} {v : Value} {x : UInt8} {bs : List UInt8} {R : KV} (hr : RdB w v (sld (x :: bs))) (hx : x ≠ 2) (hl : bs.length ≤ 1000000)
    (k : ∀ w', Grow w w' → R (.tuple #[.int .i64 0, .int .u64 0, .agg rZ, .bool false, .int .i64 0, .bool false]) w') : Go.CW.Spec Try.prog 20 #[v] w R := by
  apply node_Answer_wp
  refine nm fun w0 e0 => ?_
  obtain ⟨b0, g0, _⟩ := alE e0
  clear e0
  obtain ⟨q1, q2⟩ := opE_sld (x :: bs)
  refine crc_Open_n (hr.grow g0) (by rw [sld_length]; simp; omega) fun v3 w2 g2 r2 n2 => ⟨_, _, rfl, oneK_of (Rd.isOne r2) (nm fun w5 e5 => ?_)⟩
  rw [q2] at r2
  obtain ⟨b5, g5, _⟩ := alE e5
  clear e5
  have gB : Grow w w2 := g0.then g2
  have hB : w.heap.size < w2.heap.size := Nat.lt_of_lt_of_le b0.lt g2.size
  have n3 : NewV w0 v3 := n2
  have x5 : RdX (fun q => q = w2.heap.size ∨ q = w.heap.size) w5 v3 ((x :: bs).map b8) := ⟨r2.grow g5, fun hne q hq e => by have := Rd.lt r2 hne q hq; have := n3 q hq; have := b0.lt; omega⟩
  have h5 : Rdr w5 w2.heap.size w2.heap.size (fun q => q = w2.heap.size ∨ q = w.heap.size) (x :: bs) false := ⟨⟨v3, b5, x5⟩, Nat.le_refl _, .inl rfl, by simp; omega⟩
  have hk : getV (x :: bs) 0 1 = (x.toNat : Int) := by
    unfold getV getB
    have : (inW 1 && decide ((0 : Int) ≤ 0) && decide ((0 : Int) + 1 ≤ ((x :: bs).length : Int))) = true := by
      simp [inW]; omega
    rw [this, cond_true]
    simp [valL]
  refine number_c h5 (by omega) fun w7 l7 c7 b7 h7 => ⟨_, rfl, ?_⟩
  rw [hk]
  refine rint_c h7 fun w10 l10 c10 n11 b10 h10 => ⟨_, rfl, ?_⟩
  refine number_c h10 (by omega) fun w13 l13 c13 b13 h13 => ⟨_, rfl, ?_⟩
  refine flag_c h13 fun w16 l16 c16 f17 b16 h16 => ⟨_, rfl, ?_⟩
  refine number_c h16 (by omega) fun w19 l19 c19 b19 h19 => ⟨_, rfl, ?_⟩
  refine rint_c h19 fun w22 l22 c22 n23 b22 h22 => ⟨_, rfl, ?_⟩
  refine rint_c h22 fun w25 l25 c25 n26 b25 h25 => ⟨_, rfl, ?_⟩
  refine rint_c h25 fun w28 l28 c28 n29 b28 h28 => ⟨_, rfl, ?_⟩
  refine rint_c h28 fun w31 l31 c31 n32 b31 h31 => ⟨_, rfl, ?_⟩
  have gA : Grow w2 w31 := (((((((((g5.trans b7).trans b10).trans b13).trans b16).trans b19).trans b22).trans b25).trans b28).trans b31)
  have z31 := (b0.grow g2).grow gA
  refine ⟨z31.row rfl rfl, nm fun w33 e33 => ?_⟩
  obtain ⟨z33, t33⟩ := rowE z31 e33 rfl
  obtain ⟨⟨u, bu, ru⟩, _, _, hul⟩ := h31
  have hne : w2.heap.size ≠ w.heap.size := by omega
  have bu33 := bu.turn t33 hne
  have g33 : Grow w w33 := Below.turn (gB.then gA) t33 (Nat.le_refl _)
  have st33 : Step (fun q => q = w2.heap.size ∨ q = w.heap.size) w31 w33 (fun q => q = w2.heap.size ∨ q = w.heap.size) := by subst e33; exact Step.row w31 _ _ (.inr rfl)
  have u33 := (ru.step st33).1
  refine ⟨_, bu33.cell 0, slices_Clone_c u33 (by omega) fun v35 w36 g36 o36 => slices_Clip_c o36.rd fun v37 r37 _ => oneK_of (Rd.isOne r37) ?_⟩
  have z36 := z33.grow g36
  have bu36 := bu33.grow g36
  refine ⟨st1_at z36 (by show 3 < 5; omega), nm fun w39 e39 => ?_⟩
  obtain ⟨z39, t39⟩ := setE z36 e39
  have bu39 := bu36.turn t39 hne
  have g39 : Grow w w39 := Below.turn (g33.then g36) t39 (Nat.le_refl _)
  refine JoinP.bool (fun b w' => w' = w39 ∧ b = true) (fun j hj => ?_) ?_
  · rw [q1]
    have hx2 : ((x.toNat : Int) != 2) = true := by
      simp only [bne_iff_ne, ne_eq]
      intro e
      exact hx (UInt8.toNat_inj.1 (by show x.toNat = 2; omega))
    exact cond_f (by rfl) ⟨_, bu39.cell 1, cond_intro (fun _ => hj _ _ ⟨rfl, rfl⟩) (fun _ => cond_t hx2 (hj _ _ ⟨rfl, rfl⟩))⟩
  rintro b w41 ⟨rfl, rfl⟩
  refine cond_t rfl ⟨z39.row rfl rfl, nm fun w42 e42 => ?_⟩
  obtain ⟨z42, t42⟩ := rowE z39 e42 rfl
  exact ⟨_, _, _, _, _, z42.ld rfl, k w42 (Below.turn g39 t42 (Nat.le_refl _))⟩

end Go.Proofs.Ytmbdbplobnkleaa
