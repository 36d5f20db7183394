/- TopPaths: two paths' packets, brought to one unit by hand, in any order, doubled: each command is done once. -/
import Derived.Test.YtghineciiljeoaaGreatDoorOncA
import Derived.Test.YtghineciiljeoaaGreatDoorKnown
set_option linter.unusedVariables false
set_option linter.unusedSimpArgs false
set_option maxRecDepth 100000
namespace Go.Proofs.YtghineciiljeoaaGreatDoor
open Go Go.CW Go.RowKit Go.CW.Ex

variable {w w' : World} {u b t g1 g2 : Nat} {G : List (Int × Option Nat)} {U : Un}

abbrev Ak := UInt8 × UInt8 × UInt8

theorem ea_at {v : Value} {l : List Ak} (h : RdR EA w v l) {i : Int} {n : Nat} (e : i = (n : Int)) (hi : n < l.length) :
    ∃ a, sliceAt v i 3 = some a ∧ w.cell? (Addr.add a 0) = some (.int .u8 ((l[n]).1.toNat : Int)) ∧ w.cell? (Addr.add a 1) = some (.int .u8 ((l[n]).2.1.toNat : Int)) ∧ w.cell? (Addr.add a 2) = some (.int .u8 ((l[n]).2.2.toNat : Int)) := by
  subst e
  obtain ⟨a, h1, h2, _⟩ := h.at (i := (n : Int)) (by omega) (by omega)
  exact ⟨a, h1, h2 0 (by show 0 < 3; omega), h2 1 (by show 1 < 3; omega), h2 2 (by show 2 < 3; omega)⟩

theorem one_cmd {x0 x1 x2 x4 x5 x6 : Int} {v : Value} {x7 : Bool} (h : isOne v = true) : oneL [.int .i64 x0, .int .i64 x1, .int .i64 x2, v, .int .u64 x4, .int .u64 x5, .int .i64 x6, .bool x7] = true := by
  cases v <;> first | rfl | (exact absurd h (by decide)) | (simp [isOne] at h)

theorem flo_one {id fl : Int} (h : 1 ≤ id) (hf : fl = 0 ∨ fl = 1) : flo id 1 fl = 1 := by
  unfold flo
  rw [if_neg (show ¬ id < 1 by omega)]
  rcases hf with rfl | rfl <;> rfl

theorem keep_at (K : Kp) {x : Int} (h : 1 ≤ x) : keepK K 1 x = K x := by unfold keepK; rw [if_pos h]

/-- Once, at floor 1 -/
theorem Once_p {B m nn i : Nat} {K : Kp} {fl id : Int} {c : Cm} {dv : Value} (h : UAt w u b t g1 g2 G U) (hi : i < 8) (hG : G[i]? = some (fl, some m)) (hf : fl = 0 ∨ fl = 1) (hs : Gst w B m nn K) (hnn : nn ≤ 4) (hnf : K id = none → nn ≤ 3)
    (hB : u < B ∧ b < B ∧ t < B ∧ g1 < B ∧ g2 < B) (hBw : B ≤ w.heap.size)
    (hid : (Lit.int .u64 id).wf = true) (hid0 : 1 ≤ id) (ho : CmOk U i c) (hd : RdB w dv c.d) (hdu : dv.ownBlock ≠ some u) (hdw : ∀ q, dv.ownBlock = some q → B ≤ q) (hlen : (doU U i c).1.d.length ≤ 1000000000) {R : KV}
    (k : ∀ v fresh r m' nn' K' U' w', Step (FO u t g1 g2) w w' (FO u t g1 g2) → UAt w' u b t g1 g2 (G.set i (1, some m')) U' → Gst w' B m' nn' K' → B ≤ m' → RdB w' v r.d → NewV w v →
      ((fresh = false ∧ U' = U ∧ nn' = nn ∧ K' = keepK K 1 ∧ ∃ p, K id = some p ∧ r = p.2) ∨ (fresh = true ∧ U' = (doU U i c).2 ∧ nn' = nn + 1 ∧ K id = none ∧ r = (doU U i c).1 ∧ ∃ v2, K' = putK (keepK K 1) id (v2, r))) →
      R (.tuple #[.agg (rRep r.st r.key r.code v r.info), .bool fresh]) w') :
    Go.CW.Spec Tryz.prog 19 #[.pointer (some ⟨u, 0, none⟩), .int .i64 (i : Int), .int .u64 id, .int .u64 1, .agg (rCmd c dv)] w R := by
  have ef := flo_one hid0 hf
  have ek := keep_at K hid0
  refine Once_c (fl0 := 1) h hi hG hs hnn (by rw [ef, ek]; exact hnf) hB hBw hid (by omega) (by rcases hf with rfl | rfl <;> omega) ho hd hdu hdw hlen ?_ ?_
  · rw [ef]
    intro p v m' w' hp st hu hg hm hr hn
    rw [ek] at hp
    exact k v false p.2 m' nn _ U w' st hu hg hm hr hn (.inl ⟨rfl, rfl, rfl, rfl, p, hp, rfl⟩)
  · rw [ef]
    intro v v2 m' w' hp st hu hg hm hr hn
    rw [ek] at hp
    exact k v true _ m' (nn + 1) _ _ w' st hu hg hm hr hn (.inr ⟨rfl, rfl, rfl, hp, rfl, v2, rfl⟩)

/-- all that is laid, and where: one unit below lo, one below B, the rows said and done between -/
structure Lay (u b t g1 g2 u' b' t' g1' g2' lo2 lo lo3 B : Nat) : Prop where
  a : u < lo2 ∧ b < lo2 ∧ t < lo2 ∧ g1 < lo2 ∧ g2 < lo2
  b : (lo2 ≤ u' ∧ lo2 ≤ b' ∧ lo2 ≤ t' ∧ lo2 ≤ g1' ∧ lo2 ≤ g2') ∧ (u' < lo ∧ b' < lo ∧ t' < lo ∧ g1' < lo ∧ g2' < lo)
  o : lo2 ≤ lo ∧ lo ≤ lo3 ∧ lo3 ≤ B

structure PInv (u b t g1 g2 u' b' t' g1' g2' lo2 lo lo3 B : Nat) (G' : List (Int × Option Nat)) (vs vd : Value) (n : Nat) (w : World) (U : Un) (G : List (Int × Option Nat)) (m nn : Nat) (K : Kp) (S : List (Value × Rp)) (D : List Bool) (fl : Int) : Prop where
  hB : B ≤ w.heap.size
  u : UAt w u b t g1 g2 G U
  v : UAt w u' b' t' g1' g2' G' U
  ty : tyOk U
  gi : G[2]? = some (fl, some m)
  fl : fl = 0 ∨ fl = 1
  gs : Gst w B m nn K
  mm : m < lo2 ∨ B ≤ m
  s : OwnR EP w lo tRep vs S
  sb : ∀ q, vs.ownBlock = some q → lo ≤ q ∧ q < lo3
  d : OwnR EBo w lo3 4 vd D
  db : ∀ q, vd.ownBlock = some q → lo3 ≤ q ∧ q < B
  sl : S.length = n
  dl : D.length = n
  cnt : nn ≤ D.count true
  kd : ∀ k : Nat, D[k]? = some true → ∃ p q, K ((k : Int) + 1) = some p ∧ S[k]? = some q ∧ q.2 = p.2 ∧ RdB w q.1 q.2.d ∧ ∀ x, q.1.ownBlock = some x → B ≤ x
  kn : ∀ k : Nat, D[k]? = some false → K ((k : Int) + 1) = none

section
variable {u' b' t' g1' g2' lo2 lo lo3 B m nn n : Nat} {G' : List (Int × Option Nat)} {vs vd : Value} {K : Kp} {S : List (Value × Rp)} {D : List Bool} {fl : Int}

theorem PInv.grow (h : PInv u b t g1 g2 u' b' t' g1' g2' lo2 lo lo3 B G' vs vd n w U G m nn K S D fl) (g : Grow w w') : PInv u b t g1 g2 u' b' t' g1' g2' lo2 lo lo3 B G' vs vd n w' U G m nn K S D fl :=
  ⟨Nat.le_trans h.hB g.size, h.u.grow g, h.v.grow g, h.ty, h.gi, h.fl, h.gs.grow g, h.mm, h.s.grow g, h.sb, h.d.grow g, h.db, h.sl, h.dl, h.cnt, fun k hk => by
    obtain ⟨p, q, a1, a2, a3, a4, a5⟩ := h.kd k hk
    exact ⟨p, q, a1, a2, a3, Rd.grow a4 g, a5⟩, h.kn⟩

/-- a block that is none of these was turned -/
theorem PInv.turn {q : Nat} (L : Lay u b t g1 g2 u' b' t' g1' g2' lo2 lo lo3 B) (h : PInv u b t g1 g2 u' b' t' g1' g2' lo2 lo lo3 B G' vs vd n w U G m nn K S D fl) (tt : Turn q w w') (hq : B ≤ q) (hm : m ≠ q) (hk : ∀ (k : Nat) (p : Value × Rp), S[k]? = some p → p.1.ownBlock ≠ some q) (hd : ∀ x p, K x = some p → p.1.ownBlock ≠ some q) : PInv u b t g1 g2 u' b' t' g1' g2' lo2 lo lo3 B G' vs vd n w' U G m nn K S D fl := by
  have l1 := L.a
  have l2 := L.b
  have l3 := L.o
  refine ⟨by have := h.hB; have := tt.size; omega, h.u.turnN tt (by omega), h.v.turnN tt (by omega), h.ty, h.gi, h.fl, ⟨h.gs.mp.at (tt.block m hm), fun x p hp => ?_⟩, h.mm, h.s.stable (fun k hk => tt.block k (by have := h.sb k hk; omega)), h.sb, h.d.stable (fun k hk => tt.block k (by have := h.db k hk; omega)), h.db, h.sl, h.dl, h.cnt, fun k hk2 => ?_, h.kn⟩
  · obtain ⟨a1, a2, a3⟩ := h.gs.d x p hp
    exact ⟨Rd.turn a1 tt (hd x p hp), a2, a3⟩
  · obtain ⟨p, q', a1, a2, a3, a4, a5⟩ := h.kd k hk2
    exact ⟨p, q', a1, a2, a3, Rd.turn a4 tt (hk k q' a2), a5⟩
end

theorem count_set {D : List Bool} {k : Nat} (h : D[k]? = some false) : (D.set k true).count true = D.count true + 1 := by
  induction D generalizing k with
  | nil => simp at h
  | cons x D ih =>
    cases k with
    | zero => simp at h; subst h; simp
    | succ k => simp only [List.getElem?_cons_succ] at h; rw [List.set_cons_succ, List.count_cons, List.count_cons, ih h]; omega
theorem count_lt {D : List Bool} {k : Nat} (h : D[k]? = some false) : D.count true < D.length := by
  have h1 := count_set h
  have h2 := List.count_le_length (a := true) (l := D.set k true)
  rw [List.length_set] at h2
  omega

theorem rd_at {v : Value} {bs : List UInt8} (h : RdB w v bs) {i : Int} {n : Nat} (e : i = (n : Int)) (hi : n < bs.length) : ∃ a, sliceAt v i 1 = some a ∧ w.cell? a = some (.int .u8 ((bs.getD n 0).toNat : Int)) := by
  subst e
  obtain ⟨a, h1, h2⟩ := RdB.at h (i := (n : Int)) (by omega) (by omega)
  refine ⟨a, h1, ?_⟩
  rw [h2]
  simp [List.getD_eq_getElem?_getD, List.getElem?_eq_getElem hi]

theorem wf4 {k : Nat} (h : k < 4) : (Lit.int .u64 ((k : Int) + 1)).wf = true := by
  have : k = 0 ∨ k = 1 ∨ k = 2 ∨ k = 3 := by omega
  rcases this with rfl | rfl | rfl | rfl <;> rfl

theorem topPaths_s {W : World} (hE : Env W) {pv po : Value} {l : List Ak} {os : List UInt8} (hl : RdR EA W pv l) (hr : RdB W po os) :
    Go.CW.Spec Tryz.prog 4 #[pv, po] W (Law W) := by
  apply gemeltop_TopPaths_wp
  refine known_c hE fun w1 gw1 => ⟨_, rfl, cond_f rfl ?_⟩
  refine JoinP.bool (fun q w' => (q = false → l.length ≤ 4 ∧ os.length ≤ 40) ∧ w' = w1) (fun j hj => ⟨_, hl.len, cond_intro (fun h1 => hj _ _ ⟨fun e => (by cases e), rfl⟩) (fun h1 => ⟨_, RdB.len hr, hj _ _ ⟨fun e => ?_, rfl⟩⟩)⟩) ?_
  · simp at h1 e; omega
  rintro q w4 ⟨hq, rfl⟩
  refine cond_intro (fun _ => ⟨rfl, gw1⟩) (fun hq' => ?_)
  have h4 := (hq hq').1
  have h40 := (hq hq').2
  clear hq hq'
  have sW1 := gw1.size
  refine uNew_c (N := 32) (by omega) (by omega) fun u b t g1 g2 G w6 g6 hu hb ht hg1 hg2 ua na => ⟨_, _, rfl, ?_⟩
  refine uNew_c (N := 32) (by omega) (by omega) fun u' b' t' g1' g2' G' w10 g10 hu' hb' ht' hg1' hg2' va _ => ⟨_, _, rfl, ?_⟩
  obtain ⟨v14, w15, hm14, os14, gm14⟩ := mk_said (w := w10) l.length h4
  obtain ⟨v17, w18, hm17, od17, gm17⟩ := mk_done (w := w15) l.length h4
  refine ⟨_, hl.len, v14, w15, hm14, _, hl.len, v17, w18, hm17, ?_⟩
  have s6 := g6.size
  have s10 := g10.size
  have s15 := gm14.size
  have s18 := gm17.size
  have l1 : u < w6.heap.size ∧ b < w6.heap.size ∧ t < w6.heap.size ∧ g1 < w6.heap.size ∧ g2 < w6.heap.size := ⟨ua.o.lt, ua.sp.obj.lt, ua.tb.b.lt, ua.sp.dat.lt, ua.sp.map.lt⟩
  have l2 : u' < w10.heap.size ∧ b' < w10.heap.size ∧ t' < w10.heap.size ∧ g1' < w10.heap.size ∧ g2' < w10.heap.size := ⟨va.o.lt, va.sp.obj.lt, va.tb.b.lt, va.sp.dat.lt, va.sp.map.lt⟩
  have L : Lay u b t g1 g2 u' b' t' g1' g2' w6.heap.size w10.heap.size w15.heap.size w18.heap.size := ⟨l1, ⟨⟨hu', hb', ht', hg1', hg2'⟩, l2⟩, by omega⟩
  have hG2 : ∃ m0, G[2]? = some (0, some m0) ∧ w4.heap.size ≤ m0 ∧ w6.heap[m0]? = some (.map #[] 0) := by
    have hgl := ua.gl
    have hmem : G[2]'(by omega) ∈ G := List.getElem_mem _
    obtain ⟨e1, m0, e2, e3, e4⟩ := na _ hmem
    refine ⟨m0, ?_, e3, e4⟩
    rw [List.getElem?_eq_getElem (by omega)]
    rw [← e1, ← e2]
  obtain ⟨m0, hG2, hm0, hm0'⟩ := hG2
  have hm0lt : m0 < w6.heap.size := (Array.getElem?_eq_some_iff.1 hm0').1
  have g618 : Grow w6 w18 := (g10.then gm14).then gm17
  have mp0 : Mp Tryz.prog tU6 .u64 w6 m0 0 (doneF (fun _ => none)) := by
    have := Mp.made (P := Tryz.prog) (k := tU6) (q := .u64) w6
    obtain ⟨D, ⟨es, clock, hb, F, hs, hD⟩, h2⟩ := this
    have e : (w6.alloc (.map #[] 0)).heap[w6.heap.size]? = some (.map #[] 0) := by
      show (w6.heap.push _)[w6.heap.size]? = _
      simp
    rw [e] at hb
    cases hb
    exact ⟨D, ⟨#[], 0, hm0', F, hs, hD⟩, h2⟩
  have I0 : PInv u b t g1 g2 u' b' t' g1' g2' w6.heap.size w10.heap.size w15.heap.size w18.heap.size G' v14 v17 l.length w18 ⟨32, List.replicate (8 * 32) 0, List.replicate ((32 + 7) / 8) 0, newTb⟩ G m0 0 (fun _ => none) (List.replicate l.length (nilV, (⟨0, 0, 0, [], 0⟩ : Rp))) (List.replicate l.length false) 0 := by
    refine ⟨Nat.le_refl _, ua.grow g618, va.grow (gm14.then gm17), .inl rfl, hG2, .inl rfl, ⟨mp0.grow g618, fun x p hp => by cases hp⟩, .inl hm0lt, os14.grow gm17, fun q hq => os14.lt q hq, od17, fun q hq => od17.lt q hq, by simp, by simp, Nat.zero_le _, fun k hk => ?_, fun k _ => rfl⟩
    have := List.mem_of_getElem? hk
    simp at this
  have g18 : Grow W w18 := ((gw1.then g6).then g618)
  generalize hlo2 : w6.heap.size = lo2 at *
  generalize hlo : w10.heap.size = lo at *
  generalize hlo3 : w15.heap.size = lo3 at *
  generalize hB : w18.heap.size = B at *
  have hWu : W.heap.size ≤ u ∧ W.heap.size ≤ t ∧ W.heap.size ≤ g1 ∧ W.heap.size ≤ g2 ∧ W.heap.size ≤ lo2 ∧ W.heap.size ≤ B := by omega
  generalize hun : (⟨32, List.replicate (8 * 32) 0, List.replicate ((32 + 7) / 8) 0, newTb⟩ : Un) = U0 at *
  clear hun ua va na os14 od17 hm14 hm17 mp0 hG2 hm0' hlo2 hlo hlo3 hB hu hb ht hg1 hg2 hu' hb' ht' hg1' hg2' hm0 hm0lt g618 gm14 gm17 g10 g6
  refine ⟨fun (n : Int) (w' : World) => ∃ (i : Nat) (U : Un) (G : List (Int × Option Nat)) (m nn : Nat) (K : Kp) (S : List (Value × Rp)) (D : List Bool) (fl : Int), n = (i : Int) ∧ i ≤ os.length ∧ Grow W w' ∧ PInv u b t g1 g2 u' b' t' g1' g2' lo2 lo lo3 B G' v14 v17 l.length w' U G m nn K S D fl,
    fun (n : Int) (_ : World) => ((os.length : Int) - n).toNat, ⟨0, _, _, _, _, _, _, _, _, rfl, by omega, g18, I0⟩, ?_⟩
  clear I0 g18
  dsimp only [allR, mapR2, eqN, ltN]
  rintro m' n w21 ⟨⟨i, U, G, m, nn, K, S, D, fl, rfl, hi, gW, I⟩, hm'⟩
  refine JoinP.bool (fun q w' => (q = true → i < os.length ∧ 0 < l.length) ∧ w' = w21) (fun j hj => ⟨_, RdB.len hr, cond_intro (fun h1 => ⟨_, hl.len, hj _ _ ⟨fun e => ?_, rfl⟩⟩) (fun h1 => hj _ _ ⟨fun e => (by cases e), rfl⟩)⟩) ?_
  · simp at h1 e; omega
  rintro q w23 ⟨hq, rfl⟩
  refine cond_intro (fun hq' => ?_) (fun _ => ⟨rfl, gW⟩)
  obtain ⟨hio, hl0⟩ := hq hq'
  clear hq hq'
  obtain ⟨a24, ha24, hc24⟩ := rd_at (hr.grow gW) (i := (i : Int)) rfl hio
  refine ⟨a24, ha24, _, hc24, _, hl.len, nzK_intro (by omega) ?_⟩
  have hox := (os.getD i 0).toNat_lt
  have htm : Int.tmod (IntKind.wrap .i64 ((os.getD i 0).toNat : Int)) ((l.length : Nat) : Int) = (((os.getD i 0).toNat % l.length : Nat) : Int) := by
    rw [wi64_id (by omega) (by omega), Int.tmod_eq_emod_of_nonneg (by omega)]; omega
  rw [htm]
  have hkl : (os.getD i 0).toNat % l.length < l.length := Nat.mod_lt _ hl0
  generalize (os.getD i 0).toNat % l.length = k at *
  clear htm hox
  have hkid : IntKind.wrap .u64 (IntKind.wrap .i64 ((k : Int) + 1)) = (k : Int) + 1 := by rw [wi64_id (by omega) (by omega), w64_id (by omega) (by omega)]
  rw [hkid]
  generalize hc : plainC (l[k]).1 (l[k]).2.1 (l[k]).2.2 = c
  have sW := gW.size
  have hBw := I.hB
  have hok : CmOk U 2 c := hc ▸ plain_ok I.ty _ _ _ 2
  have hsh : (doU U 2 c).1.d.length ≤ 1000000000 := hc ▸ doU_short _ _ _ 2
  have hty : tyOk (doU U 2 c).2 := hc ▸ doU_ty I.ty _ _ _ 2
  refine JoinP.val (fun v w' => ∃ cb dv, v = .pointer (some ⟨cb, 0, none⟩) ∧ Grow w23 w' ∧ w23.heap.size ≤ cb ∧ BK w' cb (rCmd c dv) tCmd ∧ RdB w' dv c.d ∧ NewV w23 dv) (fun j hj => ?_) ?_
  · refine nm fun w89 e89 => ?_
    have g89 := drE e89
    obtain ⟨a, ha, h0, h1, h2⟩ := ea_at (hl.grow (gW.then g89)) (i := (k : Int)) rfl hkl
    refine ⟨a, ha, _, h0, a, ha, _, h1, a, ha, _, h2, nm fun w96 e96 => ?_⟩
    have g96 := drE e96
    obtain ⟨a', ha', h0', h1', h2'⟩ := ea_at (hl.grow (gW.then g96)) (i := (k : Int)) rfl hkl
    have eaa : a' = a := by rw [ha] at ha'; exact (Option.some.inj ha').symm
    subst eaa
    have keep : ∀ {w' : World} {x : Value} {j : Nat}, Grow w96 w' → w96.cell? (Addr.add a' j) = some x → w'.cell? (Addr.add a' j) = some x := fun g h => (g.cell (by have := World.block_lt_of_cell? _ _ h; simpa [add_block] using this)).trans h
    have z96 := g96.size
    refine ⟨plain_c fun dv w98 g98 r98 n98 => ?_, ?_⟩
    · rw [hc] at r98 ⊢
      have ga : Grow w98 (World.alloc w98 (.cells #[(.int .i64 (0 : Int)), (.int .i64 (0 : Int)), (.int .i64 (0 : Int)), (.slice none 0 0), (.int .u64 (0 : Int)), (.int .u64 (0 : Int)), (.int .i64 (0 : Int)), (.bool false)] tCmd)) := (alE rfl).2.1
      refine ⟨_, _, _, _, _, _, _, _, rfl, ⟨_, keep (g98.then ga) h0', rfl⟩, ⟨_, keep (g98.then ga) h1', rfl⟩, ⟨_, keep (g98.then ga) h2', rfl⟩, nm fun w110 e110 => nm fun w111 e111 => ?_⟩
      obtain ⟨b111, g111, s111⟩ := alE e111
      refine ⟨b111.row rfl (one_cmd (Rd.isOne r98)), nm fun w112 e112 => nm fun w113 e113 => ?_⟩
      obtain ⟨b113, t113⟩ := rowE b111 e113 rfl
      have z98 := g98.size
      refine hj _ _ ⟨_, dv, rfl, Below.turn ((g96.then g98).then g111) t113 (by omega), by omega, b113, ?_, n98.of z96⟩
      exact Rd.stepS (Rd.grow r98 g111) (t113.step (S := fun k => k = w98.heap.size) rfl) (fun hne q hq e => by have := Rd.lt r98 hne q hq; omega)
    · have ga : Grow w96 (World.alloc w96 (.cells #[(.int .i64 (0 : Int)), (.int .i64 (0 : Int)), (.int .i64 (0 : Int)), (.slice none 0 0), (.int .u64 (0 : Int)), (.int .u64 (0 : Int)), (.int .i64 (0 : Int)), (.bool false)] tCmd)) := (alE rfl).2.1
      refine ⟨⟨_, keep ga h0', rfl⟩, ⟨_, keep ga h1', rfl⟩, ⟨_, keep ga h2', rfl⟩, nm fun w117 e117 => nm fun w118 e118 => plain_c fun dv w120 g120 r120 n120 => ?_⟩
      rw [hc] at r120 ⊢
      obtain ⟨b118, g118, s118⟩ := alE e118
      have b120 := b118.grow g120
      refine ⟨_, _, _, _, _, _, _, _, rfl, b120.row rfl (one_cmd (Rd.isOne r120)), nm fun w129 e129 => nm fun w130 e130 => ?_⟩
      obtain ⟨b130, t130⟩ := rowE b120 e130 rfl
      refine hj _ _ ⟨_, dv, rfl, Below.turn ((g96.then g118).then g120) t130 (by omega), by omega, b130, ?_, n120.of (by omega)⟩
      exact Rd.turn r120 t130 (fun e => by have := n120 _ e; omega)
  rintro cv w28 ⟨cb, dv, rfl, g28, hcb, bc28, rc28, nc28⟩
  refine withAddr_some ⟨_, _, _, _, _, _, _, _, bc28.ld rfl, ?_⟩
  have I28 := I.grow g28
  have z28 := g28.size
  have gW28 := gW.then g28
  have sl := I.sl
  have dl := I.dl
  have La := L.a
  have Lb := L.b
  have Lo := L.o
  have hcl := List.count_le_length (a := true) (l := D)
  obtain ⟨dk, hdk⟩ : ∃ dk, D[k]? = some dk := ⟨_, List.getElem?_eq_getElem (by omega)⟩
  have hnone : K ((k : Int) + 1) = none → dk = false := by
    intro h
    cases dk with
    | false => rfl
    | true =>
      obtain ⟨p, _, hp, _⟩ := I.kd k hdk
      rw [h] at hp; cases hp
  refine Once_p (i := 2) (fl := fl) I28.u (by omega) I28.gi I28.fl I28.gs (Nat.le_trans I.cnt (by omega)) (fun h => ?_) (by omega) I28.hB (wf4 (by omega)) (by omega) hok rc28 (fun e => by have := nc28 _ e; omega) (fun q hq => by have := nc28 _ hq; omega) hsh fun v39 fresh r m2 nn2 K2 U2 w39 st39 u39 gs39 hm2 r39 n39 hpost => ?_
  · have e := hnone h
    subst e
    have := count_lt hdk
    have := I.cnt
    omega
  have nFO : ∀ x, lo2 ≤ x → ¬ FO u t g1 g2 x := fun x hx hf => by rcases hf with e | e | e | e <;> omega
  have z39 := st39.size
  have v39u := I28.v.stepF st39 (nFO _ (by omega)) (nFO _ (by omega)) (nFO _ (by omega)) (nFO _ (by omega)) (nFO _ (by omega))
  have s39 : OwnR EP w39 lo tRep v14 S := I28.s.stable fun q hq => st39.block q (I28.s.lt q hq).2 (nFO q (by have := I.sb q hq; omega))
  have d39 : OwnR EBo w39 lo3 4 v17 D := I28.d.stable fun q hq => st39.block q (I28.d.lt q hq).2 (nFO q (by have := I.db q hq; omega))
  have kd39 : ∀ k : Nat, D[k]? = some true → ∃ p q, K ((k : Int) + 1) = some p ∧ S[k]? = some q ∧ q.2 = p.2 ∧ RdB w39 q.1 q.2.d ∧ ∀ x, q.1.ownBlock = some x → B ≤ x := by
    intro k hk
    obtain ⟨p, q, a1, a2, a3, a4, a5⟩ := I28.kd k hk
    exact ⟨p, q, a1, a2, a3, Rd.stepS a4 st39 (fun _ x hx => nFO x (by have := a5 x hx; omega)), a5⟩
  have bc39 := bc28.stepS st39 (nFO _ (by omega))
  have rc39 : RdB w39 dv c.d := Rd.stepS rc28 st39 (fun _ x hx => nFO x (by have := nc28 x hx; omega))
  have gW39 : Grow W w39 := gW28.trans (st39.to_below gW28.size (fun x hx => by rcases hx with e | e | e | e <;> omega))
  refine ⟨_, _, _, _, _, _, rfl, nm fun w46 e46 => ?_⟩
  obtain ⟨b46, g46, s46⟩ := alE e46
  refine ⟨b46.row rfl (one_rep (Rd.isOne r39)), nm fun w47 e47 => ?_⟩
  obtain ⟨b47, t47⟩ := rowE b46 e47 rfl
  have g47 : Grow w39 w47 := Below.turn g46 t47 (Nat.le_refl _)
  have z47 := g47.size
  have d47 := d39.grow g47
  obtain ⟨a48, ha48, hc48, _⟩ := d47.rd.at (i := (k : Int)) (by omega) (by omega)
  have hDk : D[k]'(by omega) = dk := by rw [List.getElem?_eq_getElem (by omega)] at hdk; exact Option.some.inj hdk
  have hc48' := hc48 0 (by show 0 < 1; omega)
  rw [add_zero] at hc48'
  refine ⟨a48, ha48, dk, hc48'.trans (by simp [EBo, hDk]), ?_⟩
  have gW47 := gW39.then g47
  have r47 : RdB w47 v39 r.d := Rd.grow r39 g47
  have hgl : (G.set 2 ((1 : Int), some m2))[2]? = some (1, some m2) := by rw [List.getElem?_set_self (by have := I.u.gl; omega)]
  refine cond_f ?_ (JoinP.unit (fun w50 => ∃ U3 G3 m3 nn3 K3 S3 D3 q, Grow W w50 ∧ PInv u b t g1 g2 u' b' t' g1' g2' lo2 lo lo3 B G' v14 v17 l.length w50 U3 G3 m3 nn3 K3 S3 D3 1 ∧ BK w50 w39.heap.size (rRep r.st r.key r.code v39 r.info) tRep ∧ RdB w50 v39 r.d ∧ S3[k]? = some (q, r) ∧ RdB w50 q r.d) (fun j hj => ?_) (fun w50 hQ => ?_))
  · rcases hpost with ⟨rfl, _, _, _, p, hp, _⟩ | ⟨rfl, _, _, hp, _⟩
    · cases dk with
      | true => rfl
      | false => rw [I.kn k hdk] at hp; cases hp
    · rw [hnone hp]; rfl
  · rcases hpost with ⟨rfl, rfl, rfl, rfl, p, hp, rfl⟩ | ⟨rfl, rfl, rfl, hp, rfl, v2, rfl⟩
    · refine cond_f rfl (hj _ ?_)
      have hdt : dk = true := by
        cases dk with
        | true => rfl
        | false => rw [I.kn k hdk] at hp; cases hp
      subst hdt
      obtain ⟨p', q, a1, a2, a3, a4, a5⟩ := kd39 k hdk
      rw [hp] at a1
      cases a1
      refine ⟨U2, G.set 2 ((1 : Int), some m2), m2, nn2, keepK K 1, S, D, q.1, gW47, ?_, b47, r47, ?_, ?_⟩
      · exact ⟨by have := I28.hB; omega, u39.grow g47, v39u.grow g47, I.ty, hgl, .inr rfl, gs39.grow g47, .inr hm2, s39.grow g47, I.sb, d39.grow g47, I.db, sl, dl, I.cnt, fun k hk => by
          obtain ⟨p, q, a1, a2, a3, a4, a5⟩ := kd39 k hk
          exact ⟨p, q, by rw [keep_at K (by omega)]; exact a1, a2, a3, Rd.grow a4 g47, a5⟩, fun k hk => by rw [keep_at K (by omega)]; exact I.kn k hk⟩
      · rw [a2, ← a3]
      · rw [← a3]; exact Rd.grow a4 g47
    · have e := hnone hp
      subst e
      refine cond_t rfl (withAddr_some ⟨_, _, _, _, _, _, _, _, (bc39.grow g47).ld rfl, ?_⟩)
      refine Do_c (v39u.grow g47) (i := 2) (by omega) hok (Rd.grow rc39 g47) fun v77 w78 st78 v78u rp78 => ?_
      obtain ⟨d77, rfl, r77, n77⟩ := rp78
      have nFU : ∀ x, x < lo2 ∨ lo ≤ x → ¬ FU t' g1' g2' x := fun x hx hf => by rcases hf with e | e | e <;> omega
      have z78 := st78.size
      have u78 := (u39.grow g47).stepF st78 (nFU _ (by omega)) (nFU _ (by omega)) (nFU _ (by omega)) (nFU _ (by omega)) (nFU _ (by omega))
      have gs78 := (gs39.grow g47).stepS st78 (nFU _ (by omega)) (fun x hx _ => nFU x (by omega))
      have s78 : OwnR EP w78 lo tRep v14 S := (s39.grow g47).stable fun q hq => st78.block q ((s39.grow g47).lt q hq).2 (nFU q (by have := I.sb q hq; omega))
      have d78 : OwnR EBo w78 lo3 4 v17 D := (d39.grow g47).stable fun q hq => st78.block q ((d39.grow g47).lt q hq).2 (nFU q (by have := I.db q hq; omega))
      have b78 := b47.stepS st78 (nFU _ (by have := I28.hB; omega))
      have r78 : RdB w78 v39 (doU U 2 c).1.d := Rd.stepS r47 st78 (fun _ x hx => nFU x (by have := n39 x hx; omega))
      have gW78 : Grow W w78 := gW47.trans (st78.to_below gW47.size (fun x hx => by rcases hx with e | e | e <;> omega))
      refine ⟨_, _, _, _, _, rfl, ?_⟩
      generalize hrr : (doU U 2 c).1 = r at *
      obtain ⟨a84, ha84, hab84, _, _, hput84, _⟩ := s78.put (i := (k : Int)) (by omega) (by omega)
      obtain ⟨hst84, s85⟩ := hput84 (d77, r)
      have he : (EP.enc (d77, r)).toArray = #[.int .i64 r.st, .int .i64 r.key, .int .i64 r.code, d77, .int .i64 r.info] := by
        have h1 : isOne d77 = true := Rd.isOne r77
        simp [EP, h1]
      rw [he] at hst84 s85
      refine ⟨a84, ha84, hst84, nm fun w85 e85 => ?_⟩
      rw [← e85] at s85
      have t85 : Turn a84.block w78 w85 := by rw [e85]; exact Turn.row _ _ _
      have hb84 := I.sb _ hab84
      have d85 : OwnR EBo w85 lo3 4 v17 D := d78.stable fun q hq => t85.block q (by have := I.db q hq; omega)
      obtain ⟨a86, ha86, hab86, _, _, _, hput86⟩ := d85.put (i := (k : Int)) (by omega) (by omega)
      obtain ⟨hst86, d87⟩ := hput86 0 (by show 0 < 1; omega)
      rw [add_zero] at hst86 d87
      refine ⟨a86, ha86, hst86, nm fun w87 e87 => hj _ ?_⟩
      have d87 := d87 (.bool true) true rfl
      rw [← e87] at d87
      have t87 : Turn a86.block w85 w87 := by rw [e87]; exact Turn.set _ _ _
      have hb86 := I.db _ hab86
      have z87 : w87.heap.size = w78.heap.size := by have := t85.size; have := t87.size; omega
      have rd2 : ∀ {v : Value} {bs : List UInt8}, RdB w78 v bs → (∀ x, v.ownBlock = some x → B ≤ x) → RdB w87 v bs := fun h hb => Rd.turn (Rd.turn h t85 (fun e => by have := hb _ e; omega)) t87 (fun e => by have := hb _ e; omega)
      have rd1 : ∀ {v : Value} {bs : List UInt8}, RdB w39 v bs → (∀ x, v.ownBlock = some x → B ≤ x) → RdB w87 v bs := fun h hb => rd2 (Rd.stepS (Rd.grow h g47) st78 (fun _ x hx => nFU x (by have := hb x hx; omega))) hb
      have n77B : ∀ x, d77.ownBlock = some x → B ≤ x := fun x hx => by have := n77 x hx; have := I28.hB; omega
      have hkS : k < S.length := by omega
      simp only [Int.toNat_natCast] at s85 d87
      refine ⟨(doU U 2 c).2, G.set 2 ((1 : Int), some m2), m2, nn + 1, putK (keepK K 1) ((k : Int) + 1) (v2, r), S.set k (d77, r), D.set k true, d77, Below.turn (Below.turn gW78 t85 (by omega)) t87 (by omega), ?_, (b78.turn t85 (by have := I28.hB; omega)).turn t87 (by have := I28.hB; omega), rd2 r78 (fun x hx => by have := n39 x hx; have := I28.hB; omega), by rw [List.getElem?_set_self hkS], rd2 r77 n77B⟩
      refine ⟨by have := I28.hB; omega, (u78.turnN t85 (by omega)).turnN t87 (by omega), (v78u.turnN t85 (by omega)).turnN t87 (by omega), hty, hgl, .inr rfl, ?_, .inr hm2, s85.stable fun q hq => t87.block q (by have := I.sb q hq; omega), I.sb, d87, I.db, by rw [List.length_set]; exact sl, by rw [List.length_set]; exact dl, by rw [count_set hdk]; have := I.cnt; omega, fun x hx => ?_, fun x hx => ?_⟩
      · exact (gs78.stepS (t85.step (S := fun k => k = a84.block) rfl) (by omega) (fun x _ _ => by omega)).stepS (t87.step (S := fun k => k = a86.block) rfl) (by omega) (fun x _ _ => by omega)
      · by_cases hxk : x = k
        · subst hxk
          exact ⟨(v2, r), (d77, r), by unfold putK; rw [if_pos rfl], by rw [List.getElem?_set_self hkS], rfl, rd2 r77 n77B, n77B⟩
        · rw [List.getElem?_set_ne (by omega)] at hx
          obtain ⟨p, q, a1, a2, a3, a4, a5⟩ := kd39 x hx
          exact ⟨p, q, by unfold putK; rw [if_neg (by omega), keep_at K (by omega)]; exact a1, by rw [List.getElem?_set_ne (by omega)]; exact a2, a3, rd1 a4 a5, a5⟩
      · by_cases hxk : x = k
        · subst hxk
          rw [List.getElem?_set_self (by omega)] at hx; cases hx
        · rw [List.getElem?_set_ne (by omega)] at hx
          unfold putK
          rw [if_neg (by omega), keep_at K (by omega)]
          exact I.kn x hx
  · obtain ⟨U3, G3, m3, nn3, K3, S3, D3, q, gW50, I50, b50, r50, hq, rq⟩ := hQ
    refine nm fun w51 e51 => ?_
    have g51 := drE e51
    have s51 := I50.s.grow g51
    have hkS : k < S3.length := by rw [I50.sl]; exact hkl
    obtain ⟨a57, ha57, hc57, _⟩ := s51.rd.at (i := (k : Int)) (by omega) (by omega)
    have hSk : S3[k] = (q, r) := by rw [List.getElem?_eq_getElem hkS] at hq; exact Option.some.inj hq
    simp only [Int.toNat_natCast, hSk] at hc57
    have hone : isOne q = true := Rd.isOne rq
    have hld : ldCells w51 a57 5 #[.int .i64 r.st, .int .i64 r.key, .int .i64 r.code, q, .int .i64 r.info] := by
      have := ldCells_of (n := 5) (vs := EP.enc (q, r)) rfl hc57
      simpa [EP, hone] using this
    refine ⟨_, _, _, _, _, (b50.grow g51).ld rfl, a57, ha57, _, _, _, _, _, hld, nm fun w63 e63 => ?_⟩
    have g63 := drE e63
    refine same_c (r := r) (Rd.grow r50 g63) (Rd.grow rq g63) fun w65 g65 => ⟨_, rfl, cond_f rfl ?_⟩
    rw [wi64_id (by omega) (by omega)]
    exact ⟨⟨i + 1, U3, G3, m3, nn3, K3, S3, D3, 1, by omega, by omega, (gW50.then g63).then g65, (I50.grow g63).grow g65⟩, by omega⟩

end Go.Proofs.YtghineciiljeoaaGreatDoor
