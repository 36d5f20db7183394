/- Texts of this seat, one behind the other: OncP, OncA, OncS. -/
import Derived.Test.YtghineciiljeoaaGreatDoorQLuA
import Derived.Test.YtghineciiljeoaaGreatDoorQMap
set_option linter.unusedSimpArgs false
set_option linter.unusedVariables false
set_option maxRecDepth 100000
namespace Go.Proofs.YtghineciiljeoaaGreatDoor
section
open Go Go.CW Go.RowKit
variable {w w' : World}
theorem app_anyO {v src : Value} {bs cs : List UInt8} (hv : RdB w v bs) (hf : Ful v) (hr : RdB w src cs) (hne : cs ≠ []) (hb : bs.length + cs.length ≤ 1000000000) :
 ∃ v' w', Sem.run Tryz.prog (Builtin.append_ #[tB, tB] tB #[v, src]) w = .ok v' w' ∧ RdB w' v' (bs ++ cs) ∧ Grow w w' ∧ NewV w v' := by
 obtain ⟨v', w', h1, h2, h3⟩ := app_ful tyB hv hf hr (fun u hu => by obtain ⟨c, _, rfl⟩ := List.mem_map.1 hu; rfl) (by simpa using hne) (by simp; omega)
 refine ⟨v', w', h1, ?_, h3, fun q hq => (Own.blk h2) q hq⟩
 have := h2.rd
 rw [← List.map_append] at this; exact this
theorem one_f {x : UInt8} {R : KV} (k : ∀ v w', Grow w w' → RdB w' v (List.replicate 8 x) → NewV w v → Ful v → R v w') : CW.Spec Tryz.prog 55 #[.int .u8 (x.toNat : Int)] w R := by
 apply q33W
 refine ⟨_, _, row_made (by kernel_rfl) 8 (by omega), ?_⟩
 have ga := Grow.al (Grow.refl w) (.cells ((List.replicate 8 (0 : UInt8)).map b8).toArray tb)
 have ra : RB (w.alloc (.cells ((List.replicate 8 (0 : UInt8)).map b8).toArray tb)) w.heap.size (List.replicate 8 0) := RB.new _
 generalize w.alloc (.cells ((List.replicate 8 (0 : UInt8)).map b8).toArray tb) = wa at *
 refine ⟨fun (n : Int) (w' : World) => ∃ i : Nat, n = (i : Int) ∧ i ≤ 8 ∧ Grow w w' ∧ RB w' w.heap.size (List.replicate i x ++ List.replicate (8 - i) 0), fun (n : Int) (_ : World) => ((8 : Int) - n).toNat, ⟨0, rfl, by omega, ga, ra⟩, ?_⟩
 dsimp only [allR, mapR2, eqN, ltN]
 rintro m n w' ⟨⟨i, rfl, hi, g, r⟩, hm⟩
 refine cond_intro (fun hc => ?_) (fun hc => ?_)
 · have hlt : i < 8 := by simp at hc; omega
   refine ⟨_, rv_at hlt, r.st1 (by simp; omega), nm fun w6 e6 => ?_⟩
   have e6' : w6 = World.setCell w' (Addr.add ⟨w.heap.size, 0, none⟩ i) (.int .u8 (x.toNat : Int)) := by rw [ad0]; exact e6
   obtain ⟨b6, t6⟩ := setE r e6'
   rw [wi64_id (by omega) (by omega)]
   refine ⟨⟨i + 1, by omega, by omega, Below.turn g t6 (Nat.le_refl _), ?_⟩, by omega⟩
   have : ((List.replicate i x ++ List.replicate (8 - i) 0).map b8).toArray.setIfInBounds i (.int .u8 (x.toNat : Int)) = ((List.replicate (i + 1) x ++ List.replicate (8 - (i + 1)) 0).map b8).toArray := by
    have e8 : 8 - i = (8 - (i + 1)) + 1 := by omega
    rw [e8, List.replicate_succ]
    simp only [List.setIfInBounds_toArray]
    congr 1
    rw [List.map_append, List.set_append_right _ _ (by simp)]
    simp [List.replicate_succ', b8]
   rw [this] at b6
   exact b6
 · have he : i = 8 := by simp at hc; omega
   subst he
   have rd := r.rd (by simp [maxLen])
   have e : List.replicate 8 x ++ List.replicate (8 - 8) (0 : UInt8) = List.replicate 8 x := by simp
   rw [e] at rd
   exact k _ _ g rd (fun q hq => by cases hq; exact Nat.le_refl _) (Ful.mk _ _)
def plainC (n a b : UInt8) : Cm :=
 if n.toNat % 8 = 0 ∨ n.toNat % 8 = 1 then ⟨3, a.toNat % 32, 1, 0, 0, 0, false, List.replicate 8 b⟩
 else if n.toNat % 8 = 2 then ⟨2, a.toNat % 32, 1, 0, 0, 0, false, []⟩
 else if n.toNat % 8 = 3 then ⟨6, a.toNat % 32, 1, 0, 0, 0, false, List.replicate 8 (b &&& 1) ++ List.replicate 8 b⟩
 else if n.toNat % 8 = 4 then ⟨5, a.toNat % 32, 1, 0, 0, 0, false, []⟩
 else if n.toNat % 8 = 5 then ⟨11, 0, 0, 0, (b.toNat : Int), 0, false, []⟩
 else if n.toNat % 8 = 6 then ⟨12, 0, 0, (b.toNat : Int), 0, 1, false, []⟩
 else ⟨16, 0, 0, 0, 0, 0, false, []⟩
theorem and31_all : ∀ c : Fin 256, bitsI .and .u8 (c.val : Int) 31 = ((c.val % 32 : Nat) : Int) := by decide +kernel
theorem and31 (c : UInt8) : bitsI .and .u8 (c.toNat : Int) (31 : Int) = ((c.toNat % 32 : Nat) : Int) := and31_all ⟨c.toNat, c.toNat_lt⟩
theorem andb1_all : ∀ c : Fin 256, bitsI .and .u8 (c.val : Int) 1 = (((UInt8.ofNat c.val) &&& 1).toNat : Int) := by decide +kernel
theorem andb1 (c : UInt8) : bitsI .and .u8 (c.toNat : Int) (1 : Int) = ((c &&& 1).toNat : Int) := by
 have := andb1_all ⟨c.toNat, c.toNat_lt⟩
 simpa using this
theorem retC {b : Nat} {cs : Array Value} {c : Cm} {d : Value} {G : Int → Int → Int → Value → Int → Int → Int → Bool → World → Prop} (bk : BK w b cs tCmd) (hs : cs.size = 8) (ho : isOne d = true)
 (k : ∀ w', Turn b w w' → G c.kind (c.pos : Int) (c.n : Int) d c.key c.new c.typ c.force w') :
 (StRow w ⟨b, 0, none⟩ (rCmd c d)) ∧ bindW (stRow w ⟨b, 0, none⟩ (rCmd c d)) fun w' =>
 ∃ (n0 : Int) (n1 : Int) (n2 : Int) (v3 : Value) (n4 : Int) (n5 : Int) (n6 : Int) (b7 : Bool), (ldCells w' ⟨b, 0, none⟩ 8 #[.int .i64 n0, .int .i64 n1, .int .i64 n2, v3, .int .u64 n4, .int .u64 n5, .int .i64 n6, .bool b7]) ∧ G n0 n1 n2 v3 n4 n5 n6 b7 w' := by
 refine ⟨bk.row (by rw [hs]; rfl) (by cases d <;> first | rfl | (exact absurd ho (by decide)) | (simp [isOne] at ho)), nm fun w' e => ?_⟩
 obtain ⟨b', t'⟩ := rowE bk e (by rw [hs]; rfl)
 exact ⟨_, _, _, _, _, _, _, _, b'.ld rfl, k w' t'⟩
theorem plain_c {n a b : UInt8} {R : KV} (k : ∀ dv w', Grow w w' → RdB w' dv (plainC n a b).d → NewV w dv → R (.agg (rCmd (plainC n a b) dv)) w') :
 CW.Spec Tryz.prog 13 #[.int .u8 (n.toNat : Int), .int .u8 (a.toNat : Int), .int .u8 (b.toNat : Int)] w R := by
 apply q34W
 refine nm fun w0 e0 => ?_
 obtain ⟨b0, g0, s0⟩ := alE e0
 have hn : Int.tmod (n.toNat : Int) (8 : Int) = ((n.toNat % 8 : Nat) : Int) := by rw [Int.tmod_eq_emod_of_nonneg (by omega)]; omega
 have hb := b.toNat_lt
 have ha : IntKind.wrap .i64 (bitsI .and .u8 (a.toNat : Int) (31 : Int)) = ((a.toNat % 32 : Nat) : Int) := by rw [and31, wi64_id (by omega) (by omega)]
 have hb64 : IntKind.wrap .u64 (b.toNat : Int) = (b.toNat : Int) := w64_id (by omega) (by omega)
 rw [hn, ha, hb64, andb1]
 have nilN : ∀ {c : Cm}, c.d = [] → (∀ dv w', Grow w w' → RdB w' dv c.d → NewV w dv → R (.agg (rCmd c dv)) w') → ∀ w' , Turn w.heap.size w0 w' → R (.agg (rCmd c nilV)) w' := fun hd kk w' t' => kk nilV w' (Below.turn g0 t' (Nat.le_refl _)) (by rw [hd]; exact Rd.nil _) (fun q hq => by cases hq)
 generalize hm : n.toNat % 8 = m at *
 refine JoinP.bool (fun q w' => q = decide (m = 0 ∨ m = 1) ∧ w' = w0) (fun j hj => cond_intro (fun h => hj _ _ ⟨?_, rfl⟩) (fun h => hj _ _ ⟨?_, rfl⟩)) ?_
 · have : m = 0 := by simp at h; omega
   simp [this]
 · have : ¬ m = 0 := by simp at h; omega
   rw [Bool.eq_iff_iff]; simp; omega
 rintro q w2 ⟨rfl, rfl⟩
 unfold plainC at k
 rw [hm] at k
 refine cond_intro (fun h => ?_) (fun h => ?_)
 · have h' : m = 0 ∨ m = 1 := by simpa using h
   rw [if_pos h'] at k
   refine one_f fun v3 w4 g4 r4 n4 f4 => oneK_of (Rd.isOne r4) ?_
   refine retC (c := ⟨3, a.toNat % 32, 1, 0, 0, 0, false, List.replicate 8 b⟩) (b0.grow g4) rfl (Rd.isOne r4) fun w5 t5 => ?_
   have hne : v3.ownBlock ≠ some w.heap.size := fun e => by have := n4 _ e; omega
   exact k v3 w5 (Below.turn (g0.then g4) t5 (Nat.le_refl _)) (Rd.turn r4 t5 hne) (n4.of g0.size)
 · have h' : ¬ (m = 0 ∨ m = 1) := by simpa using h
   rw [if_neg h'] at k
   refine cond_intro (fun h2 => ?_) (fun h2 => ?_)
   · have h2' : m = 2 := by simp at h2; omega
     rw [if_pos h2'] at k
     exact retC (c := ⟨2, a.toNat % 32, 1, 0, 0, 0, false, []⟩) b0 rfl rfl (nilN rfl k)
   have h2' : ¬ m = 2 := by simp at h2; omega
   rw [if_neg h2'] at k
   refine cond_intro (fun h3 => ?_) (fun h3 => ?_)
   · have h3' : m = 3 := by simp at h3; omega
     rw [if_pos h3'] at k
     refine one_f fun v3 w4 g4 r4 n4 f4 => one_f fun v5 w6 g6 r6 n6 f6 => ?_
     obtain ⟨v7, w7, hrun, r7, g7, n7⟩ := app_anyO (r4.grow g6) f4 r6 (by simp) (by simp)
     refine ⟨v7, w7, hrun, oneK_of (Rd.isOne r7) ?_⟩
     have gg := (g4.then g6).then g7
     refine retC (c := ⟨6, a.toNat % 32, 1, 0, 0, 0, false, List.replicate 8 (b &&& 1) ++ List.replicate 8 b⟩) (b0.grow gg) rfl (Rd.isOne r7) fun w8 t8 => ?_
     have s4 := g4.size
     have s6 := g6.size
     have hne : v7.ownBlock ≠ some w.heap.size := fun e => by have := n7 _ e; omega
     exact k v7 w8 (Below.turn (g0.then gg) t8 (Nat.le_refl _)) (Rd.turn r7 t8 hne) (n7.of (by omega))
   have h3' : ¬ m = 3 := by simp at h3; omega
   rw [if_neg h3'] at k
   refine cond_intro (fun h4 => ?_) (fun h4 => ?_)
   · have h4' : m = 4 := by simp at h4; omega
     rw [if_pos h4'] at k
     exact retC (c := ⟨5, a.toNat % 32, 1, 0, 0, 0, false, []⟩) b0 rfl rfl (nilN rfl k)
   have h4' : ¬ m = 4 := by simp at h4; omega
   rw [if_neg h4'] at k
   refine cond_intro (fun h5 => ?_) (fun h5 => ?_)
   · have h5' : m = 5 := by simp at h5; omega
     rw [if_pos h5'] at k
     exact retC (c := ⟨11, 0, 0, 0, (b.toNat : Int), 0, false, []⟩) b0 rfl rfl (nilN rfl k)
   have h5' : ¬ m = 5 := by simp at h5; omega
   rw [if_neg h5'] at k
   refine cond_intro (fun h6 => ?_) (fun h6 => ?_)
   · have h6' : m = 6 := by simp at h6; omega
     rw [if_pos h6'] at k
     exact retC (c := ⟨12, 0, 0, (b.toNat : Int), 0, 1, false, []⟩) b0 rfl rfl (nilN rfl k)
   have h6' : ¬ m = 6 := by simp at h6; omega
   rw [if_neg h6'] at k
   exact retC (c := ⟨16, 0, 0, 0, 0, 0, false, []⟩) b0 rfl rfl (nilN rfl k)
theorem apart_c {x0 x1 x2 x4 : Int} {v : Value} {bs : List UInt8} (hr : RdB w v bs) (hb : bs.length ≤ 1000000000) {R : KV} (k : ∀ v' w', Grow w w' → RdB w' v' bs → NewV w v' → R (.agg (rRep x0 x1 x2 v' x4)) w') :
 CW.Spec Tryz.prog 77 #[.agg (rRep x0 x1 x2 v x4)] w R := by
 apply q45W
 refine nm fun w0 e0 => ?_
 obtain ⟨b0, g0, s0⟩ := alE e0
 refine nm fun w1 e1 => ?_
 obtain ⟨b1, g1, s1⟩ := alE e1
 have b01 := b0.grow g1
 have g01 := g0.then g1
 refine ⟨v, by rw [b01.cell]; rfl, slices_Clone_c (hr.grow g01) (by omega) fun v3 w4 g4 o4 => slices_Clip_c o4.rd fun v5 r5 e5 => ?_⟩
 have b4 := b01.grow g4
 refine oneK_of (Rd.isOne r5) ⟨st1_at b4 (by show 3 < 5; omega), nm fun w7 e7 => ?_⟩
 obtain ⟨b7, t7⟩ := setE b4 e7
 have n5 : NewV w1 v5 := fun q hq => (Own.blk o4) q (e5 ▸ hq)
 have hne : v5.ownBlock ≠ some w.heap.size := fun e => by have := n5 _ e; omega
 have hne0 : v5.ownBlock ≠ some w0.heap.size := fun e => by have := n5 _ e; omega
 have b7' := (b1.grow g4).turn t7 (by omega)
 refine ⟨_, _, _, _, _, b7.ld rfl, ret5 b7' rfl (Rd.isOne r5) fun w13 _ t13 => ?_⟩
 have g13 : Grow w w13 := Below.turn (Below.turn (g01.then g4) t7 (Nat.le_refl _)) t13 (by omega)
 exact k v5 w13 g13 (Rd.turn (Rd.turn r5 t7 hne) t13 hne0) (n5.of g01.size)
theorem same_c {r : Rp} {v u : Value} (hv : RdB w v r.d) (hu : RdB w u r.d) {R : KV} (k : ∀ w', Grow w w' → R (.bool true) w') :
 CW.Spec Tryz.prog 21 #[.agg (rRep r.st r.key r.code v r.info), .agg (rRep r.st r.key r.code u r.info)] w R := by
 apply q35W
 refine nm fun w0 e0 => ?_
 obtain ⟨b0, g0, s0⟩ := alE e0
 refine nm fun w1 e1 => ?_
 obtain ⟨b1, g1, s1⟩ := alE e1
 have b01 := b0.grow g1
 have g01 := g0.then g1
 refine JoinP.bool (fun b w' => b = true ∧ w' = w1) (fun j hj => ?_) (fun b w' ⟨e1, e2⟩ => by subst e1 e2; exact k _ g01)
 refine ⟨_, by rw [b01.cell]; rfl, _, by rw [b1.cell]; rfl, cond_t (by simp) ⟨_, by rw [b01.cell]; rfl, _, by rw [b1.cell]; rfl, cond_t (by simp) ⟨_, by rw [b01.cell]; rfl, _, by rw [b1.cell]; rfl, cond_t (by simp) ⟨_, by rw [b01.cell]; rfl, _, by rw [b1.cell]; rfl, cond_t (by simp) ⟨v, by rw [b01.cell]; rfl, _, to_text (hv.grow g01), u, by rw [b1.cell]; rfl, _, to_text (hu.grow g01), hj _ _ ⟨by simp, rfl⟩⟩⟩⟩⟩⟩
end
section
section
open Go Go.CW Go.RowKit
variable {w w' : World} {u b t g1 g2 : Nat} {G : List (Int × Option Nat)} {U : Un}
abbrev tU6 : TypeId := 38
abbrev tMr : TypeId := 155
theorem undU6 : Tryz.prog.underlying tU6 = some (.int .u64) := by kernel_rfl
theorem undMr : Tryz.prog.underlying tMr = some (.map tU6 tRep) := by kernel_rfl
abbrev Kp := Int → Option (Value × Rp)
def repV (p : Value × Rp) : Value := .agg (rRep p.2.st p.2.key p.2.code p.1 p.2.info)
def doneF (K : Kp) : Int → Option Value := fun x => (K x).map repV
structure Gst (w : World) (B m nn : Nat) (K : Kp) : Prop where
 mp : Mp Tryz.prog tU6 .u64 w m nn (doneF K)
 d : ∀ x p, K x = some p → RdB w p.1 p.2.d ∧ p.2.d.length ≤ 1000000000 ∧ ∀ q, p.1.ownBlock = some q → B ≤ q
abbrev FO (u t g1 g2 : Nat) : Fp := fun k => k = u ∨ k = t ∨ k = g1 ∨ k = g2
theorem flat_set1 : ∀ (G : List (Int × Option Nat)) (i : Nat) (hi : i < G.length) (x : Int), (EG.flat G).set (i * 3 + 1) (.int .u64 x) = EG.flat (G.set i (x, G[i].2))
 | g :: G, 0, _, x => rfl
 | g :: G, i + 1, hi, x => by
   have e : (i + 1) * 3 + 1 = (EG.enc g).length + (i * 3 + 1) := by rw [EG.len]; show (i + 1) * 3 + 1 = 3 + (i * 3 + 1); omega
   rw [Enc.flat_cons, e, List.set_append_right _ _ (by omega), Nat.add_sub_cancel_left, flat_set1 G i (by simpa using hi) x]
   rfl
theorem rU_set1 {i : Nat} (hi : i < G.length) (x : Int) : (rU b t G).setIfInBounds (2 + i * 3 + 1) (.int .u64 x) = rU b t (G.set i (x, G[i].2)) := by
 simp only [rU, List.setIfInBounds_toArray]
 congr 1
 rw [List.set_append_right _ _ (by show 2 ≤ 2 + i * 3 + 1; omega)]
 have e : 2 + i * 3 + 1 - [Value.pointer (some ⟨b, 0, none⟩), Value.pointer (some ⟨t, 0, none⟩)].length = i * 3 + 1 := by show 2 + i * 3 + 1 - 2 = i * 3 + 1; omega
 rw [e, flat_set1 G i hi x]
theorem UAt.gcell (h : UAt w u b t g1 g2 G U) {i j : Nat} (hi : i < 8) (hj : j < 3) : w.cell? (Addr.add (Addr.add (Addr.add ⟨u, 0, none⟩ 2) (Int.toNat (i : Int) * 3)) j) = (EG.enc (G[i]'(by rw [h.gl]; exact hi)))[j]? := by
 rw [add_add, add_add, h.o.cell]
 have hl := h.gl
 simp only [rU, List.getElem?_toArray, Int.toNat_natCast]
 rw [List.getElem?_append_right (by simp <;> omega)]
 have := Enc.flat_at (E := EG) G i (by omega) j hj
 have e : (2 + i * 3 + j) - [Value.pointer (some ⟨b, 0, none⟩), Value.pointer (some ⟨t, 0, none⟩)].length = i * EG.s + j := by
  show 2 + i * 3 + j - 2 = i * 3 + j; omega
 rw [show 2 + (i * 3 + j) = 2 + i * 3 + j by omega, e, this]
theorem UAt.guest (h : UAt w u b t g1 g2 G U) {i : Nat} (hi : i < 8) {x : Int} {m : Nat} {w1 w2 : World}
 (e1 : w1 = World.setCell w (Addr.add (Addr.add (Addr.add ⟨u, 0, none⟩ 2) (Int.toNat (i : Int) * 3)) 1) (.int .u64 x))
 (e2 : w2 = World.setCell w1 (Addr.add (Addr.add (Addr.add ⟨u, 0, none⟩ 2) (Int.toNat (i : Int) * 3)) 2) (.map (some m))) :
 St1 w (Addr.add (Addr.add (Addr.add ⟨u, 0, none⟩ 2) (Int.toNat (i : Int) * 3)) 1) ∧ St1 w1 (Addr.add (Addr.add (Addr.add ⟨u, 0, none⟩ 2) (Int.toNat (i : Int) * 3)) 2) ∧ UAt w2 u b t g1 g2 (G.set i (x, some m)) U ∧ Turn u w w2 := by
 have hl := h.gl
 have ad : ∀ j, Addr.add (Addr.add (Addr.add ⟨u, 0, none⟩ 2) (Int.toNat (i : Int) * 3)) j = Addr.add ⟨u, 0, none⟩ (2 + i * 3 + j) := fun j => by
  rw [add_add, add_add, Int.toNat_natCast]; congr 1; omega
 rw [ad] at e1 e2 ⊢
 have hs : ∀ G : List (Int × Option Nat), G.length = 8 → (rU b t G).size = 26 := fun G hG => by
  simp only [rU, List.size_toArray, List.length_append, Enc.flat_length, hG]; rfl
 obtain ⟨b1, t1⟩ := setE h.o e1
 rw [rU_set1 (by omega)] at b1
 have s1 : St1 w (Addr.add ⟨u, 0, none⟩ (2 + i * 3 + 1)) := st1_at h.o (by rw [hs G hl]; omega)
 have l2 : (G.set i (x, G[i].2)).length = 8 := by rw [List.length_set]; exact hl
 have s2 : St1 w1 (Addr.add ⟨u, 0, none⟩ (2 + i * 3 + 2)) := st1_at b1 (by rw [hs _ l2]; omega)
 obtain ⟨b2, t2⟩ := setE b1 e2
 rw [rU_set2 (by omega)] at b2
 have eG : (G.set i (x, G[i].2)).set i (((G.set i (x, G[i].2))[i]'(by omega)).1, some m) = G.set i (x, some m) := by
  rw [List.set_set]; simp
 rw [eG] at b2
 have tt := t1.then t2
 have st : Step (fun k => k = u) w w2 (fun k => k = u) := tt.step rfl
 have n1 : b ≠ u := bk_ne h.sp.obj h.o (by decide)
 have n2 : g1 ≠ u := bk_ne h.sp.dat h.o (by decide)
 have n3 : g2 ≠ u := bk_ne h.sp.map h.o (by decide)
 have n4 : t ≠ u := bk_ne h.tb.b h.o (by decide)
 exact ⟨s1, by rw [ad]; exact s2, ⟨b2, by rw [List.length_set]; exact hl, h.sp.step st n1 n2 n3, ⟨(tt.block t n4).trans h.tb.b, h.tb.len⟩, h.gn, h.ty⟩, tt⟩
end
section
open Go Go.CW Go.RowKit
variable {w w' : World} {u b t g1 g2 : Nat} {G : List (Int × Option Nat)} {U : Un}
theorem UAt.turnN {q : Nat} (h : UAt w u b t g1 g2 G U) (t' : Turn q w w') (hB : u < q ∧ b < q ∧ t < q ∧ g1 < q ∧ g2 < q) : UAt w' u b t g1 g2 G U :=
 ⟨(t'.block u (by omega)).trans h.o, h.gl, h.sp.step (t'.step (S := fun k => k = q) rfl) (by omega) (by omega) (by omega), ⟨(t'.block t (by omega)).trans h.tb.b, h.tb.len⟩, h.gn, h.ty⟩
def flo (id fl0 fl : Int) : Int := if (if id < fl0 then id else fl0) < fl then fl else (if id < fl0 then id else fl0)
def keepK (K : Kp) (fl : Int) : Kp := fun x => if fl ≤ x then K x else none
def putK (K : Kp) (x : Int) (p : Value × Rp) : Kp := fun y => if y = x then some p else K y
theorem doneF_put (K : Kp) (x : Int) (p : Value × Rp) : doneF (putK K x p) = putM (doneF K) x (repV p) := by
 funext y; unfold doneF putK putM; by_cases e : y = x <;> simp [e]
theorem zRep (w : World) : (zeroValue tRep).run Tryz.prog w = .ok (.agg (rRep 0 0 0 nilV 0)) w := by kernel_rfl
theorem Gst.stepS {B m nn : Nat} {K : Kp} {S S' : Fp} (h : Gst w B m nn K) (st : Step S w w' S') (hm : ¬ S m) (hS : ∀ k, B ≤ k → k < w.heap.size → ¬ S k) : Gst w' B m nn K :=
 ⟨h.mp.at (st.block m h.mp.lt hm), fun x p hp => by
  obtain ⟨a, b, c⟩ := h.d x p hp
  by_cases hne : p.2.d = []
  · exact ⟨Rd.stepS a st (fun hh => absurd (by rw [hne]; rfl) hh), b, c⟩
  · refine ⟨Rd.stepS a st (fun _ q hq => ?_), b, c⟩
    exact hS q (c q hq) (Rd.lt a (by simpa using hne) q hq)⟩
theorem Gst.grow {B m nn : Nat} {K : Kp} (h : Gst w B m nn K) (g : Grow w w') : Gst w' B m nn K :=
 ⟨h.mp.grow g, fun x p hp => by obtain ⟨a, b, c⟩ := h.d x p hp; exact ⟨Rd.grow a g, b, c⟩⟩
theorem grown_step {r : Nat} (g : w.grownBy w' (some r)) : Step (fun q => q = r) w w' (fun q => q = r) :=
 ⟨g.os, g.tape, g.output, g.size, fun q hq hne' => g.block q hq (fun e => hne' (Option.some.inj e)), fun q hq => .inl hq⟩
theorem UAt.stepF {S S' : Fp} (h : UAt w u b t g1 g2 G U) (st : Step S w w' S') (n0 : ¬ S u) (n1 : ¬ S b) (n2 : ¬ S t) (n3 : ¬ S g1) (n4 : ¬ S g2) : UAt w' u b t g1 g2 G U :=
 ⟨h.o.stepS st n0, h.gl, h.sp.step st (fun e => n1 e) (fun e => n3 e) (fun e => n4 e), ⟨h.tb.b.stepS st n2, h.tb.len⟩, h.gn, h.ty⟩
end
section
open Go Go.CW Go.RowKit
def tyOk (U : Un) : Prop := U.T.ty = 0 ∨ U.T.ty = 1
theorem plainC_cases {P : Cm → Prop} (n a b : UInt8)
 (h1 : P ⟨3, a.toNat % 32, 1, 0, 0, 0, false, List.replicate 8 b⟩) (h2 : P ⟨2, a.toNat % 32, 1, 0, 0, 0, false, []⟩)
 (h3 : P ⟨6, a.toNat % 32, 1, 0, 0, 0, false, List.replicate 8 (b &&& 1) ++ List.replicate 8 b⟩) (h4 : P ⟨5, a.toNat % 32, 1, 0, 0, 0, false, []⟩)
 (h5 : P ⟨11, 0, 0, 0, (b.toNat : Int), 0, false, []⟩) (h6 : P ⟨12, 0, 0, (b.toNat : Int), 0, 1, false, []⟩) (h7 : P ⟨16, 0, 0, 0, 0, 0, false, []⟩) : P (plainC n a b) := by
 unfold plainC
 split
 · exact h1
 · split
   · exact h2
   · split
     · exact h3
     · split
       · exact h4
       · split
         · exact h5
         · split
           · exact h6
           · exact h7
theorem plain_ok {U : Un} (hU : tyOk U) (n a b : UInt8) (i : Nat) : CmOk U i (plainC n a b) := by
 have hr : regsB U.T = false := by unfold regsB; rcases hU with h | h <;> rw [h] <;> rfl
 have hp : a.toNat % 32 ≤ 1000000 := by omega
 refine plainC_cases (P := fun c => CmOk U i c) n a b ?_ ?_ ?_ ?_ ?_ ?_ ?_ <;>
  exact ⟨by first | exact hp | exact Nat.zero_le _, by first | exact Nat.zero_le _ | exact (show (1 : Nat) ≤ 1000000 by decide), by first | exact (show Fits .i64 (0 : Int) by decide) | exact (show Fits .i64 (1 : Int) by decide), by simp, fun _ _ _ => hr⟩
theorem regT_ty (T : Tb) (h : Nat) (x : Int) (hT : T.ty = 0 ∨ T.ty = 1) : (regT T h x).ty = 0 ∨ (regT T h x).ty = 1 := by
 unfold regT
 dsimp only
 split
 · exact .inl rfl
 · exact hT
theorem resT_ty (T : Tb) (h : Nat) (k : Int) (hT : T.ty = 0 ∨ T.ty = 1) : (resT T h k 1).2.ty = 0 ∨ (resT T h k 1).2.ty = 1 := by
 unfold resT
 repeat' split
 all_goals first | exact hT | exact .inr rfl
theorem runU_short {U : Un} (c : Cm) (hc : c.n ≤ 32) : (runU U c).1.d.length ≤ 1000000000 := by
 unfold runU
 repeat' split
 all_goals first | (show ([] : List UInt8).length ≤ _; simp) | (show (part U.D (c.pos, c.n)).length ≤ _; simp [part]; omega)
theorem doU_short {U : Un} (n a b : UInt8) (i : Nat) : (doU U i (plainC n a b)).1.d.length ≤ 1000000000 := by
 have nil : ([] : List UInt8).length ≤ 1000000000 := by simp
 unfold doU
 split
 · exact plainC_cases (P := fun c => (actU U i c).1.d.length ≤ 1000000000) n a b (runU_short _ (by show 1 ≤ 32; omega)) (runU_short _ (by show 1 ≤ 32; omega)) (runU_short _ (by show 1 ≤ 32; omega)) (runU_short _ (by show 1 ≤ 32; omega)) nil nil (keysB_short _ _)
 · exact nil
def EA : Enc (UInt8 × UInt8 × UInt8) := ⟨3, fun x => [.int .u8 (x.1.toNat : Int), .int .u8 (x.2.1.toNat : Int), .int .u8 (x.2.2.toNat : Int)], fun _ => rfl, by omega, fun _ => rfl⟩
end
end
section
open Go Go.CW Go.RowKit
variable {w w' : World} {u b t g1 g2 : Nat} {G : List (Int × Option Nat)} {U : Un}
def OInv0 (w3 : World) (m mk r nn : Nat) (K : Kp) (w : World) : Prop :=
 ∃ (cn : Nat) (left : Int → Bool), Mr Tryz.prog tU6 .u64 w m r nn (doneF K) left cn ∧ Mp Tryz.prog tU6 .u64 w mk 0 (fun _ => none) ∧ Grow w3 w
theorem Once_s {B m nn i : Nat} {K : Kp} {fl fl0 id : Int} {c : Cm} {dv : Value} (h : UAt w u b t g1 g2 G U) (hi : i < 8) (hG : G[i]? = some (fl, some m)) (hs : Gst w B m nn K) (hK0 : ∀ x, keepK K (flo id fl0 fl) x = none)
 (hB : u < B ∧ b < B ∧ t < B ∧ g1 < B ∧ g2 < B) (hBw : B ≤ w.heap.size)
 (hid : (Lit.int .u64 id).wf = true) (hid0 : id ≠ 0) (hfl : ¬ id < fl) (ho : CmOk U i c) (hd : RdB w dv c.d) (hdu : dv.ownBlock ≠ some u) (hdw : ∀ q, dv.ownBlock = some q → B ≤ q) (hlen : (doU U i c).1.d.length ≤ 1000000000) {R : KV}
 (k2 : ∀ v v2 m' w', Step (FO u t g1 g2) w w' (FO u t g1 g2) → UAt w' u b t g1 g2 (G.set i (flo id fl0 fl, some m')) (doU U i c).2 → Gst w' B m' 1 (putK (fun _ => none) id (v2, (doU U i c).1)) → B ≤ m' → RdB w' v (doU U i c).1.d → NewV w v →
  R (.tuple #[.agg (rRep (doU U i c).1.st (doU U i c).1.key (doU U i c).1.code v (doU U i c).1.info), .bool true]) w') :
 CW.Spec Tryz.prog 19 #[.pointer (some ⟨u, 0, none⟩), .int .i64 (i : Int), .int .u64 id, .int .u64 fl0, .agg (rCmd c dv)] w R := by
 apply q40W
 have hGi : ∀ h : i < G.length, G[i] = (fl, some m) := fun h => by rw [List.getElem?_eq_getElem h] at hG; exact Option.some.inj hG
 refine nm fun w0 e0 => ?_
 obtain ⟨b0, g0, s0⟩ := alE e0
 refine nm fun w1 e1 => ?_
 obtain ⟨b1, ga1, s1⟩ := alE e1
 refine nm fun w2 e2 => ?_
 obtain ⟨b2, ga2, s2⟩ := alE e2
 have g02 := (g0.then ga1).then ga2
 refine ⟨b2.row rfl rfl, nm fun w3 e3 => ?_⟩
 obtain ⟨b3, t3⟩ := rowE b2 e3 rfl
 have g3 : Grow w w3 := Below.turn g02 t3 (by omega)
 have h3 := h.grow g3
 have bc3 := ((b0.grow ga1).grow ga2).turn t3 (by omega)
 have br3 := (b1.grow ga2).turn t3 (by omega)
 have gs3 := hs.grow g3
 have z3 := g3.size
 have z32 := t3.size
 refine JoinP.bool (fun q w' => q = false ∧ w' = w3) (fun j hj => ?_) ?_
 · refine lhost_c hi ⟨_, rfl, cond_f rfl (cond_f (by simpa using hid0) (withAddr_some ⟨⟨by omega, by omega⟩, fl, ?_, hj _ _ ⟨by simpa using hfl, rfl⟩⟩))⟩
   have hc := h3.gcell hi (show 1 < 3 by omega)
   rw [hc, hGi]; rfl
 rintro q w5 ⟨rfl, rfl⟩
 refine cond_f rfl (withAddr_some ⟨⟨by omega, by omega⟩, fl, ?_, ?_⟩)
 · have hc := h3.gcell hi (show 1 < 3 by omega)
   rw [hc, hGi]; rfl
 have hmk : Sem.run Tryz.prog (Instr.makeMap 155 none) w5 = .ok (.map (some w5.heap.size)) (w5.alloc (.map #[] 0)) := rfl
 refine ⟨_, _, hmk, ?_⟩
 have ga := Grow.al (Grow.refl w5) (.map #[] 0)
 have mp0 : Mp Tryz.prog tU6 .u64 (w5.alloc (.map #[] 0)) w5.heap.size 0 (fun _ => none) := Mp.made w5
 have sza : (w5.alloc (.map #[] 0)).heap.size = w5.heap.size + 1 := by simp
 generalize w5.alloc (.map #[] 0) = wa at *
 have ha := h3.grow ga
 have gsa := gs3.grow ga
 obtain ⟨w9, cnt, hrun, mr9, g9, s9, hcnt⟩ := gsa.mp.range undU6 undMr
 refine ⟨.map (some m), ?_, _, w9, hrun, ?_⟩
 · have hc := ha.gcell hi (show 2 < 3 by omega)
   rw [hc, hGi]; rfl
 show LoopP [] _ _
 generalize hFL : (if (if id < fl0 then id else fl0) < fl then fl else if id < fl0 then id else fl0) = FL
 have hFL' : flo id fl0 fl = FL := hFL
 rw [hFL'] at k2 hK0
 refine ⟨fun (w25 : World) => OInv0 w5 m w5.heap.size wa.heap.size nn K w25, fun (w25 : World) => w25.rangeLeft m wa.heap.size, ⟨cnt, _, mr9, mp0.grow g9, ga.then g9⟩, ?_⟩
 dsimp only [allR, mapR2, eqN, ltN]
 rintro n w25 ⟨⟨cn, left, mr, mp, g25⟩, hm⟩
 have hrl := mr.left_eq
 rcases mr.next undU6 0 with ⟨hall, hrun⟩ | ⟨x, v, w15, cn', hwf, hlx, hfx, hrun, mr15, hcn, hg, hsz, hent⟩
 · have g0e : Grow w w25 := g3.then g25
   have h25 := h3.grow g25
   have gs25 := gs3.grow g25
   have b025 := bc3.grow g25
   have br25 := br3.grow g25
   have zw : w5.heap.size ≤ w25.heap.size := g25.size
   have mpl := mp.lt
   have z0 := h.o.lt
   have fin : ∀ {w' : World} {U' : Un} {mm nn' : Nat} {K' : Kp} {x0 x1 x2 x4 : Int} {x3 : Value} {ds : List UInt8} {cs : Array Value} {bb : Bool}, Md (FO u t g1 g2) w.heap.size w w' → BK w' w0.heap.size cs tRep → cs.size = 5 →
    UAt w' u b t g1 g2 (G.set i (FL, some mm)) U' → Gst w' B mm nn' K' → mm ≠ w0.heap.size → (∀ x p, K' x = some p → p.2.d ≠ [] → p.1.ownBlock ≠ some w0.heap.size) → RdB w' x3 ds → NewV w x3 → x3.ownBlock ≠ some w0.heap.size →
    (∀ v w', Step (FO u t g1 g2) w w' (FO u t g1 g2) → UAt w' u b t g1 g2 (G.set i (FL, some mm)) U' → Gst w' B mm nn' K' → RdB w' v ds → NewV w v → R (.tuple #[.agg (rRep x0 x1 x2 v x4), .bool bb]) w') →
    (StRow w' ⟨w0.heap.size, 0, none⟩ #[.int .i64 x0, .int .i64 x1, .int .i64 x2, x3, .int .i64 x4]) ∧
    bindW (stRow w' ⟨w0.heap.size, 0, none⟩ #[.int .i64 x0, .int .i64 x1, .int .i64 x2, x3, .int .i64 x4]) fun w' =>
    ∃ (n0 : Int) (n1 : Int) (n2 : Int) (v3 : Value) (n4 : Int), (ldCells w' ⟨w0.heap.size, 0, none⟩ 5 #[.int .i64 n0, .int .i64 n1, .int .i64 n2, v3, .int .i64 n4]) ∧ R (.tuple #[.agg #[.int .i64 n0, .int .i64 n1, .int .i64 n2, v3, .int .i64 n4], .bool bb]) w' := by
    intro w' U' mm nn' K' x0 x1 x2 x4 x3 ds cs bb mdd bk hcs hu hg hmm hK' hr hn hne kk
    refine ret5 bk hcs (Rd.isOne hr) fun w'' _ t' => ?_
    have hsz0 := g0.size
    refine kk x3 w'' (mdd.turn t' (.inr hsz0)).out (hu.turnN t' (by omega)) ⟨hg.mp.at (t'.block mm hmm), fun x p hp => ?_⟩ (Rd.turn hr t' hne) hn
    obtain ⟨a1, a2, a3⟩ := hg.d x p hp
    exact ⟨Rd.stepS a1 (t'.step (S := fun k => k = w0.heap.size) rfl) (fun hne q hq e => hK' x p hp (fun hh => hne (by rw [hh]; rfl)) (by rw [hq, e])), a2, a3⟩
   have m25 : Md (FO u t g1 g2) w.heap.size w w25 := (Md.refl _ _ _).grow g0e
   · have hk := hK0 id
     have hlk := mp.look_ok undU6 undMr (zRep w25) hid
     have hf : (fun _ => none : Int → Option Value) id = none := rfl
     refine .inl ⟨w25, hrun, _, _, _, _, _, _, hlk, nm fun w33 e33 => ?_⟩
     obtain ⟨b33, g33, s33⟩ := alE e33
     refine ⟨b33.row rfl rfl, nm fun w34 e34 => ?_⟩
     obtain ⟨b34, t34⟩ := rowE b33 e34 rfl
     have g34 : Grow w25 w34 := Below.turn g33 t34 (Nat.le_refl _)
     have h34 := h25.grow g34
     have mp34 := mp.grow g34
     obtain ⟨ln, hln, hlr⟩ := mp34.len undMr 0
     refine cond_f rfl ⟨_, hlr, cond_f (by simp; omega) ?_⟩
     refine ⟨(h34.guest (x := FL) (m := w5.heap.size) hi rfl rfl).1, nm fun w35 e35 => oneK_of rfl ⟨(h34.guest (m := w5.heap.size) hi e35 rfl).2.1, nm fun w36 e36 => ?_⟩⟩
     obtain ⟨_, _, u36, t36⟩ := h34.guest hi e35 e36
     have hul : u < w.heap.size := z0
     have z34 := g34.size
     have z36 := t36.size
     have b036 := (b025.grow g34).turn t36 (by omega)
     have br36 := (br25.grow g34).turn t36 (by have := g0.size; omega)
     have mp36 := mp34.at (t36.block _ (by omega))
     have m36 : Md (FO u t g1 g2) w.heap.size w w36 := (m25.grow g34).turn t36 (.inl (.inl rfl))
     have d36 : RdB w36 dv c.d := Rd.turn (Rd.grow hd (g0e.then g34)) t36 hdu
     refine ⟨_, _, _, _, _, _, _, _, b036.ld rfl, Do_c u36 hi ho d36 fun v77 w78 st78 u78 rp78 => ?_⟩
     obtain ⟨dv', rfl, rd', nv'⟩ := rp78
     have z78 := st78.size
     have nFU : ∀ k, B ≤ k → ¬ FU t g1 g2 k := fun k hk hf => by rcases hf with e | e | e <;> omega
     have z0' := g0.size
     have m78 : Md (FO u t g1 g2) w.heap.size w w78 := m36.stp st78 (fun k hf => by rcases hf with e | e | e; exact .inl (.inr (.inl e)); exact .inl (.inr (.inr (.inl e))); exact .inl (.inr (.inr (.inr e)))) (fun k hf => .inl (by rcases hf with e | e | e; exact .inl (.inr (.inl e)); exact .inl (.inr (.inr (.inl e))); exact .inl (.inr (.inr (.inr e)))))
     have br78 := br36.stepS st78 (nFU _ (by omega))
     have mp78 := mp36.at (st78.block _ mp36.lt (nFU _ (by omega)))
     refine ⟨_, _, _, _, _, rfl, ret5 br78 rfl (Rd.isOne rd') fun w84 b84 t84 => ?_⟩
     have rd84 := Rd.turn rd' t84 (fun e => by have := nv' _ e; omega)
     have mp84 := mp78.at (t84.block _ (by omega))
     have u84 := u78.turnN t84 (by omega)
     have m84 := m78.turn t84 (.inr z0')
     have z84 := t84.size
     refine apart_c rd84 hlen fun v90 w91 g91 r91 n91 => ⟨_, _, _, _, _, rfl, ?_⟩
     have z91 := g91.size
     obtain ⟨w97, hup, mp97, gb97⟩ := (mp84.grow g91).put undU6 undMr (by omega) hid (repV (v90, (doU U i c).1))
     have st97 := grown_step gb97
     have u97 := (u84.grow g91).stepF st97 (by omega) (by omega) (by omega) (by omega) (by omega)
     have b97 := (b84.grow g91).stepS st97 (by omega)
     have r97 : RdB w97 dv' (doU U i c).1.d := Rd.stepS (Rd.grow rd84 g91) st97 (fun _ q hq e => by have := nv' q hq; omega)
     have r97' : RdB w97 v90 (doU U i c).1.d := Rd.stepS r91 st97 (fun _ q hq e => by have := n91 q hq; omega)
     have m97 : Md (FO u t g1 g2) w.heap.size w w97 := (m84.grow g91).stp st97 (fun k e => .inr (by omega)) (fun k e => .inl (.inr (by omega)))
     refine ⟨w97, hup, _, _, _, _, _, b97.ld rfl, ?_⟩
     have gs97 : Gst w97 B w5.heap.size 1 (putK (fun _ => none) id (v90, (doU U i c).1)) := by
      refine ⟨by rw [doneF_put]; exact mp97.le (by omega), fun x q hq => ?_⟩
      unfold putK at hq
      by_cases e : x = id
      · rw [if_pos e] at hq
        cases hq
        exact ⟨r97', hlen, fun q hq => by have := n91 q hq; omega⟩
      · rw [if_neg e] at hq
        cases hq
     refine fin m97 b97 rfl u97 gs97 (by omega) (fun x q hq hne e => ?_) r97 (nv'.of (by omega)) (fun e => by have := nv' _ e; omega) (fun v w' st hu hg hr hn => k2 v v90 _ w' st hu hg (by omega) hr hn)
     unfold putK at hq
     by_cases ex : x = id
     · rw [if_pos ex] at hq
       cases hq
       have := n91 _ e
       omega
     · rw [if_neg ex] at hq
       cases hq
 · refine .inr ⟨_, _, w15, hrun, JoinP.go ?_⟩
   obtain ⟨p, hp⟩ : ∃ p, K x = some p := by
    unfold doneF at hfx
    cases e : K x with
    | none => rw [e] at hfx; cases hfx
    | some p => exact ⟨p, rfl⟩
   have hv : v = repV p := by unfold doneF at hfx; rw [hp] at hfx; simpa using hfx.symm
   subst hv
   have hone : isOne p.1 = true := Rd.isOne (hs.d x p hp).1
   have g15 : Grow w5 w15 := g25.grown hg g25.size (fun j hj => by cases hj; omega)
   have hmr : w5.heap.size ≠ wa.heap.size := by omega
   have mp15 : Mp Tryz.prog tU6 .u64 w15 w5.heap.size 0 (fun _ => none) := mp.kept hg (fun e => hmr (by first | exact Option.some.inj e | exact (Option.some.inj e).symm))
   refine .inr (.inl ⟨x, _, _, _, _, _, hent, nm fun w16 e16 => ?_⟩)
   obtain ⟨b16, g16, s16⟩ := alE e16
   refine ⟨b16.row rfl (one_rep hone), nm fun w17 e17 => ?_⟩
   obtain ⟨b17, t17⟩ := rowE b16 e17 rfl
   have g17 : Grow w15 w17 := Below.turn g16 t17 (Nat.le_refl _)
   have mr17 : Mr Tryz.prog tU6 .u64 w17 m wa.heap.size nn (doneF K) (fun y => left y && !(decide (y = x))) cn' := mr15.at (g17.block _ mr15.owns.lt) (g17.block _ mr15.lt)
   have mp17 := mp15.grow g17
   have gg17 := g15.then g17
   refine cond_intro (fun hc => ?_) (fun hc => ?_)
   · have hge : FL ≤ x := by simpa using hc
     have := hK0 x
     unfold keepK at this
     rw [if_pos hge, hp] at this
     cases this
   · exact ⟨⟨cn', _, mr17, mp17, gg17⟩, by rw [mr17.left_eq]; omega⟩
end
end Go.Proofs.YtghineciiljeoaaGreatDoor
