/- A path in memory; the contracts of New, floor, send, Submit. -/
import Derived.Test.YtmbdbplobnkleaaPthP
set_option linter.unusedVariables false
set_option linter.unusedSimpArgs false
set_option maxRecDepth 100000
namespace Go.Proofs.Ytmbdbplobnkleaa
open Go Go.CW Go.RowKit Go.Crc

theorem one_int (k : IntKind) (n : Int) : isOne (.int k n) = true := rfl
theorem one_bool (b : Bool) : isOne (.bool b) = true := rfl
structure Ask where
  id : Int
  c : Cmd
  d : Value
  one : isOne d = true
structure Pkt where
  to : Int
  d : Value
  one : isOne d = true
abbrev rAsk (id : Int) (c : Cmd) (d : Value) : Array Value := #[.int .u64 id, .int .i64 c.kind, .int .i64 c.pos, .int .i64 c.n, d, .int .u64 c.key, .int .u64 c.new, .int .i64 c.typ, .bool c.force]
def EA : Enc Ask := ⟨9, fun a => (rAsk a.id a.c a.d).toList, fun _ => rfl, by omega, fun a => by simp only [oneL, a.one, one_int, one_bool, Bool.and_true]⟩
def EP : Enc Pkt := ⟨2, fun p => [.int .i64 p.to, p.d], fun _ => rfl, by omega, fun p => by simp only [oneL, p.one, one_int, Bool.and_true]⟩
abbrev tAsk : TypeId := 54
abbrev tAsks : TypeId := 48
abbrev tPkt : TypeId := 39
abbrev tPkts : TypeId := 34
abbrev tPath : TypeId := 50
theorem tyAsk : SlTyN Try.prog tAsks tAsk EA.s 88 := SlTyN.of (by kernel_rfl)
theorem tyPkt : SlTyN Try.prog tPkts tPkt EP.s 32 := SlTyN.of (by kernel_rfl)

theorem ownR_ne {α : Type} {E : Enc α} {w : World} {B g : Nat} {e e' : TypeId} {v : Value} {L : List α} {cs : Array Value} (h : OwnR E w B e v L) (b : BK w g cs e') (hne : e ≠ e') : v.ownBlock ≠ some g := by
  rcases h.2 with ⟨rfl, _⟩ | ⟨g', cap, cur, rfl, _, hg, _⟩
  · intro e; cases e
  · intro e
    have : g' = g := by simpa [Value.ownBlock] using e
    subst this
    unfold BK at b
    rw [hg] at b
    injection b with b
    injection b with _ b
    exact hne b
theorem ownR_ne2 {α β : Type} {E : Enc α} {E' : Enc β} {w : World} {B B' : Nat} {e e' : TypeId} {v v' : Value} {L : List α} {L' : List β} (h : OwnR E w B e v L) (h' : OwnR E' w B' e' v' L') (hne : e ≠ e') : ∀ q, v.ownBlock = some q → v'.ownBlock ≠ some q := by
  intro q hq
  rcases h'.2 with ⟨rfl, _⟩ | ⟨g', cap, cur, rfl, _, hg, _⟩
  · intro e; cases e
  · intro e
    have : g' = q := by simpa [Value.ownBlock] using e
    subst this
    exact ownR_ne h (show BK w g' cur e' from hg) hne hq
theorem bk_ne {w : World} {g g' : Nat} {cs cs' : Array Value} {e e' : TypeId} (b : BK w g cs e) (b' : BK w g' cs' e') (hne : e ≠ e') : g ≠ g' := by
  rintro rfl
  unfold BK at b b'
  rw [b] at b'
  injection b' with b'
  injection b' with _ b'
  exact hne b'
theorem _root_.Go.CW.OwnR.stepS {α : Type} {E : Enc α} {S S' : Fp} {w w' : World} {B : Nat} {e : TypeId} {v : Value} {L : List α} (h : OwnR E w B e v L) (st : Step S w w' S') (hs : ∀ q, v.ownBlock = some q → ¬ S q) : OwnR E w' B e v L :=
  h.stable fun k hk => st.block k (h.lt k hk).2 (hs k hk)
theorem _root_.Go.CW.OwnR.turn {α : Type} {E : Enc α} {b : Nat} {w w' : World} {B : Nat} {e : TypeId} {v : Value} {L : List α} (h : OwnR E w B e v L) (t : Turn b w w') (hne : v.ownBlock ≠ some b) : OwnR E w' B e v L :=
  h.stable fun k hk => t.block k (fun e => hne (e ▸ hk))

/-- a path in block g: who asks, the number that comes, what waits, what is on its way, the timers -/
structure Pa (w : World) (g gt : Nat) (vl vo vh : Value) (host nx : Int) (L : List Ask) (P : List Pkt) (H : List (Int × Int)) : Prop where
  b : BK w g #[.int .i64 host, .int .i64 0, .int .u64 nx, vl, vo, .slice none 0 0, .pointer (some ⟨gt, 0, none⟩)] tPath
  l : OwnR EA w 0 tAsk vl L
  o : OwnR EP w 0 tPkt vo P
  t : TS w gt vh H 0

def fpP (g gt : Nat) (vl vo vh : Value) : Fp := fun k => k = g ∨ vl.ownBlock = some k ∨ vo.ownBlock = some k ∨ FT gt vh k

section
variable {w w' : World} {g gt : Nat} {vl vo vh : Value} {host nx : Int} {L : List Ask} {P : List Pkt} {H : List (Int × Int)}

theorem Pa.isIn (h : Pa w g gt vl vo vh host nx L P H) : InW w (fpP g gt vl vo vh) := by
  rintro k (rfl | hk | hk | hk)
  · exact h.b.lt
  · exact (h.l.lt k hk).2
  · exact (h.o.lt k hk).2
  · exact h.t.lt k hk
theorem Pa.grow (h : Pa w g gt vl vo vh host nx L P H) (k : Grow w w') : Pa w' g gt vl vo vh host nx L P H := ⟨h.b.grow k, h.l.grow k, h.o.grow k, h.t.grow k⟩
theorem Pa.stepS {S S' : Fp} (h : Pa w g gt vl vo vh host nx L P H) (st : Step S w w' S') (a : Apart (fpP g gt vl vo vh) S) : Pa w' g gt vl vo vh host nx L P H :=
  ⟨h.b.stepS st (a g (.inl rfl)), h.l.stepS st (fun q hq => a q (.inr (.inl hq))), h.o.stepS st (fun q hq => a q (.inr (.inr (.inl hq)))), h.t.stable fun k hk => st.block k (h.t.lt k hk) (a k (.inr (.inr (.inr hk))))⟩
theorem Pa.gne (h : Pa w g gt vl vo vh host nx L P H) : ∀ q, FT gt vh q → q ≠ g := by
  rintro q (rfl | hq)
  · exact (bk_ne h.b h.t.blk (by decide)).symm
  · intro e; subst e; exact ownR_ne h.t.row h.b (by decide) hq

/-- the timers turned -/
theorem Pa.tim {vh' : Value} {H' : List (Int × Int)} (h : Pa w g gt vl vo vh host nx L P H) (st : Step (FT gt vh) w w' (FT gt vh')) (t : TS w' gt vh' H' 0) : Pa w' g gt vl vo vh' host nx L P H' ∧ Step (fpP g gt vl vo vh) w w' (fpP g gt vl vo vh') := by
  refine ⟨⟨h.b.stepS st (fun hs => h.gne g hs rfl), h.l.stepS st ?_, h.o.stepS st ?_, t⟩, ?_⟩
  · rintro q hq (rfl | hs)
    · exact ownR_ne h.l h.t.blk (by decide) hq
    · exact ownR_ne2 h.l h.t.row (by decide) q hq hs
  · rintro q hq (rfl | hs)
    · exact ownR_ne h.o h.t.blk (by decide) hq
    · exact ownR_ne2 h.o h.t.row (by decide) q hq hs
  · exact ⟨st.os, st.tape, st.output, st.size, fun k hk hs => st.block k hk (fun hf => hs (.inr (.inr (.inr hf)))), fun k hk => by
      rcases hk with rfl | hk | hk | hk
      · exact .inl (.inl rfl)
      · exact .inl (.inr (.inl hk))
      · exact .inl (.inr (.inr (.inl hk)))
      · exact (st.fp k hk).imp (fun x => .inr (.inr (.inr x))) id⟩

/-- the number that comes is turned -/
theorem Pa.setN {n : Int} (h : Pa w g gt vl vo vh host nx L P H) (e : w' = World.setCell w (Addr.add ⟨g, 0, none⟩ 2) (.int .u64 n)) : Pa w' g gt vl vo vh host n L P H ∧ Step (fpP g gt vl vo vh) w w' (fpP g gt vl vo vh) := by
  obtain ⟨b, t⟩ := setE h.b e
  refine ⟨⟨b, h.l.turn t (ownR_ne h.l h.b (by decide)), h.o.turn t (ownR_ne h.o h.b (by decide)), h.t.stable fun k hk => t.block k (h.gne k hk)⟩, ?_⟩
  subst e
  exact Step.setA w _ _ (by rw [add_block]; exact .inl rfl)

/-- a packet more -/
theorem Pa.pushO {w1 : World} {vo' : Value} {P' : List Pkt} (h : Pa w g gt vl vo vh host nx L P H) (o' : OwnR EP w1 0 tPkt vo' P') (n : OwnNext w vo w1 vo') (e : w' = World.setCell w1 (Addr.add ⟨g, 0, none⟩ 4) vo') : Pa w' g gt vl vo' vh host nx L P' H ∧ Step (fpP g gt vl vo vh) w w' (fpP g gt vl vo' vh) := by
  have st : Step (fun q => vo.ownBlock = some q) w w1 (fun q => vo.ownBlock = some q ∨ vo'.ownBlock = some q) := Step.of_own n (fun q hq => hq)
  have b1 := h.b.stepS st (fun hs => ownR_ne h.o h.b (by decide) hs)
  have l1 := h.l.stepS st (fun q hq hs => ownR_ne2 h.l h.o (by decide) q hq hs)
  have t1 : TS w1 gt vh H 0 := h.t.stable fun k hk => st.block k (h.t.lt k hk) (fun hs => by
    rcases hk with rfl | hk
    · exact ownR_ne h.o h.t.blk (by decide) hs
    · exact ownR_ne2 h.t.row h.o (by decide) k hk hs)
  obtain ⟨b, t⟩ := setE b1 e
  refine ⟨⟨b, l1.turn t (ownR_ne l1 b1 (by decide)), o'.turn t (ownR_ne o' b1 (by decide)), t1.stable fun k hk => t.block k (h.gne k hk)⟩, ?_⟩
  have st2 := Step.of_own (S := fpP g gt vl vo vh) n (fun q hq => .inr (.inr (.inl hq)))
  have s3 : Step (fun q => fpP g gt vl vo vh q ∨ vo'.ownBlock = some q) w1 w' (fun q => fpP g gt vl vo vh q ∨ vo'.ownBlock = some q) := by
    subst e; exact Step.setA w1 _ _ (by rw [add_block]; exact .inl (.inl rfl))
  exact (st2.then s3).imp (fun _ h => h) (fun q hq => by
    rcases hq with rfl | hq | hq | hq
    · exact .inl (.inl rfl)
    · exact .inl (.inr (.inl hq))
    · rcases n.at_ with a | a
      · exact .inl (.inr (.inr (.inl (a ▸ hq))))
      · exact .inr (a q hq)
    · exact .inl (.inr (.inr (.inr hq))))
/-- one more that waits -/
theorem Pa.pushL {w1 : World} {vl' : Value} {L' : List Ask} (h : Pa w g gt vl vo vh host nx L P H) (l' : OwnR EA w1 0 tAsk vl' L') (n : OwnNext w vl w1 vl') (e : w' = World.setCell w1 (Addr.add ⟨g, 0, none⟩ 3) vl') : Pa w' g gt vl' vo vh host nx L' P H ∧ Step (fpP g gt vl vo vh) w w' (fpP g gt vl' vo vh) := by
  have st : Step (fun q => vl.ownBlock = some q) w w1 (fun q => vl.ownBlock = some q ∨ vl'.ownBlock = some q) := Step.of_own n (fun q hq => hq)
  have b1 := h.b.stepS st (fun hs => ownR_ne h.l h.b (by decide) hs)
  have o1 := h.o.stepS st (fun q hq hs => ownR_ne2 h.o h.l (by decide) q hq hs)
  have t1 : TS w1 gt vh H 0 := h.t.stable fun k hk => st.block k (h.t.lt k hk) (fun hs => by
    rcases hk with rfl | hk
    · exact ownR_ne h.l h.t.blk (by decide) hs
    · exact ownR_ne2 h.t.row h.l (by decide) k hk hs)
  obtain ⟨b, t⟩ := setE b1 e
  refine ⟨⟨b, l'.turn t (ownR_ne l' b1 (by decide)), o1.turn t (ownR_ne o1 b1 (by decide)), t1.stable fun k hk => t.block k (h.gne k hk)⟩, ?_⟩
  have st2 := Step.of_own (S := fpP g gt vl vo vh) n (fun q hq => .inr (.inl hq))
  have s3 : Step (fun q => fpP g gt vl vo vh q ∨ vl'.ownBlock = some q) w1 w' (fun q => fpP g gt vl vo vh q ∨ vl'.ownBlock = some q) := by
    subst e; exact Step.setA w1 _ _ (by rw [add_block]; exact .inl (.inl rfl))
  exact (st2.then s3).imp (fun _ h => h) (fun q hq => by
    rcases hq with rfl | hq | hq | hq
    · exact .inl (.inl rfl)
    · rcases n.at_ with a | a
      · exact .inl (.inr (.inl (a ▸ hq)))
      · exact .inr (a q hq)
    · exact .inl (.inr (.inr (.inl hq)))
    · exact .inl (.inr (.inr (.inr hq))))
end

/-- the numbers of those that wait -/
def Ids (L : List Ask) (nx : Int) : Prop := nx = (L.length : Int) + 1 ∧ ∀ (i : Nat) (h : i < L.length), L[i].id = (i : Int) + 1

def flr (L : List Ask) (nx : Int) : Int := match L with
  | [] => nx
  | a :: _ => a.id

theorem floor_c {w : World} {g gt : Nat} {vl vo vh : Value} {host nx : Int} {L : List Ask} {P : List Pkt} {H : List (Int × Int)} {R : KV} (h : Pa w g gt vl vo vh host nx L P H) (k : R (.int .u64 (flr L nx)) w) : Go.CW.Spec Try.prog 13 #[.pointer (some ⟨g, 0, none⟩)] w R := by
  apply mpath_Path_floor_m_wp
  refine withAddr_some ⟨_, h.b.cell 3, _, h.l.rd.len, cond_intro (fun d => ?_) (fun d => ?_)⟩
  · have d : L = [] := List.eq_nil_of_length_eq_zero (by simpa using d)
    subst d
    exact withAddr_some ⟨_, h.b.cell 2, k⟩
  · match L, h, k, d with
    | [], _, _, d => simp at d
    | a :: L, h, k, _ =>
      obtain ⟨ad, ha, hc, _⟩ := h.l.rd.at (i := 0) (by omega) (by simp)
      exact withAddr_some ⟨_, h.b.cell 3, ad, ha, _, hc 0 (by show 0 < 9; omega), k⟩

theorem New_c' {w : World} {host : Int} {R : KV} (hh : 0 ≤ host ∧ host < 8) (k : ∀ g gt w', Grow w w' → w.heap.size ≤ gt → gt < g → Pa w' g gt (.slice none 0 0) (.slice none 0 0) (.slice none 0 0) host 1 [] [] [] → R (.tuple #[.pointer (some ⟨g, 0, none⟩), .int .i64 0]) w') : Go.CW.Spec Try.prog 5 #[.int .i64 host] w R := by
  apply mpath_New_wp
  refine JoinP.bool (fun b w' => w' = w ∧ b = false) (fun j hj => cond_f (by simp; omega) (hj _ _ ⟨rfl, by simp; omega⟩)) ?_
  rintro b w1 ⟨rfl, rfl⟩
  refine cond_f rfl (New_c fun w3 g3 t3 => ⟨_, rfl, nm fun w5 e5 => ?_⟩)
  obtain ⟨b5, g5, _⟩ := alE e5
  exact k _ _ w5 (g3.then g5) (Nat.le_refl _) t3.blk.lt ⟨b5, OwnR.nil _ _ _, OwnR.nil _ _ _, t3.grow g5⟩

theorem _root_.Go.CW.BK.ldAt {w : World} {b : Nat} {cs cs' : Array Value} {e : TypeId} (h : BK w b cs e) {o n : Nat} (hn : cs'.size = n) (h2 : ∀ i, i < n → cs[o + i]? = cs'[i]?) : ldCells w (Addr.add ⟨b, 0, none⟩ o) n cs' :=
  ⟨hn, fun i hi => by rw [add_add, h.cell, h2 i hi]⟩

theorem send_c {w : World} {g gt : Nat} {vl vo vh : Value} {host nx : Int} {L : List Ask} {P : List Pkt} {H : List (Int × Int)} {R : KV} {id : Int} {c : Cmd} {d : Value} {ds : List UInt8} (h : Pa w g gt vl vo vh host nx L P H) (hH : H.length ≤ 1000) (hP : P.length ≤ 1000) (hd : RdB w d ds) (hl : ds.length ≤ 1024) (hid : 0 ≤ id ∧ id ≤ 1000)
    (k : ∀ vo' vh' p H' w', Step (fpP g gt vl vo vh) w w' (fpP g gt vl vo' vh') → Pa w' g gt vl vo' vh' host nx L (P ++ [p]) H' → H'.length ≤ H.length + 1 → (∃ bs, RdX (fpP g gt vl vo' vh') w' p.d ((sld (1 :: bs)).map b8) ∧ NewV w p.d ∧ bs.length ≤ 100000) → p.to = 0 → R (.tuple #[]) w') : Go.CW.Spec Try.prog 16 #[.pointer (some ⟨g, 0, none⟩), .agg (rAsk id c d)] w R := by
  apply mpath_Path_send_m_wp
  refine nm fun w0 e0 => ?_
  obtain ⟨b0, g0, _⟩ := alE e0
  clear e0
  refine nm fun w1 e1 => ?_
  have g1 := drE e1
  have h1 := h.grow (g0.then g1)
  have b1 := b0.grow g1
  have hsub : ∀ i, i < 8 → (rAsk id c d)[1 + i]? = (rCmd c d)[i]? := by
    intro i hi
    have : i = 0 ∨ i = 1 ∨ i = 2 ∨ i = 3 ∨ i = 4 ∨ i = 5 ∨ i = 6 ∨ i = 7 := by omega
    rcases this with rfl | rfl | rfl | rfl | rfl | rfl | rfl | rfl <;> rfl
  have ld1 : ldCells w1 (Addr.add ⟨w.heap.size, 0, none⟩ 1) 8 (rCmd c d) := b1.ldAt rfl hsub
  refine withAddr_some ⟨_, h1.b.cell 4, withAddr_some ⟨_, h1.b.cell 1, withAddr_some ⟨_, h1.b.cell 0, _, b1.cell 0, _, _, _, _, _, _, _, _, ld1, nm fun w17 e17 => ?_⟩⟩⟩
  obtain rfl : w17 = w1 := e17.trans e1.symm
  refine floor_c h1 ⟨_, rfl, ⟨_, h1.b.cell 4, rfl⟩, ⟨_, h1.b.cell 1, rfl⟩, ⟨_, h1.b.cell 0, rfl⟩, ⟨_, b1.cell 0, rfl⟩, ⟨_, _, _, _, _, _, _, _, ld1, rfl⟩, ?_⟩
  have hd1 := hd.grow (g0.then g1)
  refine Request_c hd1 (by omega) fun v33 w34 g34 r34 n34 => ?_
  have h34 := h1.grow g34
  have b34 := b1.grow g34
  have one33 := Rd.isOne r34
  have ga := fun o => Grow.al (Grow.refl w34) o
  refine ⟨⟨_, h34.b.cell 4, rfl⟩, ⟨_, h34.b.cell 1, rfl⟩, oneK_of one33 ⟨⟨_, (h34.grow (ga _)).b.cell 4, rfl⟩, nm fun w38 e38 => nm fun w39 e39 => ?_⟩⟩
  clear e38
  have gA : Grow w w34 := (g0.then g1).then g34
  have g39 : Grow w34 w39 := by rw [e39]; exact ga _
  have h39 := h34.grow g39
  have lit : OwnR EP w39 w34.heap.size tPkt (.slice (some ⟨w34.heap.size, 0, none⟩) 1 1) [⟨0, v33, one33⟩] := by
    have := OwnR.lit (E := EP) w34 (Nat.le_refl _) tPkt [⟨0, v33, one33⟩] 1 rfl (by simp [maxLen])
    rw [e39]; exact this
  obtain ⟨v40, w41, k40, o40, n40⟩ := app_ownR tyPkt h39.o lit.rd (by simp; omega) (Nat.zero_le _)
  refine ⟨v40, w41, k40, withAddr_some (oneK_of ?_ ?_)⟩
  · rcases o40.2 with ⟨rfl, _⟩ | ⟨g', cap, cur, rfl, _⟩ <;> rfl
  have b41 : BK w41 g #[.int .i64 host, .int .i64 0, .int .u64 nx, vl, vo, .slice none 0 0, .pointer (some ⟨gt, 0, none⟩)] tPath := (n40.by_.block g h39.b.lt (fun e => ownR_ne h39.o h39.b (by decide) e.symm)).trans h39.b
  refine ⟨st1_at b41 (by show 4 < 7; omega), nm fun w43 e43 => nm fun w44 e44 => nm fun w45 e45 => ?_⟩
  clear e43
  obtain ⟨h44, s44⟩ := h39.pushO o40 n40 e44
  have g45 := drE e45
  have h45 := h44.grow g45
  have hin := h.isIn
  have x39 : RdX (fpP g gt vl vo vh) w39 v33 ((reqL host id (flr L nx) c ds).map b8) := (RdX.new r34 n34 h1.isIn).grow g39
  have x45 := (x39.step s44).grow g45
  -- the copy of the command stays
  have hb : w.heap.size ≠ g := by have := h.b.lt; omega
  have b45 : BK w45 w.heap.size (rAsk id c d) tAsk := by
    have b39 := b34.grow g39
    refine ((b39.stepS s44 ?_).grow g45)
    intro hf
    have := hin _ hf
    omega
  refine withAddr_some ⟨_, h45.b.cell 6, _, b45.cell 0, nm fun w49 e49 => ?_⟩
  obtain rfl : w49 = w45 := e49.trans e45.symm
  refine Set_c h45.t (by omega) (by decide) (by omega) fun vh' w51 s51 t51 => ⟨_, rfl, ?_⟩
  obtain ⟨h51, st51⟩ := h45.tim s51 t51
  have hlen : (setF H 0 (IntKind.wrap .i64 id) 4).2.length ≤ H.length + 1 := by
    have a1 : ∀ (H : List (Int × Int)) x, (addF H x).length = H.length + 1 := fun H x => by unfold addF; rw [upF_length]; simp
    unfold setF
    split
    · exact Nat.le_succ _
    · split
      · show (addF _ _).length ≤ _
        rw [a1, remF_length]; omega
      · split
        · exact Nat.le_succ _
        · show (addF _ _).length ≤ _
          rw [a1]; omega
  refine k v40 vh' ⟨0, v33, one33⟩ _ w51 ((Step.of_grow (gA.then g39)).then (s44.then ((Step.of_grow g45).then st51))) h51 hlen ⟨ordL host id (flr L nx) c ds, x45.step st51, n34.of (g0.then g1).size, ?_⟩ rfl
  rw [ordL_len]; omega

end Go.Proofs.Ytmbdbplobnkleaa
