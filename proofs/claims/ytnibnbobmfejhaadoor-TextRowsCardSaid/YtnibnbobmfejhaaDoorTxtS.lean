/- The statement TextRows' contract, joined. -/
import Derived.Test.YtnibnbobmfejhaaDoorTxtR
set_option linter.unusedVariables false
set_option linter.unusedSimpArgs false
set_option maxRecDepth 100000
namespace Go.Proofs.YtnibnbobmfejhaaDoor
open Go Go.CW Go.RowKit

theorem keyT (i : Nat) : textOf [107] ++ textOf (Lib.decDigits i) = textOf (keyN i) := textOf_app _ _

/-- 'append(append([]Pair{}, p...), p[k])', in each order -/
theorem lit_own (w : World) {B : Nat} (hB : B ≤ w.heap.size) {w' : World} (e : w' = World.alloc w (.cells #[] tP)) : OwnR EP w' B tP (.slice (some ⟨w.heap.size, 0, none⟩) 0 0) [] ∧ Grow w w' := by
  subst e
  exact ⟨OwnR.lit w hB tP [] 0 rfl (by simp [maxLen]), Grow.al (Grow.refl w) _⟩
theorem lit_ownB (w : World) {B : Nat} (hB : B ≤ w.heap.size) {w' : World} (e : w' = World.alloc w (.cells #[] tb)) : OwnB w' B tb (.slice (some ⟨w.heap.size, 0, none⟩) 0 0) [] ∧ Grow w w' := by
  subst e
  exact ⟨Own.lit w hB tb #[] 0 rfl (by simp [maxLen]), Grow.al (Grow.refl w) _⟩
theorem nul_rd (w : World) {w' : World} (e : w' = World.alloc w (.cells #[.int .u8 (0 : Int)] tb)) : RdB w' (.slice (some ⟨w.heap.size, 0, none⟩) 1 1) [0] ∧ Grow w w' := by
  obtain ⟨b, g, _⟩ := alE e
  refine ⟨⟨some ⟨w.heap.size, 0, none⟩, 1, by simp, by simp, by simp [maxLen], (fun h => (by cases h)), fun i u hi => ⟨_, rfl, ?_⟩⟩, g⟩
  rw [b.cell]
  rw [← hi]
  simp
  rfl

theorem textRows_s {w : World} (hE : Env w) {v : Value} {l : List (List UInt8)} {t : Int} (hr : RdR ES w v l) (ht : Fits .i64 t) : Go.CW.Spec Tryd.prog 4 #[v, .int .i64 t] w (Law w) := by
  apply gemellaw3_TextRows_wp
  refine (known_s hE).mono fun x w1 ⟨hv, g1⟩ => ⟨true, hv, cond_f rfl ?_⟩
  have ht' := ht.i64
  refine ⟨_, hr.len, cond_intro (fun h => ⟨rfl, g1⟩) (fun h => ?_)⟩
  simp at h
  have hlen : l.length ≤ 30 := by omega
  have hE1 := hE.grow g1
  have hr1 := RdR.grow hr g1
  refine ⟨fun (o : Value) (i : Int) (ww : World) => 0 ≤ i ∧ i ≤ l.length ∧ Grow w1 ww ∧ OwnR EP ww w1.heap.size tP o (prs l i.toNat) ∧ ∀ x ∈ l.take i.toNat, x.length ≤ 100 ∧ (0 : UInt8) ∉ x, fun (o : Value) (i : Int) (ww : World) => (l.length - i).toNat, ?_, ?_⟩
  · dsimp only
    exact ⟨by omega, by omega, Grow.refl _, OwnR.nil _ _ _, by simp⟩
  dsimp only [allR, mapR2, eqN, ltN]
  rintro m o i ww ⟨⟨h0, h1, g, ow, hgood⟩, hm⟩
  refine ⟨_, hr.len, cond_intro (fun h2 => ?_) (fun h2 => ?_)⟩
  · simp at h2
    have hi : i.toNat < l.length := by omega
    obtain ⟨a9, k9, c9⟩ := ES_cell (RdR.grow hr1 g) h0 (by omega)
    have hg1 := g1.then g
    generalize hs : l[i.toNat]'(by omega) = s at *
    refine ⟨a9, k9, _, c9, ?_⟩
    rw [textOf_size]
    refine cond_intro (fun h3 => ⟨rfl, hg1⟩) (fun h3 => ?_)
    simp at h3
    refine ⟨fun (q : Int) (w2 : World) => 0 ≤ q ∧ q ≤ s.length ∧ w2 = ww ∧ (0 : UInt8) ∉ s.take q.toNat, fun (q : Int) (w2 : World) => (s.length - q).toNat, ?_, ?_⟩
    · dsimp only
      exact ⟨by omega, by omega, rfl, by simp⟩
    dsimp only [allR, mapR2, eqN, ltN]
    rintro m2 q w2 ⟨⟨q0, q1, rfl, hz⟩, hm2⟩
    refine ⟨a9, k9, _, c9, cond_intro (fun h4 => ?_) (fun h4 => ?_)⟩
    · rw [textOf_size] at h4
      simp at h4
      have hq : q.toNat < s.length := by omega
      refine ⟨a9, k9, _, c9, ⟨q0, by rw [textOf_size]; omega⟩, ?_⟩
      rw [text_get]
      have e : s.getD q.toNat 0 = s[q.toNat]'hq := by simp [List.getD, hq]
      rw [e]
      refine cond_intro (fun h5 => ⟨rfl, hg1⟩) (fun h5 => ?_)
      rw [wi64_id (n := q + 1) (by omega) (by omega)]
      refine ⟨⟨by omega, by omega, rfl, ?_⟩, by omega⟩
      have e2 : (q + 1).toNat = q.toNat + 1 := by omega
      rw [e2, take_snoc s q.toNat hq]
      simp only [List.mem_append, List.mem_singleton, not_or]
      refine ⟨hz, fun e0 => ?_⟩
      rw [← e0] at h5
      simp at h5
    · rw [textOf_size] at h4
      simp at h4
      rw [List.take_of_length_le (by omega)] at hz
      refine nm fun w18 e18 => ?_
      have g18 := drE e18
      obtain ⟨a19, k19, c19⟩ := ES_cell (RdR.grow (RdR.grow hr1 g) g18) h0 (by omega)
      rw [hs] at c19
      refine ⟨a19, k19, _, c19, nm fun w21 e21 => ?_⟩
      have g21 := drE e21
      have ei : i = ((i.toNat : Nat) : Int) := by omega
      rw [ei]
      refine decimal_c (n := i.toNat) (by omega) fun w23 g23 => ⟨_, rfl, ?_⟩
      have gx := g21.then g23
      obtain ⟨a19', k19', c19'⟩ := ES_cell (RdR.grow (RdR.grow hr1 g) gx) h0 (by omega)
      have ea : a19' = a19 := by rw [k19] at k19'; exact (Option.some.inj k19').symm
      subst ea
      rw [hs] at c19'
      have hd := digits_len_le i.toNat 2 (by omega) (by omega)
      refine ⟨⟨_, c19', rfl⟩, by rw [textOf_size]; omega, nm fun w26 e26 => nm fun w27 e27 => ?_⟩
      rw [mk_text #[107], keyT] at e27
      obtain ⟨r27, g27⟩ := one_rd w23 (keyN i.toNat, s) e27
      have gy := gx.then g27
      have hsz : w1.heap.size ≤ w27.heap.size := Nat.le_trans g.size gy.size
      obtain ⟨v28, w29, k29, o29, n29, b29⟩ := apP (ow.grow gy) r27 (by rw [prs_len]; simp; omega) hsz
      refine ⟨v28, w29, k29, ?_⟩
      rw [wi64_id (n := ((i.toNat : Nat) : Int) + 1) (by omega) (by omega)]
      have e2 : (((i.toNat : Nat) : Int) + 1).toNat = i.toNat + 1 := by omega
      refine ⟨⟨by omega, by omega, (g.then gy).trans b29, ?_, ?_⟩, by omega⟩
      · rw [e2, prs_snoc]
        have : l.getD i.toNat [] = s := by simp [List.getD, hi]; exact hs
        rw [this]; exact o29
      · rw [e2, List.take_add_one, List.getElem?_eq_getElem hi, hs]
        intro x hx
        rcases List.mem_append.1 hx with hx | hx
        · exact hgood x hx
        · simp at hx; subst hx; exact ⟨by omega, hz⟩
  simp at h2
  have hT : l.take i.toNat = l := List.take_of_length_le (by omega)
  rw [hT] at hgood
  have en : i.toNat = l.length := by omega
  rw [en] at ow
  have good : Good l := ⟨hlen, hgood⟩
  have rv := ow.rd
  have hno := good.no
  refine Encode_c rv good.sm (fun h => absurd h (by rw [hno]; simp)) fun _ v33 w32 g32 r33 => ⟨_, _, rfl, ?_⟩
  refine Decode_c (hE1.grow (g.then g32)) r33 good.sm (fun p hp => (good.pr p hp).1) (fun h => absurd h (by rw [hno]; simp)) fun _ v37 w36 g36 r37 => ⟨_, _, rfl, ?_⟩
  refine JoinP.bool (fun x w' => x = false ∧ w' = w36) (fun j hj => cond_f rfl ⟨_, r37.len, _, rv.len, hj _ _ ⟨by simp, rfl⟩⟩) ?_
  rintro x w40 ⟨rfl, rfl⟩
  refine cond_f rfl ?_
  have gB := g.then (g32.then g36)
  have rv40 := RdR.grow rv (g32.then g36)
  have r33' := Rd.grow r33 g36
  refine ⟨fun (q : Int) (w2 : World) => 0 ≤ q ∧ q ≤ l.length ∧ Grow w40 w2, fun (q : Int) (w2 : World) => (l.length - q).toNat, ?_, ?_⟩
  · dsimp only
    exact ⟨by omega, by omega, Grow.refl _⟩
  dsimp only [allR, mapR2, eqN, ltN]
  rintro m3 q w43 ⟨⟨q0, q1, g43⟩, hm3⟩
  refine ⟨_, rv.len, ?_⟩
  rw [prs_len]
  refine cond_intro (fun h3 => ?_) (fun h3 => ?_)
  · simp at h3
    have hq : q.toNat < l.length := by omega
    obtain ⟨a45, k45, c45⟩ := cell_pair (RdR.grow rv40 g43) q0 (by rw [prs_len]; omega)
    rw [prs_at] at c45
    have ev : l.getD q.toNat [] = l[q.toNat]'hq := by simp [List.getD, hq]
    refine ⟨a45, k45, textOf (keyN q.toNat), ((c45 _ (Grow.refl _)).2 0 (by omega)).trans rfl, Find_c (RdR.grow r37 g43) fun w48 g48 => ⟨_, _, rfl, ?_⟩⟩
    rw [find_pr hq]
    have gw := g43.then g48
    refine JoinP.bool (fun x w' => x = false ∧ Grow w40 w') (fun j hj => nm fun w54 e54 => cond_f rfl ?_) ?_
    · have g54 := drE e54
      obtain ⟨a56, k56, c56⟩ := ES_cell (RdR.grow hr1 (gB.then (gw.then g54))) q0 (by omega)
      refine ⟨a56, k56, _, c56, ?_⟩
      have eq1 : ((some (keyN q.toNat, l.getD q.toNat [])).map (·.2)).getD [] = l[q.toNat]'hq := by simp only [Option.map_some, Option.getD_some, ev]
      rw [eq1, text_beq']
      refine cond_f (by simp) ?_
      obtain ⟨a59, k59, c59⟩ := cell_pair (RdR.grow r37 (gw.then g54)) q0 (by rw [prs_len]; omega)
      obtain ⟨a62, k62, c62⟩ := cell_pair (RdR.grow rv40 (gw.then g54)) q0 (by rw [prs_len]; omega)
      exact ⟨a59, k59, _, _, c59 _ (Grow.refl _), a62, k62, _, _, c62 _ (Grow.refl _), false, pair_neq _ _ _, fun x y => pair_guard _ x y _ _ _ _, nm fun w68 e68 => hj _ _ ⟨rfl, gw.then (drE e68)⟩⟩
    rintro x w52 ⟨rfl, g52⟩
    rw [wi64_id (n := q + 1) (by omega) (by omega)]
    exact cond_f rfl ⟨⟨by omega, by omega, g52⟩, by omega⟩
  have gAll : Grow w w43 := g1.then (gB.then g43)
  refine JoinP.bool (fun x w' => (x = false → l.length ≠ 0 ∧ 0 ≤ t) ∧ w' = w43) (fun j hj => ⟨_, rv.len, ?_⟩) ?_
  · rw [prs_len]
    refine cond_intro (fun h4 => hj _ _ ⟨(fun e => (by cases e)), rfl⟩) (fun h4 => hj _ _ ⟨fun e => ?_, rfl⟩)
    simp at h4 e
    exact ⟨by simpa using h4, e⟩
  rintro x w70 ⟨hx, rfl⟩
  refine cond_intro (fun h4 => ⟨rfl, gAll⟩) (fun h4 => ?_)
  obtain ⟨hn0, t0⟩ := hx h4
  refine ⟨_, rv.len, ?_⟩
  rw [prs_len]
  have et : Int.tmod t (l.length : Int) = ((t.toNat % l.length : Nat) : Int) := by rw [Int.tmod_eq_emod_of_nonneg t0, Int.natCast_emod, Int.toNat_of_nonneg t0]
  have hk : t.toNat % l.length < l.length := Nat.mod_lt _ (by omega)
  rw [et]
  generalize t.toNat % l.length = k at *
  have rv70 := RdR.grow rv40 g43
  have r33_70 := Rd.grow r33' g43
  obtain ⟨aK, kK, cK⟩ := cell_pair rv70 (i := (k : Int)) (by omega) (by rw [prs_len]; omega)
  have ekn : ((k : Int)).toNat = k := by omega
  rw [prs_at] at cK
  rw [ekn] at cK
  have evk : l.getD k [] = l[k]'hk := by simp [List.getD, hk]
  generalize hvk : l.getD k [] = vk at *
  have hvm : vk.length ≤ 100 ∧ (0 : UInt8) ∉ vk := by rw [evk]; exact hgood _ (List.getElem_mem hk)
  have hkl := keyN_len (i := k) (by omega)
  have mem : (keyN k, vk) ∈ prs l l.length := List.mem_map.2 ⟨k, List.mem_range.2 hk, by rw [hvk]⟩
  have hlp := prs_len l l.length
  have enc1 : ∀ {u : Value} {W : World} {K : KV}, RdR EP W u (prs l l.length ++ [(keyN k, vk)]) → (∀ w', Grow W w' → K (.tuple #[.slice none 0 0, .int .i64 1]) w') → Go.CW.Spec Tryd.prog 10 #[u] W K := fun hr hk1 =>
    Encode_c hr (good.sm1 hkl hvm.1) (fun _ => hk1) (fun hf => absurd hf (by rw [wrong_dup _ [] _ (.inr ⟨_, mem, rfl⟩)]; simp))
  have dec1 : ∀ {u : Value} {W : World} {K : KV}, Env W → RdB W u (encB (prs l l.length ++ [(keyN k, [])])) → (∀ w', Grow W w' → K (.tuple #[.slice none 0 0, .int .i64 2]) w') → Go.CW.Spec Tryd.prog 11 #[u] W K := fun hE hr hk1 =>
    Decode_c hE hr (good.sm1 hkl (by simp)) (fun p hp => by
      rcases List.mem_append.1 hp with e | e
      · exact (good.pr p e).1
      · simp only [List.mem_singleton] at e; subst e; exact right_key (by omega) (by simp) (by simp)) (fun _ => hk1) (fun hf => absurd hf (by rw [wrong_dup (prs l l.length) [] (keyN k, []) (.inr ⟨_, mem, rfl⟩)]; simp))
  have encE : encB (prs l l.length ++ [(keyN k, [])]) = encB (prs l l.length) ++ ((keyN k ++ [61]) ++ [0]) := by simp [encB, encP]
  have tot := (good.sm1 (q := (keyN k, [])) hkl (by simp)).tot
  rw [encE, List.length_append] at tot
  refine nzK_intro (by omega) (JoinP.int (fun n w' => n = 1 ∧ Grow w70 w') (fun j hj => ?_) ?_)
  · refine nm fun w133 e133 => ?_
    refine ⟨aK, kK, textOf (keyN k), textOf vk, cK _ (drE e133), nm fun w137 e137 => ?_⟩
    have g137 := drE e137
    have rv137 := RdR.grow rv70 g137
    refine ⟨⟨⟨_, _, cK _ (g137.then (Grow.al (Grow.refl _) _)), rfl⟩, nm fun w140 e140 => nm fun w141 e141 => ?_⟩, nm fun w166 e166 => nm fun w167 e167 => ?_⟩
    · obtain ⟨o141, g141⟩ := lit_own w137 (Nat.le_refl _) e141
      refine ⟨?_, nm fun w154 e154 => nm fun w155 e155 => ?_⟩
      · obtain ⟨v142, w143, k143, o143, n143, b143⟩ := apP o141 (RdR.grow rv137 g141) (by rw [hlp]; simp; omega) g141.size
        rw [List.nil_append] at o143
        have g143 : Grow w137 w143 := g141.trans b143
        refine ⟨v142, w143, k143, ⟨_, _, cK _ (g137.then g143), rfl⟩, nm fun w146 e146 => nm fun w147 e147 => ?_⟩
        obtain ⟨r147, g147⟩ := one_rd w143 (keyN k, vk) e147
        obtain ⟨v148, w149, k149, o149, n149, b149⟩ := apP (o143.grow g147) r147 (by rw [hlp]; simp; omega) (Nat.le_trans g143.size g147.size)
        exact ⟨v148, w149, k149, enc1 o149.rd fun w151 g151 => ⟨_, _, rfl, hj _ _ ⟨rfl, g137.then (Grow.then ((g143.then g147).trans b149) g151)⟩⟩⟩
      · obtain ⟨r155, g155⟩ := one_rd w141 (keyN k, vk) e155
        have hlt : w137.heap.size < w141.heap.size := (o141.lt _ rfl).2
        obtain ⟨v156, w157, k157, o157, n157, b157⟩ := apP (o141.grow g155) (RdR.grow rv137 (g141.then g155)) (by rw [hlp]; simp; omega) (Nat.le_trans g141.size g155.size)
        rw [List.nil_append] at o157
        have g157 : Grow w137 w157 := (g141.then g155).trans b157
        have r157 : RdR EP w157 (.slice (some ⟨w141.heap.size, 0, none⟩) 1 1) [(keyN k, vk)] := r155.stable fun q hq => by
          injection hq with hq
          subst hq
          refine n157.by_.block _ ?_ ?_
          · have := (alE e155).2.2; show w141.heap.size < _; omega
          · show some w141.heap.size ≠ some w137.heap.size
            simp; omega
        refine ⟨v156, w157, k157, ⟨_, _, cK _ (g137.then g157), rfl⟩, ?_⟩
        obtain ⟨v160, w161, k161, o161, n161, b161⟩ := apP o157 r157 (by rw [hlp]; simp; omega) g157.size
        exact ⟨v160, w161, k161, enc1 o161.rd fun w163 g163 => ⟨_, _, rfl, hj _ _ ⟨rfl, g137.then (Grow.then (g157.trans b161) g163)⟩⟩⟩
    · obtain ⟨r167, g167⟩ := one_rd w137 (keyN k, vk) e167
      refine ⟨⟨_, _, cK _ ((g137.then g167).then (Grow.al (Grow.refl _) _)), rfl⟩, nm fun w170 e170 => nm fun w171 e171 => ?_⟩
      obtain ⟨o171, g171⟩ := lit_own w167 (Nat.le_refl _) e171
      obtain ⟨v172, w173, k173, o173, n173, b173⟩ := apP o171 (RdR.grow rv137 (g167.then g171)) (by rw [hlp]; simp; omega) g171.size
      rw [List.nil_append] at o173
      have g173 : Grow w167 w173 := g171.trans b173
      refine ⟨v172, w173, k173, ⟨_, _, cK _ ((g137.then g167).then g173), rfl⟩, ?_⟩
      obtain ⟨v176, w177, k177, o177, n177, b177⟩ := apP o173 (RdR.grow r167 g173) (by rw [hlp]; simp; omega) g173.size
      exact ⟨v176, w177, k177, enc1 o177.rd fun w179 g179 => ⟨_, _, rfl, hj _ _ ⟨rfl, (g137.then g167).then (Grow.then (g173.trans b177) g179)⟩⟩⟩
  rintro n w73 ⟨rfl, g73⟩
  refine JoinP.int (fun n w' => n = 2 ∧ Grow w70 w') (fun j hj => ?_) ?_
  · refine nm fun w80 e80 => ?_
    have cell0 : ∀ {W : World}, Grow w73 W → Go.World.cell? W (Addr.add aK 0) = some (.string (textOf (keyN k))) := fun gg => ((cK _ (g73.then gg)).2 0 (by omega)).trans rfl
    refine ⟨aK, kK, _, cell0 (drE e80), by rw [textOf_size]; omega, nm fun w83 e83 => ?_⟩
    have g83 := drE e83
    have r83 := Rd.grow r33_70 (g73.then g83)
    have E83 : Env w83 := (hE1.grow (gB.then g43)).grow (g73.then g83)
    rw [mk_text #[61], textOf_app]
    have al : ∀ {W : World} {o : Obj}, Grow w83 W → Grow w73 (World.alloc W o) := fun gg => (g83.then gg).then (Grow.al (Grow.refl _) _)
    have szk : (textOf (keyN k ++ [61])).size + (textOf [0]).size ≤ 9223372036854775807 := by simp only [textOf_size]; simp; omega
    refine ⟨⟨⟨_, cell0 (al (Grow.refl _)), rfl⟩, nm fun w85 e85 => nm fun w86 e86 => ?_⟩, ⟨⟨_, cell0 (al (Grow.refl _)), rfl⟩, nm fun w115 e115 => ?_⟩⟩
    · obtain ⟨o86, g86⟩ := lit_ownB w83 (Nat.le_refl _) e86
      refine ⟨?_, ⟨_, cell0 (al g86), rfl⟩, nm fun w101 e101 => ?_⟩
      · obtain ⟨v87, w88, k88, o88, n88⟩ := app_bytes o86 (Rd.grow r83 g86) g86.size (by simp; omega)
        rw [List.nil_append] at o88
        have g88 : Grow w83 w88 := g86.trans (n88.below g86.size o86.blk)
        refine ⟨v87, w88, k88, ⟨_, cell0 (g83.then g88), rfl⟩, ⟨_, cell0 (al g88), rfl⟩, nm fun w91 e91 => ?_⟩
        obtain ⟨r91, _⟩ := nul_rd w88 e91
        refine ⟨_, to_text r91, szk, nm fun w93 e93 => ?_⟩
        obtain ⟨r93, g93⟩ := nul_rd w88 e93
        rw [textOf_app]
        obtain ⟨v94, w95, k95, o95, b95⟩ := app_textO (l := (keyN k ++ [61]) ++ [0]) (Own.grow o88 g93) (by omega) (Nat.le_trans g88.size g93.size)
        rw [← encE] at o95
        have gz := (g88.then g93).trans b95
        exact ⟨v94, w95, k95, dec1 (E83.grow gz) o95.rd fun w97 g97 => ⟨_, _, rfl, hj _ _ ⟨rfl, g73.then (g83.then (Grow.then gz g97))⟩⟩⟩
      · obtain ⟨r101, _⟩ := nul_rd w86 e101
        refine ⟨_, to_text r101, szk, nm fun w103 e103 => ?_⟩
        obtain ⟨r103, g103⟩ := nul_rd w86 e103
        obtain ⟨v104, w105, k105, o105, n105⟩ := app_bytes (Own.grow o86 g103) (Rd.grow r83 (g86.then g103)) (Nat.le_trans g86.size g103.size) (by simp; omega)
        rw [List.nil_append] at o105
        have g105 : Grow w83 w105 := (g86.then g103).trans (n105.below (Nat.le_trans g86.size g103.size) (Own.grow o86 g103).blk)
        have hlt : w83.heap.size < w86.heap.size := (alE e86).2.2 ▸ Nat.lt_succ_self _
        have r105 : RdB w105 (.slice (some ⟨w86.heap.size, 0, none⟩) 1 1) [0] := by
          refine Rd.kept r103 fun a u ha hb => (cell_of_heap (n105.by_.block a.block ?_ ?_)).trans ha
          · have hq : w86.heap.size = a.block := Option.some.inj hb
            have h103 : w103.heap.size = w86.heap.size + 1 := (alE e103).2.2
            rw [h103, ← hq]
            exact Nat.lt_succ_self _
          · have hq : w86.heap.size = a.block := Option.some.inj hb
            rw [← hq]
            show some w86.heap.size ≠ some w83.heap.size
            simp; omega
        refine ⟨v104, w105, k105, ⟨_, cell0 (g83.then g105), rfl⟩, ⟨_, to_text r105, rfl⟩, ?_⟩
        rw [textOf_app]
        obtain ⟨v108, w109, k109, o109, b109⟩ := app_textO (l := (keyN k ++ [61]) ++ [0]) o105 (by omega) g105.size
        rw [← encE] at o109
        have gz := g105.trans b109
        exact ⟨v108, w109, k109, dec1 (E83.grow gz) o109.rd fun w111 g111 => ⟨_, _, rfl, hj _ _ ⟨rfl, g73.then (g83.then (Grow.then gz g111))⟩⟩⟩
    · obtain ⟨r115, _⟩ := nul_rd w83 e115
      refine ⟨_, to_text r115, szk, nm fun w117 e117 => ?_⟩
      obtain ⟨r117, g117⟩ := nul_rd w83 e117
      refine ⟨⟨_, cell0 (al g117), rfl⟩, ⟨_, to_text (Rd.grow r117 (Grow.al (Grow.refl _) _)), rfl⟩, nm fun w120 e120 => nm fun w121 e121 => ?_⟩
      obtain ⟨o121, g121⟩ := lit_ownB w117 (Nat.le_refl _) e121
      obtain ⟨v122, w123, k123, o123, n123⟩ := app_bytes o121 (Rd.grow r83 (g117.then g121)) g121.size (by simp; omega)
      rw [List.nil_append] at o123
      have g123 : Grow w117 w123 := g121.trans (n123.below g121.size o121.blk)
      refine ⟨v122, w123, k123, ⟨_, cell0 (g83.then (g117.then g123)), rfl⟩, ⟨_, to_text (Rd.grow r117 g123), rfl⟩, ?_⟩
      rw [textOf_app]
      obtain ⟨v126, w127, k127, o127, b127⟩ := app_textO (l := (keyN k ++ [61]) ++ [0]) o123 (by omega) g123.size
      rw [← encE] at o127
      have gz := g117.then (g123.trans b127)
      exact ⟨v126, w127, k127, dec1 (E83.grow gz) o127.rd fun w129 g129 => ⟨_, _, rfl, hj _ _ ⟨rfl, g73.then (g83.then (Grow.then gz g129))⟩⟩⟩
  rintro n w75 ⟨rfl, g75⟩
  exact JoinP.go (cond_t rfl ⟨rfl, gAll.then g75⟩)

end Go.Proofs.YtnibnbobmfejhaaDoor
