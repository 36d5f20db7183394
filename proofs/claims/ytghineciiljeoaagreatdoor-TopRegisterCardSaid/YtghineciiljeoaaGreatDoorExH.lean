/- Runs in which nothing is unknown: the other operations imply their formulas. For every program. -/
import Derived.Test.YtghineciiljeoaaGreatDoorExG
import Derived.Laws.MakeOwn
import Derived.Laws.IdiomStrings
import Derived.MapKept
import Derived.Deep.Upon
import Derived.Lib.AppendZeros
namespace Go.CW.Ex
open Go.RowKit

variable {P : Program} {w0 w : World} {B : Nat} {φ : PM} {h h' : H}

/-- what an operation comes to -/
def Ok (w0 : World) (B : Nat) (φ : PM) (v : EV) (h' : H) : KV := fun x w' => ∃ φ', Ext φ φ' ∧ upV φ' v = some x ∧ Hd w0 B φ' h' w'

theorem exRW_of {φ : PM} {r : Rep} {v : EV} {x : Value} {w' : World} (h : repE r v = true) (hv : upV φ v = some x) {A K : Value → World → Prop} (a : A x w') (k : K x w') : exRW r A K := by
  cases r with
  | int k' => cases v with
    | int k'' n => simp only [repE] at h; obtain rfl := kEq_eq h; simp only [upV, Option.some.injEq] at hv; subst hv; exact ⟨n, w', a, k⟩
    | _ => cases h
  | bool => cases v with
    | bool b => simp only [upV, Option.some.injEq] at hv; subst hv; exact ⟨b, w', a, k⟩
    | _ => cases h
  | str => cases v with
    | str s => simp only [upV, Option.some.injEq] at hv; subst hv; exact ⟨_, w', a, k⟩
    | _ => cases h
  | ptr => cases v with
    | ptr b o => simp only [upV] at hv; split at hv <;> cases hv; exact ⟨_, w', a, k⟩
    | nilp => simp only [upV, Option.some.injEq] at hv; subst hv; exact ⟨_, w', a, k⟩
    | _ => cases h
  | val => exact ⟨x, w', a, k⟩

/-! ### noughts, parts -/
theorem cellsE_up {v : EV} {x : Value} (h : upV φ v = some x) : upL φ (cellsE v) = some x.cells.toList := by
  have one : ∀ v x, upV φ v = some x → x.cells = #[x] → upL φ [v] = some x.cells.toList := fun v x h e => by rw [e]; exact upL_cons.2 ⟨x, [], h, upL_nil.2 rfl, rfl⟩
  cases v with
  | agg l =>
    simp only [upV] at h
    split at h
    · next l' hl => cases h; simpa [cellsE, Value.cells] using hl
    · cases h
  | tup l =>
    simp only [cellsE]
    simp only [upV] at h
    split at h
    · next l' hl => cases h; exact one _ _ (by simp only [upV, hl]) rfl
    · cases h
  | ptr b o => simp only [cellsE]; exact one _ _ h (cells_one (upV_one h rfl))
  | sl b o l c => simp only [cellsE]; exact one _ _ h (cells_one (upV_one h rfl))
  | su b o l => simp only [cellsE]; exact one _ _ h (cells_one (upV_one h rfl))
  | st b o l z => simp only [cellsE]; exact one _ _ h (cells_one (upV_one h rfl))
  | mp b => simp only [cellsE]; exact one _ _ h (cells_one (upV_one h rfl))
  | fn f a c => simp only [cellsE]; exact one _ _ h (cells_one (upV_one h rfl))
  | _ => simp only [cellsE]; exact one _ _ h (cells_one (upV_one h rfl))

theorem zeroE_sound {t : TypeId} {cs : List EV} (h : zeroE P t = some cs) : ∃ z, (P.info? t).bind (·.zero) = some z ∧ upL φ cs = some z.cells.toList := by
  unfold zeroE at h
  split at h
  · next z hz =>
    split at h
    · next v hv => cases h; exact ⟨z, hz, cellsE_up (dnV_sound φ z hv)⟩
    · cases h
  · cases h

theorem repl_up {z : List EV} {xs : List Value} (h : upL φ z = some xs) : ∀ n, upL φ (repl n z) = some (List.flatten (List.replicate n xs)) := by
  intro n
  induction n with
  | zero => exact upL_nil.2 rfl
  | succ n ih => simp only [repl, List.replicate_succ, List.flatten_cons]; exact upL_append h ih

theorem repl_len {z : List EV} (n : Nat) : (repl n z).length = n * z.length := by
  induction n with
  | zero => simp [repl]
  | succ n ih => simp only [repl, List.length_append, ih, Nat.succ_mul]; omega

theorem repl_one {z : List EV} (h : allOneE z = true) (n : Nat) : allOneE (repl n z) = true := by
  have app : ∀ {a b : List EV}, allOneE a = true → allOneE b = true → allOneE (a ++ b) = true := by
    intro a
    induction a with
    | nil => intro b _ h; exact h
    | cons x a ih => intro b h1 h2; simp only [allOneE, Bool.and_eq_true, List.cons_append] at h1 ⊢; exact ⟨h1.1, ih h1.2 h2⟩
  induction n with
  | zero => rfl
  | succ n ih => exact app h ih

theorem setL_get : ∀ (vs cells : List Value) (off i : Nat), off + vs.length ≤ cells.length → (setL cells off vs)[i]? = if off ≤ i ∧ i < off + vs.length then vs[i - off]? else cells[i]? := by
  intro vs
  induction vs with
  | nil => intro cells off i _; simp only [setL, List.length_nil, Nat.add_zero]; rw [if_neg (by omega)]
  | cons v vs ih =>
    intro cells off i h
    simp only [List.length_cons] at h
    simp only [setL]
    rw [ih _ _ _ (by simp; omega)]
    simp only [List.length_cons]
    by_cases c2 : i = off
    · subst c2
      rw [if_neg (by omega), if_pos (by omega), List.getElem?_set]
      simp; omega
    · by_cases c1 : off + 1 ≤ i ∧ i < off + 1 + vs.length
      · rw [if_pos c1, if_pos (by omega)]
        have e : i - off = (i - (off + 1)) + 1 := by omega
        rw [e, List.getElem?_cons_succ]
      · rw [if_neg c1, if_neg (by omega), List.getElem?_set, if_neg (by omega)]

theorem lay_get (vs cells : List Value) (off i : Nat) (h : off + vs.length ≤ cells.length) : (cells.take off ++ vs ++ cells.drop (off + vs.length))[i]? = if off ≤ i ∧ i < off + vs.length then vs[i - off]? else cells[i]? := by
  rw [List.append_assoc]
  by_cases c1 : i < off
  · rw [List.getElem?_append_left (by simp; omega), List.getElem?_take, if_pos c1, if_neg (by omega)]
  · rw [List.getElem?_append_right (by simp; omega)]
    have e : i - (cells.take off).length = i - off := by simp; omega
    rw [e]
    by_cases c2 : i < off + vs.length
    · rw [List.getElem?_append_left (by omega), if_pos (by omega)]
    · rw [List.getElem?_append_right (by omega), if_neg (by omega), List.getElem?_drop]
      congr 1; omega

theorem setL_eq (vs cells : List Value) (off : Nat) (h : off + vs.length ≤ cells.length) : setL cells off vs = cells.take off ++ vs ++ cells.drop (off + vs.length) := by
  apply List.ext_getElem?
  intro i
  rw [setL_get _ _ _ _ h, lay_get _ _ _ _ h]

theorem fillE_sound {place : Nat → Option (Nat × Nat)} : ∀ {parts : List (Nat × EV)} {cells out : List EV} {xs : List Value} {qs : List (Nat × Value)} {K : List Value → Prop}, fillE place cells parts = some out → upL φ cells = some xs → upP φ parts qs →
    (∀ ys, upL φ out = some ys → ys.length = xs.length → K ys) → fillK place K xs qs := by
  intro parts
  induction parts with
  | nil =>
    intro cells out xs qs K h hx hp hK
    cases qs with
    | nil => simp only [fillE] at h; cases h; exact hK xs hx rfl
    | cons q qs => have := hp.1; simp at this
  | cons p parts ih =>
    obtain ⟨i, v⟩ := p
    intro cells out xs qs K h hx hp hK
    cases qs with
    | nil => have := hp.1; simp at this
    | cons q qs =>
      obtain ⟨j, x⟩ := q
      obtain ⟨h1, h2⟩ := hp
      simp only [List.map_cons, List.cons.injEq] at h1 h2
      obtain ⟨rfl, h1⟩ := h1
      obtain ⟨x', ys, h3, h4, h5⟩ := upL_cons.1 h2
      cases h5
      simp only [fillE] at h
      simp only [fillK]
      split at h
      · cases h
      · next off size hpl =>
        rw [hpl]
        simp only
        have single : isOneE v = true → (bif Nat.beq size 1 then (match layE off [v] cells with | some c => fillE place c parts | none => none) else none) = some out →
            (bif Nat.beq size 1 then oneK' x (bif Nat.ble (off + 1) xs.length then fillK place K (xs.set off x) qs else False)
             else bif Nat.beq x.cells.size size && Nat.ble (off + x.cells.size) xs.length then fillK place K (setL xs off x.cells.toList) qs else False) := by
          intro ho h
          cases hb : Nat.beq size 1
          · rw [hb] at h; cases h
          · rw [hb] at h
            simp only [cond_true] at h ⊢
            split at h
            · next c hl =>
              obtain ⟨k1, k2⟩ := layE_spec hl hx (upL_cons.2 ⟨x, [], h3, upL_nil.2 rfl, rfl⟩)
              simp only [List.length_cons, List.length_nil, Nat.zero_add] at k1 k2
              have hble : Nat.ble (off + 1) xs.length = true := by rw [Nat.ble_eq]; exact k2
              refine oneK'_i (upV_one h3 ho) ?_
              rw [hble]
              simp only [cond_true]
              have e : xs.take off ++ [x] ++ xs.drop (off + 1) = xs.set off x := by
                rw [List.set_eq_take_append_cons_drop, if_pos (by omega)]; simp
              rw [e] at k1
              exact ih h k1 ⟨h1, h4⟩ fun ys hy hl2 => hK ys hy (by simpa using hl2)
            · cases h
        split at h
        · next l =>
          simp only [upV] at h3
          split at h3
          · next l' hl' =>
            cases h3
            cases hb : Nat.beq size 1
            · rw [hb] at h
              simp only [cond_false] at h ⊢
              cases hs : Nat.beq (lenE l 0) size
              · rw [hs] at h; cases h
              · rw [hs] at h
                simp only [cond_true] at h
                split at h
                · next c hl =>
                  obtain ⟨k1, k2⟩ := layE_spec hl hx hl'
                  have hsz : l'.length = size := by rw [upL_length hl']; have := Nat.eq_of_beq_eq_true hs; rw [lenE_eq] at this; simpa using this
                  have hc : (Value.agg l'.toArray).cells = l'.toArray := rfl
                  rw [hc]
                  have hbb : (Nat.beq l'.toArray.size size && Nat.ble (off + l'.toArray.size) xs.length) = true := by
                    rw [Bool.and_eq_true, Nat.beq_eq, Nat.ble_eq]; simp; exact ⟨hsz, k2⟩
                  rw [hbb]
                  simp only [cond_true]
                  rw [setL_eq _ _ _ (by simpa using k2)]
                  exact ih h k1 ⟨h1, h4⟩ fun ys hy hl2 => hK ys hy (by simp at hl2; omega)
                · cases h
            · rw [hb] at h; cases h
          · cases h3
        · cases h
        · next hna hnt =>
          exact single (by cases v <;> first | rfl | exact (hna _ rfl).elim | exact (hnt _ rfl).elim) h

theorem bdE_sound {t : TypeId} {ps : List (Nat × EV)} {qs : Array (Nat × Value)} {v : EV} (hb : bdE P t ps = some v) (hp : upP φ ps qs.toList) {K : KV} (hK : ∀ V, upV φ v = some V → K V w) : bdK P t qs w K := by
  unfold bdE at hb
  split at hb
  · next z fields hz hu =>
    obtain ⟨Z, hZ, hzu⟩ := zeroE_sound (φ := φ) hz
    split at hb
    · next places hpl =>
      split at hb
      · next cs hf =>
        cases hb
        unfold bdK
        rw [hZ, hu]
        unfold placesOf at hpl
        simp only [hpl]
        exact fillE_sound hf hzu hp fun ys hy _ => hK _ (by simp only [upV, hy])
      · cases hb
    · cases hb
  · next z n e hz hu =>
    obtain ⟨Z, hZ, hzu⟩ := zeroE_sound (φ := φ) hz
    split at hb
    · next size hsz =>
      split at hb
      · next cs hf =>
        cases hb
        unfold bdK
        unfold szOf at hsz
        rw [hZ, hu]
        simp only [hsz]
        exact fillE_sound hf hzu hp fun ys hy _ => hK _ (by simp only [upV, hy])
      · cases hb
    · cases hb
  · cases hb

/-! ### new blocks -/
theorem alE_sound (r : Hd w0 B φ h w) {key : Option Nat} {t : TypeId} {v : EV} (ha : alE P key t h = some (v, h')) {K : KV} (hK : ∀ x w', Ok w0 B φ v h' x w' → K x w') : alK P t w K := by
  unfold alE at ha
  split at ha
  · next cs hz =>
    cases hb : allOneE cs && Nat.ble (lenE cs 0) 65536
    · rw [hb] at ha; cases ha
    rw [hb] at ha
    rw [Bool.and_eq_true, Nat.ble_eq, lenE_eq] at hb
    simp only [cond_true] at ha
    split at ha
    · next b h'' hm =>
      cases ha
      obtain ⟨Z, hZ, hzu⟩ := zeroE_sound (φ := φ) hz
      have k := NewKey.mkAt r hm
      have hl := upL_length hzu
      unfold alK
      rw [hZ]
      refine hK _ _ ⟨_, PM.ext_set k.fre, ?_, r.newRow k hzu (upL_one hzu hb.1) (C := Z.cells) (lo := 0) (hi := 0) (fun i hi => by simp) (by simp) ?_ (fun i _ => by omega)⟩
      · simp only [upV, PM.set, if_true, Nat.add_zero]
      · rw [Nat.div_one]
        have : Z.cells.size = cs.length := by rw [← hl]; simp
        simp only [maxLen]; omega
    · cases ha
  · cases ha

theorem boxE_sound (r : Hd w0 B φ h w) {key : Option Nat} {t : TypeId} {v u : EV} {X : Value} (ha : boxE key t u h = some (v, h')) (hx : upV φ u = some X) {K : KV} (hK : ∀ x w', Ok w0 B φ v h' x w' → K x w') :
    K (.pointer (some ⟨w.heap.size, 0, none⟩)) (w.alloc (.cells X.cells t)) := by
  unfold boxE at ha
  cases hb : allOneE (cellsE u) && Nat.ble (lenE (cellsE u) 0) 65536
  · rw [hb] at ha; cases ha
  rw [hb] at ha
  rw [Bool.and_eq_true, Nat.ble_eq, lenE_eq] at hb
  simp only [cond_true] at ha
  split at ha
  · next b h'' hm =>
    cases ha
    have k := NewKey.mkAt r hm
    have hc := cellsE_up hx
    have hl := upL_length hc
    refine hK _ _ ⟨_, PM.ext_set k.fre, ?_, r.newRow k hc (upL_one hc hb.1) (C := X.cells) (lo := 0) (hi := 0) (fun i hi => by simp) (by simp) ?_ (fun i _ => by omega)⟩
    · simp only [upV, PM.set, if_true, Nat.add_zero]
    · rw [Nat.div_one]
      have : X.cells.size = (cellsE u).length := by rw [← hl]; simp
      simp only [maxLen]; omega
  · cases ha

theorem bsE_sound (r : Hd w0 B φ h w) {key : Option Nat} {t : TypeId} {n : Nat} {ps : List (Nat × EV)} {qs : Array (Nat × Value)} {v : EV} (ha : bsE P key t n ps h = some (v, h')) (hp : upP φ ps qs.toList)
    {K : KV} (hK : ∀ x w', Ok w0 B φ v h' x w' → K x w') : bsK P t n qs w K := by
  unfold bsE at ha
  split at ha
  · next e hu =>
    split at ha
    · next size z hsz hz =>
      cases hb : Nat.ble (n * size) 1024 && Nat.blt 0 size && Nat.beq (lenE z 0) size
      · rw [hb] at ha; cases ha
      rw [hb] at ha
      simp only [Bool.and_eq_true, Nat.ble_eq, Nat.blt_eq, Nat.beq_eq] at hb
      obtain ⟨⟨hb1, hb2⟩, hb3⟩ := hb
      rw [lenE_eq, Nat.add_zero] at hb3
      simp only [cond_true] at ha
      split at ha
      · next cs hf =>
        cases ho : allOneE cs
        · rw [ho] at ha; cases ha
        rw [ho] at ha
        simp only [cond_true] at ha
        split at ha
        · next b h'' hm =>
          cases ha
          obtain ⟨Z, hZ, hzu⟩ := zeroE_sound (φ := φ) hz
          have hzl : Z.cells.size = size := by have := upL_length hzu; simp at this; omega
          unfold szOf at hsz
          unfold bsK
          rw [hu]
          obtain ⟨info, hinfo, hsize⟩ := Option.map_eq_some_iff.1 hsz
          have hzz : info.zero = some Z := by rw [hinfo] at hZ; exact hZ
          simp only [hinfo, Option.map_some, hsize, hzz]
          have hbb : (Nat.ble (n * size) 1024 && Nat.blt 0 size && Nat.beq Z.cells.size size) = true := by
            simp only [Bool.and_eq_true, Nat.ble_eq, Nat.blt_eq, Nat.beq_eq]; exact ⟨⟨hb1, hb2⟩, hzl⟩
          rw [hbb]
          simp only
          refine fillE_sound hf (repl_up hzu n) hp fun ys hy hyl => ?_
          have k := NewKey.mkAt r hm
          refine hK _ _ ⟨_, PM.ext_set k.fre, ?_, r.newRow k hy (upL_one hy ho) (C := ys.toArray) (lo := 0) (hi := 0) (fun i hi => by simp) (by simp) ?_ (fun i _ => by omega)⟩
          · simp only [upV, PM.set, if_true, Nat.add_zero]
          · have e := repl_len (z := z) n
            have := upL_length (repl_up hzu n)
            rw [e, hb3] at this
            have h2 : ys.toArray.size ≤ 1024 := by simp; omega
            exact Nat.le_trans (Nat.div_le_self _ _) (by simp only [maxLen]; omega)
        · cases ha
      · cases ha
    · cases ha
  · cases ha

theorem mkE_sound (r : Hd w0 B φ h w) {key : Option Nat} {t : TypeId} {l c v : EV} {L C : Value} (ha : mkE P key t l c h = some (v, h')) (hl : upV φ l = some L) (hc : upV φ c = some C) {K : KV} (hK : ∀ x w', Ok w0 B φ v h' x w' → K x w') :
    rawS P .val (Instr.makeSlice t L C) w K := by
  unfold mkE at ha
  split at ha
  · next e hu =>
    split at ha
    · next i z hi hz =>
      split at ha
      · next k1 n k2 m =>
        simp only [upV, Option.some.injEq] at hl hc
        subst hl hc
        cases hb : Nat.ble n m && Nat.ble m 1099511627776 && Nat.ble (m * i.bytes) 281474976710656 && Nat.beq (lenE z 0) i.size && Nat.blt 0 i.size && allOneE z
        · rw [hb] at ha; cases ha
        rw [hb] at ha
        simp only [Bool.and_eq_true, Nat.ble_eq, Nat.blt_eq, Nat.beq_eq, lenE_eq, Nat.add_zero] at hb
        obtain ⟨⟨⟨⟨⟨b1, b2⟩, b3⟩, b4⟩, b5⟩, b6⟩ := hb
        simp only [cond_true] at ha
        split at ha
        · next b h'' hm =>
          cases ha
          obtain ⟨Z, hZ, hzu⟩ := zeroE_sound (φ := φ) hz
          have hzz : i.zero = some Z := by rw [hi] at hZ; exact hZ
          have hzl : Z.cells.size = i.size := by have := upL_length hzu; simp at this; omega
          have hbi : (i.bytes : Int) * (m : Int) ≤ 281474976710656 := by
            have : ((i.bytes * m : Nat) : Int) ≤ 281474976710656 := by rw [Nat.mul_comm]; omega
            rwa [Int.natCast_mul] at this
          have hrun := run_make (P := P) w t e i Z hu hi hzz k1 k2 (Int.ofNat n) (Int.ofNat m) (by simp) (by simp; omega) hbi (by simp; omega)
          have k := NewKey.mkAt r hm
          have hyu := repl_up hzu m
          have hmc : (madeCells Z.cells (m * i.size)) = (List.flatten (List.replicate m Z.cells.toList)).toArray := by rw [← hzl]; exact (flat_eq Z.cells _ rfl m).symm
          simp only [Int.ofNat_eq_natCast, Int.toNat_natCast, hmc] at hrun
          refine ⟨_, _, hrun, hK _ _ ⟨_, PM.ext_set k.fre, ?_, r.newRow k hyu (upL_one hyu (repl_one b6 m)) (lo := 0) (hi := 0) (fun i hi => by simp) (by simp) ?_ (fun i _ => by omega)⟩⟩
          · simp only [upV, PM.set, if_true, Nat.add_zero]
          · have := upL_length hyu
            rw [repl_len, b4] at this
            have h2 : (List.flatten (List.replicate m Z.cells.toList)).toArray.size = m * i.size := by rw [← this]; rfl
            rw [h2, Nat.mul_div_cancel _ b5]
            simp only [maxLen]; omega
        · cases ha
      · cases ha
    · cases ha
  · cases ha

theorem mmE_sound (r : Hd w0 B φ h w) {t : TypeId} {v : EV} (ha : mmE h = some (v, h')) {K : KV} (hK : ∀ x w', Ok w0 B φ v h' x w' → K x w') : rawS P .val (Instr.makeMap t none) w K := by
  unfold mmE at ha
  split at ha
  · next h'' hn =>
    cases ha
    obtain ⟨g1, g2⟩ := r.newMap hn
    refine ⟨.map (some w.heap.size), w.alloc (.map #[] 0), rfl, hK _ _ ⟨_, PM.ext_set g2, by simp only [upV, PM.set, if_true], g1⟩⟩
  · cases ha

/-! ### appends, copies -/
theorem apE_sound (r : Hd w0 B φ h w) {t tx ty : TypeId} {s x v : EV} {S X : Value} (ha : apE P t tx s x h = some (v, h')) (hs : upV φ s = some S) (hx : upV φ x = some X) :
    ∃ V w', (Builtin.append_ #[t, tx] ty #[S, X]).run P w = .ok V w' ∧ Ok w0 B φ v h' V w' := by
  unfold apE at ha
  split at ha
  · next e hu =>
    split at ha
    · next i hi =>
      cases hb : Nat.blt 0 i.size && srcTy P i.size tx
      · rw [hb] at ha; cases ha
      rw [hb] at ha
      rw [Bool.and_eq_true, Nat.blt_eq] at hb
      obtain ⟨hpos, hty⟩ := hb
      simp only [cond_true] at ha
      split at ha
      · next z n news hz hsrc =>
        obtain ⟨ys, q1, q2, q3⟩ := srcE_sound (P := P) r hsrc hx (srcTy_kind hty)
        have hnl : ys.length = n * i.size := q2.newsLen
        cases hzb : Nat.beq z.cells.size i.size
        · rw [hzb] at ha; cases ha
        rw [hzb] at ha
        have hzs : z.cells.size = i.size := Nat.eq_of_beq_eq_true hzb
        simp only [cond_true] at ha
        have same : ∀ (a : Option Addr) (len cap : Nat), n = 0 → len ≤ cap → (Builtin.append_ #[t, tx] ty #[.slice a len cap, X]).run P w = .ok (.slice a len cap) w := by
          intro a len cap hn hle
          subst hn
          have hy0 : ys = [] := List.eq_nil_of_length_eq_zero (by simpa using hnl)
          subst hy0
          exact run_append_nothing w t tx ty e i hu hi a len cap hle X q2
        have fresh : ∀ (a : Option Addr) (len cap : Nat) (olds : List EV) (zs : List Value) (v : EV) (h1 : H), newRowE h e i.size (len + n) (olds ++ news) = some (v, h1) → upL φ olds = some zs → zs.length = len * i.size → (∀ y ∈ zs, isOne y = true) →
            (Builtin.firstCells i.size len (.slice a len cap)).run P w.drew = .ok zs.toArray w.drew → cap < len + n → roomOk (len + n) i.bytes = true →
            ∃ V w', (Builtin.append_ #[t, tx] ty #[.slice a len cap, X]).run P w = .ok V w' ∧ Ok w0 B φ v h1 V w' := by
          intro a len cap olds zs v h1 hnew hup hzl h1' hold hlt hrm
          obtain ⟨m1, m2⟩ := roomOk_iff hrm
          have hnc := nextcap_le (len + n) cap hlt
          have hrun := run_append_grow_src (P := P) w t tx ty e i z hu hi hz a len cap zs hold X n ys q2 hlt (by omega) (Nat.le_trans (Nat.mul_le_mul_right _ hnc) m2)
          obtain ⟨φ', g1, g2, g3⟩ := r.grown hnew (upL_append hup q1) (fun y hy => by
            rcases List.mem_append.1 hy with hy | hy
            · exact h1' y hy
            · exact q3 y hy) hpos (by simp only [List.length_append, hzl, hnl, Nat.add_mul]) hzs (e' := e) (grown_ge w (len + n) cap e) (grown_le w (len + n) cap e (by simp only [maxLen]; omega))
          exact ⟨_, _, hrun, φ', g1, g2, g3⟩
        split at ha
        · -- nil
          simp only [upV, Option.some.injEq] at hs
          subst hs
          cases hn : Nat.beq n 0
          · rw [hn] at ha
            simp only [cond_false] at ha
            have hn0 : n ≠ 0 := fun e => by rw [e] at hn; simp at hn
            cases hrm : roomOk n i.bytes
            · rw [hrm] at ha; cases ha
            rw [hrm] at ha
            simp only [cond_true] at ha
            exact fresh none 0 0 [] [] v h' (by simpa using ha) (upL_nil.2 rfl) (by simp) (by simp) (run_firstCells_none w.drew i.size 0 0 0) (by omega) (by simpa using hrm)
          · rw [hn] at ha
            simp only [cond_true] at ha
            cases ha
            exact ⟨_, _, same none 0 0 (Nat.eq_of_beq_eq_true hn) (Nat.le_refl _), φ, Ext.refl _, rfl, r⟩
        · next b o len cap =>
          simp only [upV] at hs
          split at hs
          · next p hp =>
            cases hs
            cases hle : Nat.ble (len + n) cap
            · rw [hle] at ha
              simp only [cond_false] at ha
              have hlt : cap < len + n := by
                rcases Nat.lt_or_ge cap (len + n) with h | h
                · exact h
                · have h2 : Nat.ble (len + n) cap = true := by rw [Nat.ble_eq]; exact h
                  rw [hle] at h2; cases h2
              cases hrm : roomOk (len + n) i.bytes
              · rw [hrm] at ha; cases ha
              rw [hrm] at ha
              simp only [cond_true] at ha
              split at ha
              · next cs hc =>
                split at ha
                · next olds hpt =>
                  obtain ⟨p', zs, l1, l2, l3, l4, l5, _⟩ := r.part hc hpt
                  rw [hp] at l1; cases l1
                  refine fresh _ len cap olds zs v h' ha l2 l3 l4 ?_ hlt hrm
                  refine run_firstCells_some w.drew i.size len _ len _ zs l3 fun j u hj => ?_
                  have hjl : j < zs.length := (List.getElem?_eq_some_iff.1 hj).1
                  rw [addA, World.cell?_drew, l5 j (by omega), hj]
                · cases ha
              · cases ha
            · rw [hle] at ha
              simp only [cond_true] at ha
              have hle' := Nat.le_of_ble_eq_true hle
              cases hn : Nat.beq n 0
              · rw [hn] at ha
                simp only [cond_false] at ha
                split at ha
                · next h'' hset =>
                  cases ha
                  obtain ⟨p', m1, m2, m3, m4, _⟩ := r.setCells hset q1 q3
                  rw [hp] at m1; cases m1
                  have hrun := run_append_room_src (P := P) w t tx ty e i hu hi p.blk (p.sh + o) len cap X n ys q2 hle'
                    (fun j hj => by rw [Nat.add_assoc p.sh o]; exact m3 j hj) (fun j hj => by rw [Nat.add_assoc p.sh o]; exact m4 j hj)
                  rw [Nat.add_assoc p.sh o] at hrun
                  exact ⟨_, _, hrun, φ, Ext.refl _, by simp only [upV, hp], m2⟩
                · cases ha
              · rw [hn] at ha
                simp only [cond_true] at ha
                cases ha
                exact ⟨_, _, same _ len cap (Nat.eq_of_beq_eq_true hn) (by omega), φ, Ext.refl _, by simp only [upV, hp], r⟩
          · cases hs
        · next b o len =>
          simp only [upV] at hs
          split at hs
          · next p hp =>
            cases hs
            cases hn : Nat.beq n 0
            · rw [hn] at ha
              simp only [cond_false] at ha
              have hn0 : n ≠ 0 := fun e => by rw [e] at hn; simp at hn
              obtain ⟨V, w', k1, k2⟩ := apUE_sound (P := P) (ty := ty) r hu hi hz hzs hpos hp ha q1 q2 q3 (A := p.sh + o) (fun _ _ => trivial) (fun _ => rfl) (by omega)
              exact ⟨V, w', k1, k2⟩
            · rw [hn] at ha
              simp only [cond_true] at ha
              cases hok : suOk h b o len i.size
              · rw [hok] at ha; cases ha
              rw [hok] at ha
              cases ha
              unfold suOk at hok
              split at hok
              · next e2 s2 a2 cs hat =>
                rw [Bool.and_eq_true, Nat.beq_eq, Nat.ble_eq, lenE_eq] at hok
                obtain ⟨p', e3, s3, a3, xs, hat2, hp', hps, hca, i1, i2, i3, i4⟩ := r.read (b := b) (cs := cs) (by unfold H.cells; rw [hat])
                rw [hp] at hp'; cases hp'
                rw [hat] at hat2; cases hat2
                have hlx := upL_length i1
                refine ⟨_, _, same _ len _ (Nat.eq_of_beq_eq_true hn) ?_, φ, Ext.refl _, by simp only [upV, hp], r⟩
                rw [hps, hok.1]
                exact (Nat.le_div_iff_mul_le hpos).2 (by omega)
              · cases hok
          · cases hs
        · next b o l zz =>
          simp only [upV] at hs
          split at hs
          · next p hp =>
            cases hs
            cases hn : Nat.beq n 0
            · rw [hn] at ha
              simp only [cond_false] at ha
              have hn0 : n ≠ 0 := fun e => by rw [e] at hn; simp at hn
              cases zz with
              | true =>
                simp only [cond_true] at ha ⊢
                cases hrm : roomOk n i.bytes
                · rw [hrm] at ha; cases ha
                rw [hrm] at ha
                simp only [cond_true] at ha
                exact fresh _ 0 0 [] [] v h' (by simpa using ha) (upL_nil.2 rfl) (by simp) (by simp) (run_firstCells_some w.drew i.size 0 _ 0 0 [] (by simp) (by simp)) (by omega) (by simpa using hrm)
              | false =>
                simp only [cond_false] at ha ⊢
                have hat : ∃ e2 a2 cs, h.at b = .cells e2 i.size a2 cs := by
                  unfold apUE at ha
                  split at ha
                  · next e2 s2 a2 cs hat =>
                    cases hbs : Nat.beq s2 i.size
                    · rw [hbs] at ha; cases ha
                    · obtain rfl := Nat.eq_of_beq_eq_true hbs; exact ⟨_, _, _, hat⟩
                  · cases ha
                obtain ⟨e2, a2, cs, hat⟩ := hat
                obtain ⟨p', hp', _, _, j5⟩ := r.cells _ _ _ _ _ hat
                rw [hp] at hp'; cases hp'
                have hsz := j5.size
                obtain ⟨V, w', k1, k2⟩ := apUE_sound (P := P) (ty := ty) r hu hi hz hzs hpos hp ha q1 q2 q3 (A := p.sh + (if (p.cap - o) / p.size = l then o else o + l * p.size)) (fun _ _ => trivial) (fun hne => by
                  rw [hsz, capDiv] at hne
                  rw [hsz]
                  have : ¬ ((p.cap - o) / i.size = l) := by rcases hne with h | h <;> omega
                  rw [if_neg this]) (by omega)
                rw [hsz, capDiv] at k1
                rw [hsz]
                exact ⟨V, w', k1, k2⟩
            · rw [hn] at ha
              simp only [cond_true] at ha
              cases ha
              exact ⟨_, _, same _ 0 _ (Nat.eq_of_beq_eq_true hn) (Nat.zero_le _), φ, Ext.refl _, by simp only [upV, hp], r⟩
          · cases hs
        · cases ha
      · cases ha
    · cases ha
  · cases ha

theorem apxE_sound (r : Hd w0 B φ h w) {t tx ty : TypeId} {s x v : EV} {S X : Value} (ha : apxE P t tx s x h = some (v, h')) (hs : upV φ s = some S) (hx : upV φ x = some X) :
    ∃ V w', (Builtin.append_ #[t, tx] ty #[S, X]).run P w = .ok V w' ∧ Ok w0 B φ v h' V w' := by
  unfold apxE at ha
  split at ha
  · next kn htn =>
    unfold azE at ha
    split at ha
    · next e n hu =>
      split at ha
      · next i z hi hz =>
        cases hb : Nat.blt 0 n && Nat.blt 0 i.size && roomOk n i.bytes && Nat.beq (lenE z 0) i.size && allOneE z
        · rw [hb] at ha; cases ha
        rw [hb] at ha
        simp only [Bool.and_eq_true, Nat.blt_eq, Nat.beq_eq, lenE_eq, Nat.add_zero] at hb
        obtain ⟨⟨⟨⟨b1, b2⟩, b3⟩, b4⟩, b5⟩ := hb
        simp only [cond_true] at ha
        obtain ⟨m1, m2⟩ := roomOk_iff b3
        obtain ⟨Z, hZ, hzu⟩ := zeroE_sound (φ := φ) hz
        have hzz : i.zero = some Z := by rw [hi] at hZ; exact hZ
        have hzl : Z.cells.size = i.size := by have := upL_length hzu; simp at this; omega
        simp only [upV, Option.some.injEq] at hs hx
        subst hs hx
        have hrun := Go.Lib.run_append_nil_zeros (P := P) w t tx ty e i Z .i64 kn hu htn hi hzz n b1 b2 (by omega) (by have := Nat.mul_le_mul_right i.bytes (show n ≤ 4 * n + 4096 by omega); omega)
        have hyu := repl_up hzu n
        have hyl := upL_length hyu
        rw [repl_len, b4] at hyl
        obtain ⟨φ', g1, g2, g3⟩ := r.grown ha hyu (upL_one hyu (repl_one b5 n)) b2 hyl hzl (e' := e) (grown_ge w n 0 e) (grown_le w n 0 e (by simp only [maxLen]; omega))
        have hzc : Builtin.zeroCells Z.cells n = (List.flatten (List.replicate n Z.cells.toList)).toArray := by
          rw [flat_eq Z.cells Z.cells.size rfl n]
          rfl
        rw [hzc] at hrun
        exact ⟨_, _, hrun, φ', g1, g2, g3⟩
      · cases ha
    · cases ha
  · exact apE_sound r ha hs hx

/-- the first of a slice's elements -/
theorem first_sound (r : Hd w0 B φ h w) {size n : Nat} {x : EV} {cs : List EV} {X : Value} {ys : List Value} (hs : srcE size h x = some (n, cs)) (hx : upV φ x = some X) (hno : noStr x = true) (hup : upL φ cs = some ys) :
    Builtin.lenOf X = pure n ∧ ∀ k, k ≤ n → (Builtin.firstCells size k X).run P w = .ok (ys.take (k * size)).toArray w := by
  have rows : ∀ (b o len cap : Nat) (p : Pl), φ b = some p → (match h.cells b with
        | some cs => match partE o (len * size) cs with | some l => some (len, l) | none => none
        | none => none) = some (n, cs) →
      n = len ∧ ∀ k, k ≤ n → (Builtin.firstCells size k (.slice (some ⟨p.blk, p.sh + o, none⟩) len cap)).run P w = .ok (ys.take (k * size)).toArray w := by
    intro b o len cap p hp hs
    split at hs
    · next cs' hc =>
      split at hs
      · next l hpt =>
        cases hs
        obtain ⟨p', zs, l1, l2, l3, l4, l5, _⟩ := r.part hc hpt
        rw [hp] at l1; cases l1
        rw [hup] at l2; cases l2
        refine ⟨rfl, fun k hk => ?_⟩
        have hkl : k * size ≤ ys.length := by rw [l3]; exact Nat.mul_le_mul_right _ hk
        refine run_firstCells_some w size k _ _ _ _ (by simp; omega) fun j u hj => ?_
        have hjl := (List.getElem?_eq_some_iff.1 hj).1
        simp only [List.length_take] at hjl
        rw [List.getElem?_take, if_pos (by omega)] at hj
        rw [addA, l5 j (by omega), hj]
      · cases hs
    · cases hs
  unfold srcE at hs
  split at hs
  · cases hs
    simp only [upV, Option.some.injEq] at hx
    subst hx
    rw [upL_nil.1 hup]
    exact ⟨rfl, fun k hk => by obtain rfl : k = 0 := by omega
                               simpa using run_firstCells_none w size 0 0 0⟩
  · next b o l z =>
    cases hs
    simp only [upV] at hx
    split at hx
    · next p hp =>
      cases hx
      rw [upL_nil.1 hup]
      exact ⟨rfl, fun k hk => by obtain rfl : k = 0 := by omega
                                 simpa using run_firstCells_some w size 0 _ 0 _ [] (by simp) (by simp)⟩
    · cases hx
  · next b o len cap =>
    simp only [upV] at hx
    split at hx
    · next p hp =>
      cases hx
      obtain ⟨k1, k2⟩ := rows b o len cap p hp hs
      exact ⟨by rw [k1]; rfl, k2⟩
    · cases hx
  · next b o len =>
    simp only [upV] at hx
    split at hx
    · next p hp =>
      cases hx
      obtain ⟨k1, k2⟩ := rows b o len _ p hp hs
      exact ⟨by rw [k1]; rfl, k2⟩
    · cases hx
  · cases hno
  · cases hs

theorem cpE_sound (r : Hd w0 B φ h w) {t tx ty : TypeId} {s x v : EV} {S X : Value} (ha : cpE P t tx s x h = some (v, h')) (hs : upV φ s = some S) (hx : upV φ x = some X) :
    ∃ V w', (Builtin.copy_ #[t, tx] ty #[S, X]).run P w = .ok V w' ∧ Ok w0 B φ v h' V w' := by
  unfold cpE at ha
  split at ha
  · next e hu =>
    split at ha
    · next i hi =>
      cases hty : srcTy P i.size tx && noStr x
      · rw [hty] at ha; cases ha
      rw [hty] at ha
      rw [Bool.and_eq_true] at hty
      simp only [cond_true] at ha
      split at ha
      · next n news hsrc =>
        obtain ⟨ys, q1, q2, q3⟩ := srcE_sound (P := P) r hsrc hx (srcTy_kind hty.1)
        obtain ⟨f1, f2⟩ := first_sound (P := P) r hsrc hx hty.2 q1
        have core : ∀ (b o len cap : Nat) (p : Pl), φ b = some p → (match takeE ((min n len) * i.size) news with
              | some l => match setCellsE h b o l with | some h' => some (EV.int .i64 (.ofNat (min n len)), h') | none => none
              | none => none) = some (v, h') →
            ∃ V w', (Builtin.copy_ #[t, tx] ty #[.slice (some ⟨p.blk, p.sh + o, none⟩) len cap, X]).run P w = .ok V w' ∧ Ok w0 B φ v h' V w' := by
          intro b o len cap p hp ha
          split at ha
          · next l htk =>
            obtain ⟨t1, t2, t3⟩ := takeE_spec htk q1
            split at ha
            · next h'' hset =>
              cases ha
              obtain ⟨p', m1, m2, m3, m4, _⟩ := r.setCells hset t1 (fun y hy => q3 y (List.mem_of_mem_take hy))
              rw [hp] at m1; cases m1
              have hcells := f2 (min n len) (Nat.min_le_left _ _)
              have hst := run_storeCells_cells (P := P) p.blk (p.sh + o) (ys.take (min n len * i.size)) 0 w (by simpa using m3) (by simpa using m4) (fun u hu => isOne_oneCell (q3 u (List.mem_of_mem_take hu)))
              simp only [Nat.add_zero] at hst
              refine ⟨goInt (min n len : Nat), _, ?_, φ, Ext.refl _, rfl, m2⟩
              have hmin : Nat.min n len = min n len := rfl
              simp only [Builtin.copy_, Sem.run_bind, Sem.run_pure, Result.andThen_ok, run_underlying hu, f1, sizeOf, typeInfo, Sem.run, hi, Sem.run_map, List.getElem?_toArray, List.getElem?_cons_zero, List.getElem?_cons_succ, hmin, hcells, hst]
              simp [hcells, hst, hi, Result.andThen]
            · cases ha
          · cases ha
        have none_ : ∀ (a : Option Addr) (cap : Nat), (Builtin.copy_ #[t, tx] ty #[.slice a 0 cap, X]).run P w = .ok (goInt 0) w := by
          intro a cap
          have hcells := f2 0 (Nat.zero_le _)
          have hmin : Nat.min n 0 = 0 := by simp
          cases a <;> simp [Builtin.copy_, run_underlying hu, f1, sizeOf, typeInfo, hi, hmin, hcells, storeCells]
        split at ha
        · simp only [upV, Option.some.injEq] at hs
          subst hs
          cases ha
          exact ⟨_, _, none_ none 0, φ, Ext.refl _, rfl, r⟩
        · next b o l z =>
          simp only [upV] at hs
          split at hs
          · next p hp => cases hs; cases ha; exact ⟨_, _, none_ _ _, φ, Ext.refl _, rfl, r⟩
          · cases hs
        · next b o len cap =>
          simp only [upV] at hs
          split at hs
          · next p hp => cases hs; exact core b o len cap p hp ha
          · cases hs
        · next b o len =>
          simp only [upV] at hs
          split at hs
          · next p hp => cases hs; exact core b o len _ p hp ha
          · cases hs
        · cases ha
      · cases ha
    · cases ha
  · cases ha

theorem clE_sound (r : Hd w0 B φ h w) {t ty : TypeId} {x v : EV} {X : Value} (ha : clE P t x h = some (v, h')) (hx : upV φ x = some X) :
    ∃ V w', (Builtin.clear_ #[t] ty #[X]).run P w = .ok V w' ∧ Ok w0 B φ v h' V w' := by
  unfold clE at ha
  split at ha
  · next e hu =>
    split at ha
    · next size z hsz hz =>
      cases hb : Nat.beq (lenE z 0) size && allOneE z
      · rw [hb] at ha; cases ha
      rw [hb] at ha
      rw [Bool.and_eq_true, Nat.beq_eq, lenE_eq, Nat.add_zero] at hb
      simp only [cond_true] at ha
      obtain ⟨Z, hZ, hzu⟩ := zeroE_sound (φ := φ) hz
      have core : ∀ (b o len cap : Nat) (p : Pl), φ b = some p → (match setCellsE h b o (repl len z) with | some h' => some (EV.und, h') | none => none) = some (v, h') →
          ∃ V w', (Builtin.clear_ #[t] ty #[.slice (some ⟨p.blk, p.sh + o, none⟩) len cap]).run P w = .ok V w' ∧ Ok w0 B φ v h' V w' := by
        intro b o len cap p hp ha
        split at ha
        · next h'' hset =>
          cases ha
          have hyu := repl_up hzu len
          have h1 := upL_one hyu (repl_one hb.2 len)
          obtain ⟨p', m1, m2, m3, m4, _⟩ := r.setCells hset hyu h1
          rw [hp] at m1; cases m1
          have hst := run_storeCells_cells (P := P) p.blk (p.sh + o) (List.flatten (List.replicate len Z.cells.toList)) 0 w (by simpa using m3) (by simpa using m4) (fun u hu => isOne_oneCell (h1 u hu))
          simp only [Nat.add_zero] at hst
          refine ⟨undef, _, ?_, φ, Ext.refl _, upV_und φ, m2⟩
          have hzc : (Builtin.zeroCells Z.cells len).toList = List.flatten (List.replicate len Z.cells.toList) := by
            have := flat_eq Z.cells Z.cells.size rfl len
            unfold Builtin.zeroCells
            rw [← this]
          obtain ⟨info, hinfo, _⟩ := Option.map_eq_some_iff.1 hsz
          have hzz : info.zero = some Z := by rw [hinfo] at hZ; exact hZ
          cases len with
          | zero => simp [Builtin.clear_, run_underlying hu, undef, World.setCells]
          | succ len => simp [Builtin.clear_, run_underlying hu, zeroValue, typeInfo, hinfo, hzz, hzc, hst, undef]
        · cases ha
      split at ha
      · simp only [upV, Option.some.injEq] at hx
        subst hx
        cases ha
        exact ⟨undef, w, by simp [Builtin.clear_, run_underlying hu, undef], φ, Ext.refl _, upV_und φ, r⟩
      · next b o l zz =>
        simp only [upV] at hx
        split at hx
        · next p hp => cases hx; cases ha; exact ⟨undef, w, by simp [Builtin.clear_, run_underlying hu, undef], φ, Ext.refl _, upV_und φ, r⟩
        · cases hx
      · next b o len cap =>
        simp only [upV] at hx
        split at hx
        · next p hp => cases hx; exact core b o len cap p hp ha
        · cases hx
      · next b o len =>
        simp only [upV] at hx
        split at hx
        · next p hp => cases hx; exact core b o len _ p hp ha
        · cases hx
      · cases ha
    · cases ha
  · cases ha

end Go.CW.Ex
