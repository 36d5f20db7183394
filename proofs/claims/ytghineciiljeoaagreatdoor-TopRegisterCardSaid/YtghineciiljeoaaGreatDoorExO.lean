/- Runs in which nothing is unknown: each operation implies its formula. For every program. -/
import Derived.Test.YtghineciiljeoaaGreatDoorExJ
namespace Go.CW.Ex
open Go.RowKit

variable {P : Program} {w0 w : World} {B : Nat} {φ : PM} {h h' : H}

/-- what is asked of calls -/
def CallOk (P : Program) (w0 : World) (B : Nat) (call : CallT) : Prop :=
  ∀ (f : FuncId) (args : List EV) (h : H) (v : EV) (h' : H) (φ : PM) (w : World) (xs : List Value), call f args h = some (v, h') → hasBody P f = true → upL φ args = some xs → Hd w0 B φ h w → Spec P f xs.toArray w (Ok w0 B φ v h')

theorem hasBody_eq {f : FuncId} (h : hasBody P f = true) : (P.funcs[f]?).map (fun fn => fn.body.isSome) = some true := by
  unfold hasBody at h
  split at h
  · assumption
  · cases h

theorem mapA_list {α β : Type} (f : α → β) (xs : Array α) : mapA f xs = (xs.toList.map f).toArray := rfl

theorem bltE_sound (r : Hd w0 B φ h w) {b : Builtin} {ts : Array TypeId} {ty : TypeId} {vs : List EV} {xs : List Value} {v : EV} {rp : Rep} (hb : bltE P b ts.toList vs h = some (v, h')) (hr : repE rp v = true) (hx : upL φ vs = some xs)
    {K : KV} (hK : ∀ x w', Ok w0 B φ v h' x w' → K x w') : builtinK P rp b ts ty xs.toArray w K := by
  have quiet : ∀ V, upV φ v = some V → h' = h → K V w := fun V hv e => hK V w ⟨φ, Ext.refl _, hv, e ▸ r⟩
  unfold bltE at hb
  split at hb
  · next t v' hts =>
    obtain ⟨x, ys, h1, h2, rfl⟩ := upL_cons.1 hx
    obtain rfl := upL_nil.1 h2
    unfold builtinK
    simp only [hts]
    unfold withH at hb
    split at hb
    · next u hl => cases hb; exact lenOfE_sound hl h1 (fun V hV => quiet V hV rfl)
    · cases hb
  · next k x k' y =>
    obtain ⟨X, ys, h1, h2, rfl⟩ := upL_cons.1 hx
    obtain ⟨Y, ys, h3, h4, rfl⟩ := upL_cons.1 h2
    obtain rfl := upL_nil.1 h4
    simp only [upV, Option.some.injEq] at h1 h3
    subst h1 h3
    cases hk : kEq k k'
    · rw [hk] at hb; cases hb
    rw [hk] at hb
    cases hb
    unfold builtinK
    have := quiet _ rfl rfl
    rw [ltE_eq] at this
    have e : (bif decide (y < x) then y else x) = (if y < x then y else x) := by by_cases hh : y < x <;> simp [hh]
    rw [e] at this
    exact this
  · next k x k' y =>
    obtain ⟨X, ys, h1, h2, rfl⟩ := upL_cons.1 hx
    obtain ⟨Y, ys, h3, h4, rfl⟩ := upL_cons.1 h2
    obtain rfl := upL_nil.1 h4
    simp only [upV, Option.some.injEq] at h1 h3
    subst h1 h3
    cases hk : kEq k k'
    · rw [hk] at hb; cases hb
    rw [hk] at hb
    cases hb
    unfold builtinK
    have := quiet _ rfl rfl
    rw [ltE_eq] at this
    have e : (bif decide (x < y) then y else x) = (if x < y then y else x) := by by_cases hh : x < y <;> simp [hh]
    rw [e] at this
    exact this
  · next t tx s x hts =>
    obtain ⟨S, ys, h1, h2, rfl⟩ := upL_cons.1 hx
    obtain ⟨X, ys, h3, h4, rfl⟩ := upL_cons.1 h2
    obtain rfl := upL_nil.1 h4
    have hts' : ts = #[t, tx] := by rw [← hts]
    subst hts'
    unfold builtinK
    obtain ⟨V, w', k1, k2⟩ := apxE_sound (ty := ty) r hb h1 h3
    obtain ⟨φ', g1, g2, g3⟩ := k2
    exact exRW_of hr g2 k1 (hK V w' ⟨φ', g1, g2, g3⟩)
  · next t tx s x hts =>
    obtain ⟨S, ys, h1, h2, rfl⟩ := upL_cons.1 hx
    obtain ⟨X, ys, h3, h4, rfl⟩ := upL_cons.1 h2
    obtain rfl := upL_nil.1 h4
    have hts' : ts = #[t, tx] := by rw [← hts]
    subst hts'
    unfold builtinK
    obtain ⟨V, w', k1, k2⟩ := cpE_sound (ty := ty) r hb h1 h3
    obtain ⟨φ', g1, g2, g3⟩ := k2
    exact exRW_of hr g2 k1 (hK V w' ⟨φ', g1, g2, g3⟩)
  · next t x hts =>
    obtain ⟨X, ys, h1, h2, rfl⟩ := upL_cons.1 hx
    obtain rfl := upL_nil.1 h2
    have hts' : ts = #[t] := by rw [← hts]
    subst hts'
    unfold builtinK
    obtain ⟨V, w', k1, k2⟩ := clE_sound (ty := ty) r hb h1
    exact ⟨V, w', k1, hK V w' k2⟩
  · next t x hts =>
    obtain ⟨X, ys, h1, h2, rfl⟩ := upL_cons.1 hx
    obtain rfl := upL_nil.1 h2
    have hts' : ts = #[t] := by rw [← hts]
    subst hts'
    unfold builtinK
    unfold withH at hb
    split at hb
    · next u hl =>
      cases hb
      unfold capE at hl
      split at hl
      · next e hu =>
        split at hl
        · cases hl
          simp only [upV, Option.some.injEq] at h1
          subst h1
          exact repE_exR (φ := φ) hr rfl (by simp [Builtin.cap_, run_underlying hu, goInt]) (quiet _ rfl rfl)
        · cases hl
          simp only [upV] at h1
          split at h1 <;> cases h1
          exact repE_exR (φ := φ) hr rfl (by simp [Builtin.cap_, run_underlying hu, goInt]) (quiet _ rfl rfl)
        · cases hl
      · cases hl
    · cases hb
  · cases hb

/-- AN OPERATION -/
theorem opE_sound {call : CallT} (hc : CallOk P w0 B call) {key : Option Nat} {fe : FE} {fr : Fr} {o : Oper} {v : EV} (ho : opE P call key fe o h = some (v, h')) (hf : FR φ fe fr) (r : Hd w0 B φ h w)
    {K : KV} (hK : ∀ x w', Ok w0 B φ v h' x w' → K x w') : opK P (ev fr) o w K := by
  have quiet : ∀ V, upV φ v = some V → h' = h → K V w := fun V hv e => hK V w ⟨φ, Ext.refl _, hv, e ▸ r⟩
  have wh : ∀ {x : Option EV}, withH x h = some (v, h') → x = some v ∧ h' = h := by
    intro x hx
    unfold withH at hx
    split at hx
    · cases hx; exact ⟨rfl, rfl⟩
    · cases hx
  obtain ⟨dst, op, ty, pos, aft, guard⟩ := o
  cases op with
  | move x => simp only [opE] at ho; obtain ⟨h1, rfl⟩ := wh ho; exact quiet _ (evE_sound hf h1) rfl
  | assign x => simp only [opE] at ho; obtain ⟨h1, rfl⟩ := wh ho; exact quiet _ (evE_sound hf h1) rfl
  | pick c a b =>
    simp only [opE] at ho
    simp only [opK]
    split at ho
    · next hcv =>
      have := evE_sound hf hcv
      simp only [upV, Option.some.injEq] at this
      rw [← this]
      obtain ⟨h1, rfl⟩ := wh ho
      exact quiet _ (evE_sound hf h1) rfl
    · next hcv =>
      have := evE_sound hf hcv
      simp only [upV, Option.some.injEq] at this
      rw [← this]
      obtain ⟨h1, rfl⟩ := wh ho
      exact quiet _ (evE_sound hf h1) rfl
    · cases ho
  | binOp bop t x y yt =>
    simp only [opE] at ho
    simp only [opK]
    split at ho
    · next x' hx =>
      split at ho
      · next y' hy =>
        obtain ⟨h1, rfl⟩ := wh ho
        exact binE_sound h1 (evE_sound hf hx) (evE_sound hf hy) (fun V hV => quiet V hV rfl)
      · cases ho
    · cases ho
  | unOp uop t x =>
    simp only [opE] at ho
    simp only [opK]
    split at ho
    · next x' hx =>
      obtain ⟨h1, rfl⟩ := wh ho
      have hX := evE_sound hf hx
      unfold unE at h1
      split at h1
      · cases h1; simp only [upV, Option.some.injEq] at hX; rw [← hX]; exact quiet _ rfl rfl
      · cases h1
        simp only [upV, Option.some.injEq] at hX
        rw [← hX]
        have := quiet _ rfl rfl
        rw [wrapE_eq] at this
        exact this
      · cases h1; simp only [upV, Option.some.injEq] at hX; rw [← hX]; exact quiet _ rfl rfl
      · cases h1
    · cases ho
  | convert s d x =>
    simp only [opE] at ho
    simp only [opK]
    split at ho
    · next x' hx => exact cvE_sound r ho (evE_sound hf hx) hK
    · cases ho
  | load t a =>
    simp only [opE] at ho
    simp only [opK]
    split at ho
    · next b q hx =>
      obtain ⟨h1, rfl⟩ := wh ho
      have hA := evE_sound hf hx
      obtain ⟨p, hp, X, h2, h3⟩ := ldE_sound r h1
      simp only [upV, hp, Option.some.injEq] at hA
      rw [← hA]
      exact h3 (quiet X h2 rfl)
    · cases ho
  | store t a x =>
    simp only [opE] at ho
    simp only [opK]
    split at ho
    · next b q hx =>
      split at ho
      · next u hu =>
        have hA := evE_sound hf hx
        unfold unH at ho
        split at ho
        · next h'' hs =>
          cases ho
          obtain ⟨p, hp, h2⟩ := stE_sound r hs (evE_sound hf hu) (K := fun w' => K undef w')
          simp only [upV, hp, Option.some.injEq] at hA
          rw [← hA]
          exact h2 fun w' hw' => hK _ _ ⟨φ, Ext.refl _, upV_und φ, hw'⟩
        · cases ho
      · cases ho
    · cases ho
  | nilCheck x =>
    simp only [opE] at ho
    simp only [opK]
    split at ho
    · next b q hx =>
      cases ho
      have hA := evE_sound hf hx
      have hA2 := hA
      simp only [upV] at hA
      split at hA
      · next p hp =>
        simp only [Option.some.injEq] at hA
        rw [← hA]
        exact quiet _ (by simp only [upV, hp]) rfl
      · cases hA
    · next f a c hx =>
      cases ho
      have hA := evE_sound hf hx
      have hA2 := hA
      simp only [upV] at hA
      split at hA
      · next a' c' h1 h2 =>
        simp only [Option.some.injEq] at hA
        rw [← hA]
        exact quiet _ (by simp only [upV, h1, h2]) rfl
      · cases hA
    · cases ho
  | fieldAddr t x f =>
    simp only [opE] at ho
    simp only [opK]
    split at ho
    · next x' hx =>
      obtain ⟨h1, rfl⟩ := wh ho
      exact faE_sound h1 (evE_sound hf hx) (fun a ha => quiet _ ha rfl)
    · cases ho
  | indexAddr t x i =>
    simp only [opE] at ho
    simp only [opK]
    split at ho
    · next x' hx =>
      split at ho
      · next i' hi =>
        obtain ⟨h1, rfl⟩ := wh ho
        exact iaE_sound h1 (evE_sound hf hx) (evE_sound hf hi) (fun a ha => quiet _ ha rfl)
      · cases ho
    · cases ho
  | index t x i =>
    simp only [opE] at ho
    simp only [opK]
    split at ho
    · next x' hx =>
      split at ho
      · next i' hi =>
        obtain ⟨h1, rfl⟩ := wh ho
        exact ixE_sound h1 (evE_sound hf hx) (evE_sound hf hi) (fun a ha => quiet _ ha rfl)
      · cases ho
    · cases ho
  | slice t x lo hi mx =>
    simp only [opE] at ho
    simp only [opK]
    split at ho
    · next x' hx =>
      split at ho
      · next lo' hlo =>
        split at ho
        · next hi' hhi =>
          split at ho
          · next mx' hmx =>
            have hh : h' = h := (slE_sound (K := fun _ _ => True) r ho (evE_sound hf hx) (evOE_sound hf hlo) (evOE_sound hf hhi) (evOE_sound hf hmx) (fun _ _ => trivial)).1
            exact (slE_sound r ho (evE_sound hf hx) (evOE_sound hf hlo) (evOE_sound hf hhi) (evOE_sound hf hmx) (fun V hV => quiet V hV hh)).2
          · cases ho
        · cases ho
      · cases ho
    · cases ho
  | build t parts =>
    simp only [opE] at ho
    simp only [opK]
    split at ho
    · next ps hps =>
      obtain ⟨h1, rfl⟩ := wh ho
      exact bdE_sound h1 (by rw [mapA_list]; exact evPE_sound hf hps) (fun V hV => quiet V hV rfl)
    · cases ho
  | buildSlice t n parts =>
    simp only [opE] at ho
    simp only [opK]
    split at ho
    · next ps hps => exact bsE_sound r ho (by rw [mapA_list]; exact evPE_sound hf hps) hK
    · cases ho
  | alloc t => simp only [opE] at ho; simp only [opK]; exact alE_sound r ho hK
  | box t x =>
    simp only [opE] at ho
    simp only [opK]
    split at ho
    · next x' hx => exact boxE_sound r ho (evE_sound hf hx) hK
    · cases ho
  | extract x i =>
    simp only [opE] at ho
    simp only [opK]
    split at ho
    · next vs hx =>
      obtain ⟨h1, rfl⟩ := wh ho
      have hX := evE_sound hf hx
      simp only [upV] at hX
      split at hX
      · next l' hl =>
        simp only [Option.some.injEq] at hX
        rw [← hX]
        obtain ⟨y, q1, q2⟩ := nthE_up h1 hl
        have hq : l'.toArray[i]? = some y := by simpa using q1
        simp only [exK, hq]
        exact quiet _ q2 rfl
      · cases hX
    · cases ho
  | call c =>
    simp only [opE] at ho
    simp only [opK]
    obtain ⟨callee, args, ats⟩ := c
    cases callee with
    | builtin b =>
      simp only at ho ⊢
      split at ho
      · next vs hvs =>
        split at ho
        · next v' h'' hb =>
          cases hr : repE (repOf P ty) v'
          · rw [hr] at ho; cases ho
          rw [hr] at ho
          cases ho
          exact bltE_sound r hb hr (evLE_sound hf hvs) hK
        · cases ho
      · cases ho
    | value x =>
      cases x with
      | func f =>
        simp only at ho ⊢
        split at ho
        · next vs hvs =>
          cases hbd : hasBody P f
          · rw [hbd] at ho; cases ho
          rw [hbd] at ho
          simp only [cond_true] at ho
          split at ho
          · next v' h'' hcall =>
            cases hr : resE v' (resShapes P f)
            · rw [hr] at ho; cases ho
            rw [hr] at ho
            cases ho
            unfold callK
            rw [hasBody_eq hbd]
            simp only
            refine (hc _ _ _ _ _ _ _ _ hcall hbd (evLE_sound hf hvs) r).mono fun u w' hu => ?_
            obtain ⟨φ', g1, g2, g3⟩ := hu
            exact resE_res hr g2 (hK u w' ⟨φ', g1, g2, g3⟩)
          · cases ho
        · cases ho
      | _ =>
        simp only at ho ⊢
        split at ho
        · next f first cap hx =>
          split at ho
          · next vs hvs =>
            cases hbd : hasBody P f
            · rw [hbd] at ho; cases ho
            rw [hbd] at ho
            simp only [cond_true] at ho
            split at ho
            · next v' h'' hcall =>
              have hX := evE_sound hf hx
              simp only [upV] at hX
              split at hX
              · next a' c' h1 h2 =>
                simp only [Option.some.injEq] at hX
                rw [← hX]
                cases hr : resE v' (tyShapes P ty)
                · rw [hr] at ho; cases ho
                rw [hr] at ho
                cases ho
                unfold callV callU
                simp only [hasBody_eq hbd]
                have happ : app3 a'.toArray (mapA (ev fr) args) c'.toArray = (a' ++ (args.toList.map (ev fr) ++ c')).toArray := rfl
                rw [happ]
                refine (hc _ _ _ _ _ _ _ _ hcall hbd (upL_append h1 (upL_append (evLE_sound hf hvs) h2)) r).mono fun u w' hu => ?_
                obtain ⟨φ', g1, g2, g3⟩ := hu
                exact resE_res hr g2 (hK u w' ⟨φ', g1, g2, g3⟩)
              · cases hX
            · cases ho
          · cases ho
        · cases ho
    | invoke rc m => simp only at ho; cases ho
  | makeFunc fn first captured =>
    cases fn with
    | func f =>
      simp only [opE] at ho
      simp only [opK]
      split at ho
      · next a ha =>
        split at ho
        · next c hcap =>
          cases ho
          exact quiet _ (by simp only [upV, evLE_sound hf ha, evLE_sound hf hcap, mapA_list]) rfl
        · cases ho
      · cases ho
    | _ => simp only [opE] at ho; cases ho
  | makeMap t res =>
    cases res with
    | none => simp only [opE] at ho; simp only [opK, Option.map_none]; exact mmE_sound r ho hK
    | some q => simp only [opE] at ho; cases ho
  | makeSlice t l c =>
    simp only [opE] at ho
    simp only [opK]
    split at ho
    · next l' hl =>
      split at ho
      · next c' hcc => exact mkE_sound r ho (evE_sound hf hl) (evE_sound hf hcc) hK
      · cases ho
    · cases ho
  | sliceToArrayPointer t x =>
    simp only [opE] at ho
    simp only [opK]
    split at ho
    · next x' hx =>
      obtain ⟨h1, rfl⟩ := wh ho
      exact s2aE_sound h1 (evE_sound hf hx) (fun V hV => quiet V hV rfl)
    · cases ho
  | field t x f =>
    simp only [opE] at ho
    simp only [opK]
    split at ho
    · next x' hx =>
      obtain ⟨h1, rfl⟩ := wh ho
      exact fldE_sound h1 (evE_sound hf hx) (fun V hV => quiet V hV rfl)
    · cases ho
  | lookup t x i ok =>
    simp only [opE] at ho
    simp only [opK]
    split at ho
    · next x' hx =>
      split at ho
      · next i' hi =>
        obtain ⟨h1, rfl⟩ := wh ho
        exact lkE_sound r h1 (evE_sound hf hx) (evE_sound hf hi) (fun V hV => quiet V hV rfl)
      · cases ho
    · cases ho
  | mapUpdate t m k x =>
    simp only [opE] at ho
    simp only [opK]
    split at ho
    · next m' hm =>
      split at ho
      · next k' hk =>
        split at ho
        · next x' hx =>
          unfold unH at ho
          split at ho
          · next h'' hs => cases ho; exact muE_sound r hs (evE_sound hf hm) (evE_sound hf hk) (evE_sound hf hx) (fun w' hw' => hK _ _ ⟨φ, Ext.refl _, upV_und φ, hw'⟩)
          · cases ho
        · cases ho
      · cases ho
    · cases ho
  | insert t m k x =>
    simp only [opE] at ho
    simp only [opK]
    split at ho
    · next m' hm =>
      split at ho
      · next k' hk =>
        split at ho
        · next x' hx =>
          unfold unH at ho
          split at ho
          · next h'' hs => cases ho; exact muE_sound r hs (evE_sound hf hm) (evE_sound hf hk) (evE_sound hf hx) (fun w' hw' => hK _ _ ⟨φ, Ext.refl _, upV_und φ, hw'⟩)
          · cases ho
        · cases ho
      · cases ho
    · cases ho
  | _ => simp only [opE] at ho; cases ho

end Go.CW.Ex
