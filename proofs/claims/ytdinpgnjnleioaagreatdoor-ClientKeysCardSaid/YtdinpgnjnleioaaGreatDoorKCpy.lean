/- 'copy(out[o:], src)' into a row that is owned. For every program. -/
import Derived.Test.YtdinpgnjnleioaaGreatDoorKRec
set_option linter.unusedVariables false
namespace Go.CW
open Go.RowKit
theorem own_setCells {w : World} {B : Nat} {e : TypeId} {g cap : Nat} {cur : Array Value} {xs : List Value} (hb : B ≤ g) (hk : BK w g cur e) (hn : xs.length ≤ cap) (hm : cap ≤ maxLen) (hs : cur.size = cap) (ht : cur.toList.take xs.length = xs)
 (o : Nat) (cs : List Value) (hfit : o + cs.length ≤ xs.length) :
 Own (w.setCells g o cs) B e (.slice (some ⟨g, 0, none⟩) xs.length cap) (xs.take o ++ cs ++ xs.drop (o + cs.length)) := by
 have hset := setCells_set cs o w cur hk (by omega)
 have hl : (xs.take o ++ cs ++ xs.drop (o + cs.length)).length = xs.length := by simp; omega
 unfold Own
 rw [hl]
 refine ⟨by rw [Nat.mul_one]; exact hl, .inr ⟨g, cap, _, rfl, hb, hset, hn, hm, ?_, ?_⟩⟩
 · simp; omega
 · rw [Nat.mul_one]
   show List.take xs.length (cur.toList.take o ++ cs ++ cur.toList.drop (o + cs.length)) = _
   rw [List.append_assoc, List.take_append, List.take_of_length_le (by simp; omega), List.take_append, List.take_of_length_le (l := cs) (by simp; omega)]
   have e1 : xs.take o = cur.toList.take o := by rw [← ht, List.take_take]; congr 1; omega
   have e2 : xs.drop (o + cs.length) = (cur.toList.drop (o + cs.length)).take (xs.length - (o + cs.length)) := by
    conv => lhs; rw [← ht]
    rw [List.drop_take]
   rw [e1, e2, List.append_assoc]
   congr 3
   simp; omega
theorem own_tail {P : Program} {w : World} {B : Nat} {t sT ty e : TypeId} {b : Nat} (T : SlTy P t e b) {v : Value} {xs : List Value} (ho : Own w B e v xs) {o : Nat} (h : o < xs.length) (k : IntKind) :
 ∃ v', subSlice v 1 (some (.int k (o : Int))) none none = some v' ∧
   ∀ (w1 : World) (ys : List Value) (src : Value) (cs : List Value), Own w1 B e v ys → ys.length = xs.length → Rd w1 src cs → (∀ u ∈ cs, u.oneCell' = true) → o + cs.length ≤ xs.length →
     ∃ w', Sem.run P (Builtin.copy_ #[t, sT] ty #[v', src]) w1 = .ok (.int .i64 (cs.length : Int)) w' ∧ Own w' B e v (ys.take o ++ cs ++ ys.drop (o + cs.length)) ∧ w1.grownBy w' v.ownBlock := by
 obtain ⟨i, z, hi, hz, hs1, hby, hzs⟩ := T.info
 have hsz : (P.info? e).map (·.size) = some 1 := by rw [hi]; simp [hs1]
 rcases ho.2 with ⟨rfl, hn⟩ | ⟨g, cap, cur, rfl, hb, hg, hn, hm, hs, ht⟩
 · omega
 · have hbd := bounds_in (k := k) (a := (o : Int)) (len := xs.length) (cap := cap) (by omega) (by omega)
   have hne : cap ≠ o := by omega
   refine ⟨.slice (some ⟨g, o, none⟩) (xs.length - o) (cap - o), ?_, ?_⟩
   · simp only [subSlice, hbd, Int.toNat_natCast]
     rw [if_neg hne]
     simp [ad0]
   · intro w1 ys src cs hy hyl hsrc h1 hfit
     rcases hy.2 with ⟨hv, hn0⟩ | ⟨g', cap', cur', hv, hb', hg', hn', hm', hs', ht'⟩
     · cases hv
     · rw [Nat.mul_one] at hs' ht'
       have e1 : g' = g := by injection hv with q1 q2 q3; injection q1 with q1; injection q1 with q1; exact q1.symm
       have e2 : cap' = cap := by injection hv with q1 q2 q3; exact q3.symm
       subst e1; subst e2
       have hk : BK w1 g' cur' e := hg'
       obtain ⟨a, c, rfl, c1, c2, c3, c4⟩ := hsrc
       have hown := own_setCells (B := B) (xs := ys) hb' hk hn' hm' hs' ht' o cs (by omega)
       rw [hyl] at hown
       refine ⟨w1.setCells g' o cs, ?_, hown, ?_⟩
       · cases a with
         | none =>
           have hc0 := c3 rfl
           have hcs : cs = [] := List.eq_nil_of_length_eq_zero (by omega)
           subst hcs
           exact run_copy_none (P := P) w1 t sT ty e (some ⟨g', o, none⟩) none _ _ _ _ T.und hsz (by simp)
         | some a =>
           exact run_copy_cells (P := P) w1 t sT ty e g' o _ _ a _ _ cs T.und hsz (by show cs.length = min cs.length _; omega) (fun j u hj => by obtain ⟨x, hx, hc⟩ := c4 j u hj; cases hx; exact hc)
            (fun j hj => by rw [hk.at, Array.getElem?_eq_getElem (by omega)]; rfl) (fun j hj => hk.thaw _) h1
       · obtain ⟨f1, f2, f3, f4⟩ := setCells_fields g' cs o w1
         exact ⟨f1, f2, f3, Nat.le_of_eq f4.symm, fun q _ hne => heap_setCells_ne g' q (fun e => hne (by rw [e]; rfl)) cs o w1⟩
theorem Own.lt {w : World} {B : Nat} {e : TypeId} {v : Value} {xs : List Value} (h : Own w B e v xs) : ∀ k, v.ownBlock = some k → k < w.heap.size := by
 intro k hk
 rcases h.2 with ⟨rfl, hn⟩ | ⟨g, cap, cur, rfl, hb, hg, hn, hm, hsz, ht⟩
 · cases hk
 · have hg : BK w g cur e := hg
   injection hk with hk
   rw [← hk]; exact hg.lt
theorem Own.put {w : World} {B : Nat} {e : TypeId} {v : Value} {xs : List Value} (h : Own w B e v xs) {i : Int} (h0 : 0 ≤ i) (h1 : i < xs.length) :
 ∃ a, sliceAt v i 1 = some a ∧ w.cell? a = some (xs[i.toNat]'(by omega)) ∧ St1 w a ∧ B ≤ a.block ∧ v.ownBlock = some a.block ∧ ∀ x, Own (w.setCell a x) B e v (xs.set i.toNat x) := by
 obtain ⟨a, ha, hc, hs, hB, hob, _⟩ := h.wr.put h0 h1
 refine ⟨a, ha, hc, hs, hB, hob, fun x => ?_⟩
 rcases h.2 with ⟨rfl, hn⟩ | ⟨g, cap, cur, rfl, hb, hg, hn, hm, hsz, ht⟩
 · omega
 · rw [Nat.mul_one] at hsz ht
   have ea : a = ⟨g, i.toNat, none⟩ := by
    simp only [sliceAt] at ha
    rw [if_pos (by omega)] at ha
    injection ha with ha
    rw [← ha, Nat.mul_one, ad0]
   subst ea
   have := own_setCells (B := B) (xs := xs) hb hg hn hm hsz ht i.toNat [x] (by simp; omega)
   have e : xs.set i.toNat x = xs.take i.toNat ++ [x] ++ xs.drop (i.toNat + [x].length) := by
    rw [List.set_eq_take_append_cons_drop, if_pos (by omega)]; simp
   rw [e]; exact this
end Go.CW
