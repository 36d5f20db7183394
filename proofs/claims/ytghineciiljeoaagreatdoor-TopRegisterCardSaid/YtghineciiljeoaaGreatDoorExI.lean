/- Runs in which nothing is unknown: conversions, comparisons, maps. For every program. -/
import Derived.Test.YtghineciiljeoaaGreatDoorExH
namespace Go.CW.Ex
open Go.RowKit

variable {P : Program} {w0 w : World} {B : Nat} {φ : PM} {h h' : H}

theorem nil_ifc {op : BinOp} {t : TypeId} {e : Array (String × TypeId)} (hu : P.underlying t = some (.interface e)) (ho : op = .eql ∨ op = .neq) : (binOp op t .nilIface .nilIface).run P w = .ok (.bool (negIf op true)) w := by
  have h : (Op.equal t .nilIface .nilIface).run P w = .ok true w := by
    rw [equal_succ, Op.equalIn, Sem.run_bind, run_und hu]
    rfl
  have hb : binOp op t .nilIface .nilIface = (do pure (.bool (negIf op (← Op.equal t .nilIface .nilIface)))) := by rcases ho with rfl | rfl <;> rfl
  rw [hb, Sem.run_bind, h]
  rfl

theorem binE_sound {op : BinOp} {t : TypeId} {x y v : EV} {X Y : Value} {cy : Bool} (hb : binE P op t x y cy = some v) (hx : upV φ x = some X) (hy : upV φ y = some Y) {K : KV} (hK : ∀ V, upV φ v = some V → K V w) : binK P op t X Y cy w K := by
  unfold binE at hb
  have nils : ∀ k, eqOp op = true → nilCmp k op x y = some v → nkOf P t = k → (k = .ptr → cy = true) → (k = .ifc → cy = true) → k ≠ .int → k ≠ .str → k ≠ .bool → binK P op t X Y cy w K := by
    intro k ho hn hk hp hi h1 h2 h3
    have goEq : ∀ op, (op = .eql ∨ op = .neq) → nilCmp k op x y = some v → eqK P op t X Y cy w K := by
      intro op ho hn
      unfold eqK
      cases k with
      | sl =>
        obtain ⟨e, hu⟩ : ∃ e, P.underlying t = some (.slice e) := by unfold nkOf at hk; split at hk <;> first | (cases hk; done) | exact ⟨_, by assumption⟩
        obtain ⟨rfl, b, hbn, rfl⟩ := nilCmp_sl hn hx hy
        simp only [hu, nilEqK]
        exact ⟨b, hbn, hK _ rfl⟩
      | mp =>
        obtain ⟨e, e2, hu⟩ : ∃ e e2, P.underlying t = some (.map e e2) := by unfold nkOf at hk; split at hk <;> first | (cases hk; done) | exact ⟨_, _, by assumption⟩
        obtain ⟨rfl, b, hbn, rfl⟩ := nilCmp_mp hn hx hy
        simp only [hu, nilEqK]
        exact ⟨b, hbn, hK _ rfl⟩
      | ptr =>
        obtain ⟨e, hu⟩ : ∃ e, P.underlying t = some (.pointer e) := by unfold nkOf at hk; split at hk <;> first | (cases hk; done) | exact ⟨_, by assumption⟩
        obtain ⟨rfl, b, hbn, rfl⟩ := nilCmp_ptr hn hx hy
        obtain rfl := hp rfl
        simp only [hu, nilEqK]
        exact ⟨b, hbn, hK _ rfl⟩
      | fn =>
        obtain ⟨e, e2, e3, hu⟩ : ∃ e e2 e3, P.underlying t = some (.func e e2 e3) := by unfold nkOf at hk; split at hk <;> first | (cases hk; done) | exact ⟨_, _, _, by assumption⟩
        obtain ⟨rfl, b, hbn, rfl⟩ := nilCmp_fn hn hx hy
        simp only [hu, nilEqK]
        exact ⟨b, hbn, hK _ rfl⟩
      | bool => exact (h3 rfl).elim
      | int => exact (h1 rfl).elim
      | str => exact (h2 rfl).elim
      | ifc =>
        obtain ⟨e, hu⟩ : ∃ e, P.underlying t = some (.interface e) := by unfold nkOf at hk; split at hk <;> first | (cases hk; done) | exact ⟨_, by assumption⟩
        obtain ⟨rfl, rfl, rfl⟩ := nilCmp_ifc hn hx hy
        obtain rfl := hi rfl
        simp only [hu]
        refine ⟨negIf op true, ?_, ?_, hK _ rfl⟩
        · exact nil_ifc hu ho
        · intro a b
          rcases ho with rfl | rfl <;> simp [eqGuard]
      | no => unfold nilCmp at hn; cases hn
    unfold binK
    have hne : (∀ k, P.underlying t ≠ some (.int k)) ∧ P.underlying t ≠ some .string := by
      refine ⟨fun k' e => h1 ?_, fun e => h2 ?_⟩
      · rw [← hk]; unfold nkOf; rw [e]
      · rw [← hk]; unfold nkOf; rw [e]
    split
    · next e => exact absurd e (hne.1 _)
    · next e => exact absurd e hne.2
    · rcases eqOp_iff ho with rfl | rfl
      · exact goEq _ (.inl rfl) hn
      · exact goEq _ (.inr rfl) hn
  split at hb
  · next hk =>
    unfold nkOf at hk
    split at hk <;> cases hk
    next hu =>
    unfold binK
    simp only [hu]
    exact binIntE_sound hb hx hy hK
  · next hk =>
    unfold nkOf at hk
    split at hk <;> cases hk
    next hu =>
    unfold binK
    simp only [hu]
    split at hb
    · next a b =>
      simp only [upV, Option.some.injEq] at hx hy
      subst hx hy
      exact strE_sound hb hK
    · cases hb
  · next hk =>
    unfold nkOf at hk
    split at hk <;> cases hk
    next hu =>
    split at hb
    · next a b =>
      cases ho : eqOp op
      · rw [ho] at hb; cases hb
      rw [ho] at hb
      cases hb
      simp only [upV, Option.some.injEq] at hx hy
      subst hx hy
      have := hK _ rfl
      have e : (bif a then b else !b) = (a == b) := by cases a <;> cases b <;> rfl
      rw [e] at this
      unfold binK
      simp only [hu]
      rcases eqOp_iff ho with rfl | rfl <;> (simp only; unfold eqK; simp only [hu]; exact this)
    · cases hb
  · next hk =>
    cases ho : cy && eqOp op
    · rw [ho] at hb; cases hb
    rw [ho] at hb
    rw [Bool.and_eq_true] at ho
    exact nils _ ho.2 hb hk (fun _ => ho.1) (fun e => by cases e) (by intro e; cases e) (by intro e; cases e) (by intro e; cases e)
  · next hk =>
    cases ho : cy && eqOp op
    · rw [ho] at hb; cases hb
    rw [ho] at hb
    rw [Bool.and_eq_true] at ho
    exact nils _ ho.2 hb hk (fun e => by cases e) (fun _ => ho.1) (by intro e; cases e) (by intro e; cases e) (by intro e; cases e)
  · next hn1 hn2 hn3 hn4 hn5 =>
    cases ho : eqOp op
    · rw [ho] at hb; cases hb
    rw [ho] at hb
    exact nils _ ho hb rfl (fun e => (hn4 e).elim) (fun e => (hn5 e).elim) hn1 hn2 hn3


/-! ### conversions -/
theorem cellBytes_up : ∀ {cs : List EV} {bs : List Nat} {ys : List Value}, cellBytes cs = some bs → upL φ cs = some ys → ys = bs.map (fun (n : Nat) => Value.int .u8 (n : Int)) := by
  intro cs
  induction cs with
  | nil => intro bs ys h k; simp only [cellBytes] at h; cases h; rw [upL_nil.1 k]; rfl
  | cons c cs ih =>
    intro bs ys h k
    obtain ⟨x, zs, h1, h2, rfl⟩ := upL_cons.1 k
    unfold cellBytes at h
    split at h
    · next e => cases e
    · next n r e =>
      cases e
      split at h
      · next l hl =>
        cases h
        simp only [upV, Option.some.injEq] at h1
        subst h1
        rw [ih hl h2]; rfl
      · cases h
    · cases h

/-- a slice and its cells -/
theorem src_row (r : Hd w0 B φ h w) {size n : Nat} {x : EV} {cs : List EV} {X : Value} {ys : List Value} (hs : srcE size h x = some (n, cs)) (hx : upV φ x = some X) (hno : noStr x = true) (hup : upL φ cs = some ys) :
    (∀ y ∈ ys, isOne y = true) ∧ ys.length = n * size ∧ ((X = .slice none 0 0 ∧ n = 0) ∨ ∃ a cap, X = .slice (some a) n cap ∧ ∀ i, i < n * size → w.cell? (a.add i) = ys[i]?) := by
  have rows : ∀ (b o len cap : Nat) (p : Pl), φ b = some p → (match h.cells b with
        | some cs => match partE o (len * size) cs with | some l => some (len, l) | none => none
        | none => none) = some (n, cs) →
      n = len ∧ (∀ y ∈ ys, isOne y = true) ∧ ys.length = n * size ∧ ∀ i, i < n * size → w.cell? ((⟨p.blk, p.sh + o, none⟩ : Addr).add i) = ys[i]? := by
    intro b o len cap p hp hs
    split at hs
    · next cs' hc =>
      split at hs
      · next l hpt =>
        cases hs
        obtain ⟨p', zs, l1, l2, l3, l4, l5, _⟩ := r.part hc hpt
        rw [hp] at l1; cases l1
        rw [hup] at l2; cases l2
        exact ⟨rfl, l4, l3, fun i hi => by rw [addA]; exact l5 i hi⟩
      · cases hs
    · cases hs
  unfold srcE at hs
  split at hs
  · cases hs
    simp only [upV, Option.some.injEq] at hx
    subst hx
    rw [upL_nil.1 hup]
    exact ⟨by simp, by simp, .inl ⟨rfl, rfl⟩⟩
  · next b o l z =>
    cases hs
    simp only [upV] at hx
    split at hx
    · next p hp =>
      cases hx
      rw [upL_nil.1 hup]
      exact ⟨by simp, by simp, .inr ⟨_, _, rfl, by simp⟩⟩
    · cases hx
  · next b o len cap =>
    simp only [upV] at hx
    split at hx
    · next p hp =>
      cases hx
      obtain ⟨rfl, k2, k3, k4⟩ := rows b o len cap p hp hs
      exact ⟨k2, k3, .inr ⟨_, _, rfl, k4⟩⟩
    · cases hx
  · next b o len =>
    simp only [upV] at hx
    split at hx
    · next p hp =>
      cases hx
      obtain ⟨rfl, k2, k3, k4⟩ := rows b o len 0 p hp hs
      exact ⟨k2, k3, .inr ⟨_, _, rfl, k4⟩⟩
    · cases hx
  · cases hno
  · cases hs

theorem bytes_cells {bs : List Nat} (hb : bytesE bs = true) : bs.map (fun (n : Nat) => Value.int .u8 (n : Int)) = (bs.map UInt8.ofNat).map b8 := by
  have hm := bytesE_mem hb
  clear hb
  induction bs with
  | nil => rfl
  | cons a r ih =>
    simp only [List.map_cons, ih (fun n hn => hm n (by simp [hn]))]
    congr 1
    have := hm a (by simp)
    simp [b8, UInt8.toNat_ofNat', Nat.mod_eq_of_lt this]

theorem bcells_up {bs : List Nat} (hb : bytesE bs = true) : upL φ (bs.map (fun n => EV.int .u8 (.ofNat n))) = some ((bs.map UInt8.ofNat).map b8) := by
  rw [← bytes_cells hb]
  clear hb
  induction bs with
  | nil => exact upL_nil.2 rfl
  | cons a r ih => exact upL_cons.2 ⟨_, _, rfl, ih, rfl⟩

theorem bcells_one (bs : List Nat) : allOneE (bs.map (fun n => EV.int .u8 (.ofNat n))) = true := by
  induction bs with
  | nil => rfl
  | cons a r ih => exact ih

theorem cvE_sound (r : Hd w0 B φ h w) {s d : TypeId} {x v : EV} {X : Value} (hc : cvE P s d x h = some (v, h')) (hx : upV φ x = some X) {K : KV} (hK : ∀ V w', Ok w0 B φ v h' V w' → K V w') : convK P s d X w K := by
  have stay : ∀ V, upV φ v = some V → h' = h → K V w := fun V hv e => hK V w ⟨φ, Ext.refl _, hv, e ▸ r⟩
  unfold cvE at hc
  unfold convK
  split at hc
  · next k1 k2 hs hd =>
    simp only [hs, hd]
    split at hc
    · next k n =>
      cases hc
      simp only [upV, Option.some.injEq] at hx
      subst hx
      have := stay _ rfl rfl
      rw [wrapE_eq] at this
      exact this
    · cases hc
  · next hs hd =>
    simp only [hs, hd]
    split at hc
    · next b =>
      cases hc
      simp only [upV, Option.some.injEq] at hx
      subst hx
      exact stay _ rfl rfl
    · cases hc
  · next e hs hd =>
    simp only [hs, hd]
    split at hc
    · next he =>
      split at hc
      · next n cs hsrc =>
        split at hc
        · next l hl =>
          cases hb : bytesE l && noStr x
          · rw [hb] at hc; cases hc
          rw [hb] at hc
          rw [Bool.and_eq_true] at hb
          cases hc
          have hsp : shpOf P d = .s (.one .str) := by
            unfold shpOf shapeOf aggB repOf
            simp only [hd]
          unfold rawQ
          rw [hsp]
          obtain ⟨ys, q1, _, _⟩ := srcE_sound (P := P) r hsrc hx (.inl ⟨e, hs⟩)
          obtain ⟨r1, r2, r3⟩ := src_row r hsrc hx hb.2 q1
          have hys := cellBytes_up hl q1
          rw [bytes_cells hb.1] at hys
          refine ⟨⟨(l.map UInt8.ofNat).toArray⟩, ?_, stay _ rfl rfl⟩
          rcases r3 with ⟨rfl, rfl⟩ | ⟨a, cap, rfl, r4⟩
          · have hl0 : l = [] := by
              rw [hys] at r2
              simpa using r2
            subst hl0
            rw [run_convert_bytes_string w s d e none 0 0 hs he hd]
            rfl
          · have hn : n = (l.map UInt8.ofNat).length := by rw [hys] at r2; simpa using r2.symm
            subst hn
            refine run_convert_bytes_back w s d e a cap (l.map UInt8.ofNat) hs he hd fun j hj => ?_
            rw [r4 j (by simpa using hj), hys, List.getElem?_map, List.getElem?_eq_getElem hj]
            rfl
        · cases hc
      · cases hc
    · cases hc
  · next e hs hd =>
    simp only [hs, hd]
    split at hc
    · next b he =>
      cases hb : bytesE b && Nat.ble (lenE b 0) 1000000
      · rw [hb] at hc; cases hc
      rw [hb] at hc
      rw [Bool.and_eq_true, Nat.ble_eq, lenE_eq] at hb
      simp only [cond_true] at hc
      simp only [upV, Option.some.injEq] at hx
      subst hx
      have hsz : (⟨(b.map UInt8.ofNat).toArray⟩ : ByteArray).size = b.length := by show Array.size _ = _; simp
      have hrun := run_bytes_of_string w s d e ⟨(b.map UInt8.ofNat).toArray⟩ hs hd he
      rw [hsz] at hrun
      have hrow : ∀ c, bytesRow ⟨(b.map UInt8.ofNat).toArray⟩ c = ((b.map UInt8.ofNat).map b8).toArray ++ Array.replicate (c - b.length) (Value.int .u8 0) := by
        intro c
        unfold bytesRow
        rw [hsz]
        congr 1
        simp [b8]
      rw [hrow] at hrun
      unfold newRowE at hc
      split at hc
      · next h'' hn =>
        cases hc
        have k := NewKey.new r hn
        have hge := grown_ge w b.length 0 e
        have hle := grown_le w b.length 0 e (by simp only [maxLen]; omega)
        have hC : (((b.map UInt8.ofNat).map b8).toArray ++ Array.replicate (grownCap w b.length 0 e - b.length) (Value.int .u8 0)).size = grownCap w b.length 0 e := by simp; omega
        refine ⟨_, _, hrun, hK _ _ ⟨_, PM.ext_set k.fre, ?_, r.drew.newRow k (bcells_up hb.1) (upL_one (bcells_up (φ := φ) hb.1) (bcells_one b)) (fun i hi => ?_) (by simp) (by rw [hC, Nat.div_one]; exact hle) (fun i hi => by omega)⟩⟩
        · simp only [upV, PM.set, if_true, Nat.add_zero, Nat.sub_zero, Nat.div_one, lenE_eq]
          rw [hC]
          rfl
        · rw [Array.getElem?_append_left (by simpa using hi)]; simp
      · cases hc
    · cases hc
  · cases hc

end Go.CW.Ex
