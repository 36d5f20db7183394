/- 'append(b, make([]byte, n)...)': noughts behind what is owned. For every program. -/
import Derived.Test.YtdinpgnjnleioaaGreatDoorKLib
import Derived.Lib.AppendStr
import Derived.Lib.AppendZerosOnto
namespace Go.CW
open Go.RowKit Go.Lib
theorem zeros_list (k : Nat) : (Builtin.zeroCells (Value.int .u8 0).cells k).toList = List.replicate k (.int .u8 0) := by
 have h1 : (Value.int IntKind.u8 0).cells = #[.int .u8 0] := rfl
 rw [h1]
 apply List.ext_getElem
 · simp [Builtin.zeroCells]
 · intro i h1 h2
   simp [Builtin.zeroCells, Nat.mod_one]
theorem str_zeros (k : Nat) : strCells ⟨(List.replicate k (0 : UInt8)).toArray⟩ = List.replicate k (.int .u8 0) := by
 simp [strCells]
theorem zeros_eq {P : Program} (w : World) {t tn ts ty e : TypeId} {i : TypeInfo} {kn : IntKind} (ht : P.underlying t = some (.slice e)) (htn : P.underlying tn = some (.int kn)) (hts : P.underlying ts = some .string)
 (hi : P.info? e = some i) (hz : i.zero = some (.int .u8 0)) (hsize : i.size = 1) (hby : i.bytes = 1) {v : Value} {n : Nat} {xs : List Value} {B : Nat} (hown : w.ownsRow B e 1 v n xs) (k : Nat) (h0 : 0 < k) (hb : n + k ≤ 140737488355328) :
 (Builtin.append_ #[t, tn] ty #[v, .int .i64 (k : Int)]).run P w = (Builtin.append_ #[t, ts] ty #[v, .string ⟨(List.replicate k (0 : UInt8)).toArray⟩]).run P w := by
 have hss : (ByteArray.mk (List.replicate k (0 : UInt8)).toArray).size = k := by simp [ByteArray.size]
 have hzc : Builtin.zeroCells (Value.int .u8 0).cells k = (strCells ⟨(List.replicate k (0 : UInt8)).toArray⟩).toArray := by
  apply Array.ext'
  rw [zeros_list, str_zeros]
 generalize hs : (ByteArray.mk (List.replicate k (0 : UInt8)).toArray) = s at *
 rcases hown.2 with ⟨rfl, hn⟩ | ⟨g, cap, cur, rfl, hbg, hg, hnc, hcm, hcs, htake⟩
 · subst hn
   have h1 := run_append_nil_zeros (P := P) w t tn ty e i (.int .u8 0) .i64 kn ht htn hi hz k h0 (by omega) (by omega) (by rw [hby]; omega)
   have h2 := run_append_nil_string (P := P) w t ts ty e i (.int .u8 0) ht hts hi hz s (by omega) (by omega) (by rw [hby]; omega)
   have e1 : (s.data.map fun b => Value.int .u8 b.toNat) = (strCells s).toArray := by
    apply Array.ext'
    simp [strCells]
   rw [e1, ← hzc, hss] at h2
   rw [h1, h2]
 · have hxl : xs.length = n := by simpa using hown.1
   have hcs' : cur.size = cap := by simpa using hcs
   by_cases hroom : n + k ≤ cap
   · have h2 := run_append_room_string (P := P) w t ts ty e i ht hts hi hsize g n cap cur hg s (by omega) (by omega)
     rw [h2]
     have hst := run_storeCells_at P g n e (strCells s) 0 cur w hg (by simpa [strCells_length, hss] using (by omega : n + k ≤ cur.size)) (strCells_oneCell s)
     simp only [Nat.add_zero, strCells_length] at hst
     have hk : k ≠ 0 := by omega
     have hw : IntKind.i64.wrap (k : Int) = k := by rw [IntKind.wrap_i64]; omega
     have hneg : ¬ ((k : Int) < 0) := by omega
     have h48i : ¬ (281474976710656 < (k : Int)) := by omega
     rw [hss] at hst ⊢
     simp [Builtin.append_, run_underlying ht, run_underlying htn, sizeOf, typeInfo, zeroValue, hi, hz, hsize, hby, asInt, asIntOf, hw, hroom, hneg, hk, h48i, hzc, Addr.add_lit, hst]
   · have holds : ∀ j u, xs[j]? = some u → w.cell? ((⟨g, 0, none⟩ : Addr).add j) = some u := hown.cells (g := g) rfl
     have holds' : ∀ j u, xs[j]? = some u → w.drew.cell? ((⟨g, 0, none⟩ : Addr).add j) = some u := by simpa using holds
     have hfo := run_firstCells_some (P := P) w.drew i.size n ⟨g, 0, none⟩ n cap xs (by rw [hsize]; simpa using hxl) holds'
     have hfit : Builtin.nextslicecap (n + k) cap * i.bytes ≤ 281474976710656 := by rw [hby]; exact growslice_fits (by omega) (by omega)
     have h1 := run_append_grow_zeros (P := P) w t tn ty e i (.int .u8 0) .i64 kn ht htn hi hz (some ⟨g, 0, none⟩) n cap xs hfo k h0 (by omega) (by omega) (by omega) (by rw [hby]; omega) hfit
     have h2 := run_append_grow_string (P := P) w t ts ty e i (.int .u8 0) ht hts hi hz ⟨g, 0, none⟩ n cap xs (by rw [hsize]; simpa using hxl) holds s (by omega) (by omega) (by rw [hss]; exact hfit)
     rw [hss, ← hzc] at h2
     rw [h1, h2]
theorem app_zeros {P : Program} {w : World} {t tn ts e : TypeId} {kn : IntKind} (T : SlTy P t e 1) (htn : P.underlying tn = some (.int kn)) (hts : P.underlying ts = some .string) (hz : (P.info? e).bind (·.zero) = some (.int .u8 0))
 {v : Value} {bs : List UInt8} {B : Nat} (ho : OwnB w B e v bs) (k : Nat) (h0 : 0 < k) (hb : bs.length + k ≤ 1099511627776) (hB : B ≤ w.heap.size) :
 ∃ v' w', (Builtin.append_ #[t, tn] t #[v, .int .i64 (k : Int)]).run P w = .ok v' w' ∧ OwnB w' B e v' (bs ++ List.replicate k 0) ∧ w.grownBy w' v.ownBlock := by
 obtain ⟨i, z, hi, hz', hs, hby, hzs⟩ := T.info
 rw [hi] at hz
 simp only [Option.bind_some, hz', Option.some.injEq] at hz
 subst hz
 have hl : (bs.map b8).length = bs.length := by simp
 have hss : (ByteArray.mk (List.replicate k (0 : UInt8)).toArray).size = k := by simp [ByteArray.size]
 have hown : w.ownsRow B e 1 v bs.length (bs.map b8) := by have := ho; unfold OwnB Own at this; rw [hl] at this; exact this
 rw [zeros_eq (ts := ts) w T.und htn hts hi hz' hs hby hown k h0 (by omega)]
 obtain ⟨v', w', h1, h2, h3, _⟩ := run_append_own_string w B t ts t e i T.und hts hi hz' hs hby v _ _ hown ⟨(List.replicate k (0 : UInt8)).toArray⟩ (by rw [hss]; simp only [maxLen]; omega) (by rw [hss]; omega) hB
 refine ⟨v', w', h1, ?_, h3⟩
 rw [hss, str_zeros] at h2
 have e2 : (bs ++ List.replicate k (0 : UInt8)).map b8 = bs.map b8 ++ List.replicate k (.int .u8 0) := by rw [List.map_append, List.map_replicate]; rfl
 unfold OwnB Own
 rw [e2, List.length_append, hl, List.length_replicate]
 exact h2
end Go.CW
