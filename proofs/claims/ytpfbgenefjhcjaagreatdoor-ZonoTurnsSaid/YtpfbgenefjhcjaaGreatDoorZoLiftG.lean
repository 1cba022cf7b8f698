/- Boxes made columns: what comes out is good; lifted again it stays. -/
import Derived.Test.YtpfbgenefjhcjaaGreatDoorZoLiftP
import Derived.Test.YtpfbgenefjhcjaaGreatDoorPZoSam
namespace Go.Proofs.YtpfbgenefjhcjaaGreatDoor
set_option linter.unusedVariables false
set_option linter.unusedSimpArgs false
open Go Go.RowKit
set_option maxRecDepth 100000
/-- What holds of the columns behind the first k numbers of R. -/
structure LInv (z : ZD) (next : Int) (k : Nat) (ids : List Int) (g : List (List Nat)) (a : Int) : Prop where
 num : (ids.length : Int) = z.ids.length + (a - next)
 len : ids.length = g.length
 lo : next ≤ a
 hi : a ≤ next + k
 idsOk : ∀ (j : Nat) (i : Int), ids[j]? = some i → 0 ≤ i ∧ i ≤ 1073741824 ∧ i < a
 up : ∀ (j : Nat) (i i' : Int), ids[j]? = some i → ids[j + 1]? = some i' → i < i'
 cols : ∀ col ∈ g, rowD col z.n = true ∧ Small col ∧ col.map plainU = col
def lastOk (z : ZD) (next : Int) : Prop := ∀ (j : Nat) (i : Int), z.ids[j]? = some i → i < next
theorem plain_plain (us : List Nat) : (us.map plainU).map plainU = us.map plainU := by
 rw [List.map_map]
 exact List.map_congr_left fun u _ => plainU_idem u
theorem rowD_plain {us : List Nat} {n : Int} (h : rowD us n = true) : rowD (us.map plainU) n = true := by
 obtain ⟨h1, h2⟩ := (rowD_iff _ _).1 h
 refine (rowD_iff _ _).2 ⟨fun u hu => ?_, by rw [List.length_map]; exact h2⟩
 obtain ⟨v, hv, rfl⟩ := List.mem_map.1 hu
 exact plainU_num (h1 v hv)
theorem small_plain {us : List Nat} (h : Small us) : Small (us.map plainU) := fun u hu => by
 obtain ⟨v, hv, rfl⟩ := List.mem_map.1 hu
 exact plainU_lt (h v hv)
theorem linv_zero {z : ZD} {next : Int} (hz : Good z) (hk : ZOk z) (hl : lastOk z next) : LInv z next 0 z.ids (z.g.map fun g => g.map plainU) next := by
 refine ⟨by omega, by rw [List.length_map]; exact hz.len, Int.le_refl _, by omega, fun j i hi => ?_, fun j i i' hi hi' => ?_, fun col hc => ?_⟩
 ·have := hz.idk j i hi
  exact ⟨this.1, this.2.1, hl j i hi⟩
 ·exact (hz.idk (j + 1) i' hi').2.2 j rfl i hi
 ·obtain ⟨g, hg, rfl⟩ := List.mem_map.1 hc
  obtain ⟨k, hkl, hgk⟩ := List.mem_iff_getElem.1 hg
  have h1 := hz.colG k g (by rw [List.getElem?_eq_getElem hkl, hgk])
  exact ⟨rowD_plain ((rowD_iff _ _).2 h1), small_plain (hk.g g hg).1, plain_plain g⟩
theorem linv_more {z : ZD} {next : Int} {k u : Nat} {ids : List Int} {g : List (List Nat)} {a : Int} (hz : Good z) (hk : ZOk z) (h : LInv z next k ids g a) (h0 : 0 ≤ next) (hu : z.r[k]? = some u) (hs : sig u ≠ 0) (ha : a ≤ 1073741824) : LInv z next (k + 1) (ids ++ [a]) (g ++ [unitL z.n.toNat k u]) (a + 1) := by
 have hlo := h.lo
 have hhi := h.hi
 have hnum := h.num
 have hn1 := hz.n1
 refine ⟨by rw [List.length_append, List.length_singleton]; omega, by rw [List.length_append, List.length_append, List.length_singleton, List.length_singleton, h.len], by omega, by omega, fun j i hi => ?_, fun j i i' hi hi' => ?_, fun col hc => ?_⟩
 ·by_cases hj : j < ids.length
  ·rw [List.getElem?_append_left hj] at hi
   have := h.idsOk j i hi
   omega
  ·have hl := (List.getElem?_eq_some_iff.1 hi).1
   rw [List.length_append, List.length_singleton] at hl
   obtain rfl : j = ids.length := by omega
   rw [List.getElem?_append_right (Nat.le_refl _), Nat.sub_self] at hi
   cases hi
   omega
 ·have hl := (List.getElem?_eq_some_iff.1 hi').1
  rw [List.length_append, List.length_singleton] at hl
  rw [List.getElem?_append_left (by omega)] at hi
  by_cases hj : j + 1 < ids.length
  ·rw [List.getElem?_append_left hj] at hi'
   exact h.up j i i' hi hi'
  ·rw [List.getElem?_append_right (by omega), show j + 1 - ids.length = 0 by omega] at hi'
   cases hi'
   exact (h.idsOk j i hi).2.2
 ·rcases List.mem_append.1 hc with hc | hc
  ·exact h.cols col hc
  ·obtain rfl : col = unitL z.n.toNat k u := by simpa using hc
   have hum := List.mem_of_getElem? hu
   have hN : z.n = ((z.n.toNat : Nat) : Int) := by omega
   refine ⟨by rw [hN]; exact rowD_unit _ k u (hz.numR u hum), small_unit _ k u (hk.r u hum), ?_⟩
   unfold unitL
   rw [List.map_set]
   congr 1
   ·exact List.map_replicate
   ·unfold plainU; rw [if_neg hs]
theorem linv_all {z : ZD} {next : Int} (hz : Good z) (hk : ZOk z) (hl : lastOk z next) (h0 : 0 ≤ next) : ∀ {k : Nat} {ids : List Int} {g : List (List Nat)} {a : Int}, k ≤ z.r.length → liftT z next k = some (ids, g, a) → LInv z next k ids g a := by
 intro k
 induction k with
 | zero =>
  intro ids g a _ h
  rw [liftT_zero] at h
  injection h with h
  simp only [Prod.mk.injEq] at h
  obtain ⟨rfl, rfl, rfl⟩ := h
  exact linv_zero hz hk hl
 | succ k ih =>
  intro ids g a hkr h
  obtain ⟨u, hu⟩ : ∃ u, z.r[k]? = some u := ⟨z.r[k]'(by omega), List.getElem?_eq_getElem _⟩
  have hg : z.r.getD k 0 = u := by rw [List.getD_eq_getElem?_getD, hu, Option.getD_some]
  unfold liftT at h
  rw [hg] at h
  split at h
  ·cases h
  ·next ids' g' a' h' =>
   have hi := ih (by omega) h'
   split at h
   ·injection h with h
    simp only [Prod.mk.injEq] at h
    obtain ⟨rfl, rfl, rfl⟩ := h
    have h3 := hi.hi
    exact ⟨hi.num, hi.len, hi.lo, by omega, hi.idsOk, hi.up, hi.cols⟩
   ·next hs =>
    split at h
    ·cases h
    ·next ha =>
     injection h with h
     simp only [Prod.mk.injEq] at h
     obtain ⟨rfl, rfl, rfl⟩ := h
     exact linv_more hz hk hi h0 hu hs (by omega)
section
variable {z : ZD} {next a : Int} {ids : List Int} {g : List (List Nat)}
theorem lift_ok (hz : Good z) (hk : ZOk z) (h : LInv z next z.r.length ids g a) : ZOk (liftZ z ids g) := by
 have h1 := hz.lenC
 have h2 := hz.n2
 have hn1 := hz.n1
 have h3 := hz.cols
 have h4 := hz.len
 have h5 := hz.lenR
 have h6 := h.num
 have h7 := h.hi
 have h8 := h.len
 have hil : ids.length ≤ 1073742081 := by omega
 refine ⟨small_plain hk.c, fun u hu => by rw [List.eq_of_mem_replicate hu]; decide, fun col hc => ⟨(h.cols col hc).2.1, ?_⟩, ?_, ?_, ?_, ?_, hk.n1, hk.n2, fun i hi => ?_⟩
 ·have := ((rowD_iff _ _).1 (h.cols col hc).1).2
  unfold MAXF
  omega
 ·show (z.c.map plainU).length ≤ MAXF
  rw [List.length_map]
  unfold MAXF
  omega
 ·show (List.replicate z.n.toNat 0).length ≤ MAXF
  rw [List.length_replicate]
  unfold MAXF
  omega
 ·show ids.length ≤ MAXF
  unfold MAXF
  omega
 ·show g.length ≤ MAXG
  unfold MAXG
  omega
 ·obtain ⟨j, hj, rfl⟩ := List.mem_iff_getElem.1 hi
  have := h.idsOk j _ (List.getElem?_eq_getElem hj)
  omega
end
end Go.Proofs.YtpfbgenefjhcjaaGreatDoor
