/-
  Boxes made columns: the plain law: no support and no bound turns.
  Boxes made columns: what comes out is good; lifted again it stays.
  law10.ZonoLifts.
-/
import Derived.Test.YtpfbgenefjhcjaaGreatDoorPZoBnw
import Derived.Test.YtpfbgenefjhcjaaGreatDoorPZoLif
import Derived.Test.YtpfbgenefjhcjaaGreatDoorPZoSam
import Derived.Test.YtpfbgenefjhcjaaGreatDoorPZoStart
import Derived.Test.YtpfbgenefjhcjaaGreatDoorPZoReal2
import Derived.Test.YtpfbgenefjhcjaaGreatDoorPZoFrame
import Derived.Test.YtpfbgenefjhcjaaGreatDoorPZoRct
import Derived.Laws.StructEq
namespace Go.Proofs.YtpfbgenefjhcjaaGreatDoor
set_option linter.unusedVariables false
set_option linter.unusedSimpArgs false
open Go Go.RowKit
set_option maxRecDepth 100000
theorem plainU_fz (u : Nat) : fz (plainU u) = fz u := by
  unfold plainU
  split
  · next h =>
    rw [fz_zero]
    have := fz_natAbs u
    rw [h, Nat.zero_mul] at this
    omega
  · rfl
theorem plainU_num {u : Nat} (h : fexp u ≠ 2047) : fexp (plainU u) ≠ 2047 := by
  unfold plainU
  split
  · decide
  · exact h
theorem plainU_lt {u : Nat} (h : u < B64) : plainU u < B64 := by
  unfold plainU
  split
  · decide
  · exact h
theorem plainU_idem (u : Nat) : plainU (plainU u) = plainU u := by
  unfold plainU
  by_cases h : sig u = 0
  · rw [if_pos h]; rfl
  · rw [if_neg h, if_neg h]
theorem getD_map_plain (us : List Nat) (i : Nat) : (us.map plainU).getD i 0 = plainU (us.getD i 0) := by
  rw [List.getD_eq_getElem?_getD, List.getD_eq_getElem?_getD, List.getElem?_map]
  cases us[i]? <;> rfl
theorem prodZ_eq {u v v' : Nat} (h : fz v = fz v') : prodZ u v 0 = prodZ u v' 0 := by
  have h1 := prodZ_fz u v
  have h2 := prodZ_fz u v'
  rw [h, ← h2] at h1
  exact Int.eq_of_mul_eq_mul_right (Int.ne_of_gt UNp) h1
theorem dotZ_plain (d l : List Nat) (n : Nat) : dotZ d (l.map plainU) n = dotZ d l n := by
  unfold dotZ
  refine sumTo_congr _ _ _ fun i _ => ?_
  rw [getD_map_plain]
  exact prodZ_eq (plainU_fz _)
/-- The sum of what each column does. -/
def sumG (F : List Nat → Int) (gs : List (List Nat)) : Int := sumTo (fun k => F (gs.getD k [])) gs.length
theorem sumG_snoc (F : List Nat → Int) (gs : List (List Nat)) (x : List Nat) : sumG F (gs ++ [x]) = sumG F gs + F x := by
  unfold sumG
  rw [List.length_append, List.length_singleton]
  show sumTo _ gs.length + _ = _
  congr 1
  · refine sumTo_congr _ _ _ fun k hk => ?_
    rw [List.getD_eq_getElem?_getD, List.getD_eq_getElem?_getD, List.getElem?_append_left hk]
  · show F ((gs ++ [x]).getD gs.length []) = F x
    rw [List.getD_eq_getElem?_getD, List.getElem?_append_right (Nat.le_refl _), Nat.sub_self]
    rfl
theorem sumG_map (F : List Nat → Int) (gs : List (List Nat)) (hF : ∀ g, F (g.map plainU) = F g) : sumG F (gs.map fun g => g.map plainU) = sumG F gs := by
  unfold sumG
  rw [List.length_map]
  refine sumTo_congr _ _ _ fun k hk => ?_
  rw [List.getD_eq_getElem?_getD, List.getD_eq_getElem?_getD, List.getElem?_map, List.getElem?_eq_getElem hk]
  exact hF _
theorem liftT_sum {z : ZD} {next : Int} (F : List Nat → Int) (hF : ∀ g, F (g.map plainU) = F g) : ∀ {k : Nat} {ids : List Int} {g : List (List Nat)} {a : Int}, liftT z next k = some (ids, g, a) →
    sumG F g = sumG F z.g + sumTo (fun j => if sig (z.r.getD j 0) = 0 then 0 else F (unitL z.n.toNat j (z.r.getD j 0))) k := by
  intro k
  induction k with
  | zero =>
    intro ids g a h
    rw [liftT_zero] at h
    injection h with h
    simp only [Prod.mk.injEq] at h
    obtain ⟨rfl, rfl, rfl⟩ := h
    rw [sumG_map F z.g hF]
    show _ = _ + 0
    rw [Int.add_zero]
  | succ k ih =>
    intro ids g a h
    unfold liftT at h
    show _ = _ + (sumTo _ k + (if sig (z.r.getD k 0) = 0 then 0 else F (unitL z.n.toNat k (z.r.getD k 0))))
    split at h
    · cases h
    · next ids' g' a' h' =>
      have := ih h'
      split at h
      · next hs =>
        injection h with h
        simp only [Prod.mk.injEq] at h
        obtain ⟨rfl, rfl, rfl⟩ := h
        rw [if_pos hs, Int.add_zero]
        exact this
      · next hs =>
        split at h
        · cases h
        · injection h with h
          simp only [Prod.mk.injEq] at h
          obtain ⟨rfl, rfl, rfl⟩ := h
          rw [if_neg hs, sumG_snoc, this, Int.add_assoc]
theorem fz_pos {u : Nat} (h : neg0 u = false) : 0 ≤ fz u := by
  unfold neg0 at h
  have := of_decide_eq_false h
  omega
theorem zabs_pos {x : Int} (h : 0 ≤ x) : zabs x = x := by unfold zabs; omega
theorem Good.posAt {z : ZD} (h : Good z) (j : Nat) : 0 ≤ fz (z.r.getD j 0) := by
  rw [List.getD_eq_getElem?_getD]
  cases hj : z.r[j]? with
  | none => show 0 ≤ fz 0; rw [fz_zero]; omega
  | some u => exact fz_pos (h.pos u (List.mem_of_getElem? hj))
theorem sig_fz {u : Nat} (h : sig u = 0) : fz u = 0 := by
  have := fz_natAbs u
  rw [h, Nat.zero_mul] at this
  omega
theorem prodZ_pos {u v : Nat} (hu : 0 ≤ fz u) (hv : 0 ≤ fz v) : 0 ≤ prodZ u v 0 := by
  have h := prodZ_fz u v
  have h1 := Int.mul_nonneg hu hv
  rw [← h] at h1
  exact Int.nonneg_of_mul_nonneg_left h1 UNp
theorem zabs_prod {u v : Nat} (hu : u < B64) (hv : 0 ≤ fz v) : zabs (prodZ u v 0) = prodZ (absF u) v 0 := by
  have h1 := prodZ_fz u v
  have h2 := prodZ_fz (absF u) v
  rw [absF_fz u hu] at h2
  have e : prodZ (absF u) v 0 * (UN : Nat) = zabs (prodZ u v 0) * (UN : Nat) := by
    rw [h2]
    have hU := UNp
    unfold zabs
    have h3 : ((fz u).natAbs : Int) * fz v = ((fz u * fz v).natAbs : Int) := by
      rw [Int.natAbs_mul, Int.natCast_mul]
      congr 1
      omega
    rw [h3, ← h1, Int.natAbs_mul, Int.natCast_mul]
    congr 1
  exact (Int.eq_of_mul_eq_mul_right (Int.ne_of_gt UNp) e).symm
section
variable {z : ZD} {next a : Int} {ids : List Int} {g : List (List Nat)}
theorem lift_reach (hz : Good z) (h : LiftAt z next z.n.toNat ids g a) (i : Nat) (hi : i < z.n.toNat) : reachZ (liftZ z ids g) i = reachZ z i := by
  have h1 := liftT_sum (fun col => zabs (fz (col.getD i 0))) (fun g => by rw [getD_map_plain, plainU_fz]) h
  have h2 : sumTo (fun j => if sig (z.r.getD j 0) = 0 then 0 else zabs (fz ((unitL z.n.toNat j (z.r.getD j 0)).getD i 0))) z.n.toNat = fz (z.r.getD i 0) := by
    rw [sumTo_one _ i _ hi (fun j _ hne => by
      by_cases hs : sig (z.r.getD j 0) = 0
      · rw [if_pos hs]
      · rw [if_neg hs, unitL_off _ _ _ _ (fun e => hne e.symm), fz_zero]; rfl)]
    by_cases hs : sig (z.r.getD i 0) = 0
    · rw [if_pos hs, sig_fz hs]
    · rw [if_neg hs, unitL_at _ _ _ hi, zabs_pos (hz.posAt i)]
  rw [h2] at h1
  have h3 : (List.replicate z.n.toNat 0).getD i 0 = 0 := by
    rw [List.getD_eq_getElem?_getD, List.getElem?_eq_getElem (by rw [List.length_replicate]; exact hi), List.getElem_replicate]; rfl
  show fz ((List.replicate z.n.toNat 0).getD i 0) + sumG (fun col => zabs (fz (col.getD i 0))) g = fz (z.r.getD i 0) + sumG (fun col => zabs (fz (col.getD i 0))) z.g
  rw [h3, fz_zero, h1]
  omega
theorem lift_sup (hz : Good z) (hk : ZOk z) (h : LiftAt z next z.n.toNat ids g a) (d : List Nat) (sd : Small d) : supZ (liftZ z ids g) d = supZ z d := by
  have h1 := liftT_sum (fun col => zabs (dotZ d col z.n.toNat)) (fun g => by rw [dotZ_plain]) h
  have h2 : sumTo (fun j => if sig (z.r.getD j 0) = 0 then 0 else zabs (dotZ d (unitL z.n.toNat j (z.r.getD j 0)) z.n.toNat)) z.n.toNat = sumTo (fun i => prodZ (absF (d.getD i 0)) (z.r.getD i 0) 0) z.n.toNat := by
    refine sumTo_congr _ _ _ fun j hj => ?_
    have hd : d.getD j 0 < B64 := by
      rw [List.getD_eq_getElem?_getD]
      cases hi : d[j]? with
      | none => decide
      | some u => exact sd.at j u hi
    by_cases hs : sig (z.r.getD j 0) = 0
    · rw [if_pos hs, prodZ_eq (v' := 0) (by rw [sig_fz hs, fz_zero])]
      have := prodZ_fz (absF (d.getD j 0)) 0
      rw [fz_zero, Int.mul_zero] at this
      rcases Int.mul_eq_zero.1 this with h | h
      · exact h.symm
      · have := UNp; omega
    · rw [if_neg hs, ← zabs_prod hd (hz.posAt j)]
      congr 1
      unfold dotZ
      rw [sumTo_one _ j _ hj (fun i _ hne => by
        rw [unitL_off _ _ _ _ hne]
        have := prodZ_fz (d.getD i 0) 0
        rw [fz_zero, Int.mul_zero] at this
        rcases Int.mul_eq_zero.1 this with h | h
        · exact h
        · have := UNp; omega), unitL_at _ _ _ hj]
  rw [h2] at h1
  have h3 : sumTo (fun i => prodZ (absF (d.getD i 0)) ((List.replicate z.n.toNat 0).getD i 0) 0) z.n.toNat = 0 := sumTo_none _ _ fun j hj => by
    rw [List.getD_eq_getElem?_getD (l := List.replicate z.n.toNat 0), List.getElem?_eq_getElem (by rw [List.length_replicate]; exact hj), List.getElem_replicate]
    have := prodZ_fz (absF (d.getD j 0)) 0
    rw [fz_zero, Int.mul_zero] at this
    rcases Int.mul_eq_zero.1 this with h | h
    · exact h
    · have := UNp; omega
  show dotZ d (z.c.map plainU) z.n.toNat + sumG (fun col => zabs (dotZ d col z.n.toNat)) g + sumTo (fun i => prodZ (absF (d.getD i 0)) ((List.replicate z.n.toNat 0).getD i 0) 0) z.n.toNat = dotZ d z.c z.n.toNat + sumG (fun col => zabs (dotZ d col z.n.toNat)) z.g + _
  rw [h3, h1, dotZ_plain]
  omega
end
end Go.Proofs.YtpfbgenefjhcjaaGreatDoor
namespace Go.Proofs.YtpfbgenefjhcjaaGreatDoor
set_option linter.unusedVariables false
set_option linter.unusedSimpArgs false
open Go Go.RowKit
set_option maxRecDepth 100000
/-- What holds of the columns behind the first k numbers of R. -/
structure LInv (z : ZD) (next : Int) (k : Nat) (ids : List Int) (g : List (List Nat)) (a : Int) : Prop where
  num : (ids.length : Int) = z.ids.length + (a - next)
  len : ids.length = g.length
  lo : next ≤ a
  hi : a ≤ next + k
  idsOk : ∀ (j : Nat) (i : Int), ids[j]? = some i → 0 ≤ i ∧ i ≤ 1073741824 ∧ i < a
  up : ∀ (j : Nat) (i i' : Int), ids[j]? = some i → ids[j + 1]? = some i' → i < i'
  cols : ∀ col ∈ g, rowD col z.n = true ∧ Small col ∧ col.map plainU = col
def lastOk (z : ZD) (next : Int) : Prop := ∀ (j : Nat) (i : Int), z.ids[j]? = some i → i < next
theorem plain_plain (us : List Nat) : (us.map plainU).map plainU = us.map plainU := by
  rw [List.map_map]
  exact List.map_congr_left fun u _ => plainU_idem u
theorem rowD_plain {us : List Nat} {n : Int} (h : rowD us n = true) : rowD (us.map plainU) n = true := by
  obtain ⟨h1, h2⟩ := (rowD_iff _ _).1 h
  refine (rowD_iff _ _).2 ⟨fun u hu => ?_, by rw [List.length_map]; exact h2⟩
  obtain ⟨v, hv, rfl⟩ := List.mem_map.1 hu
  exact plainU_num (h1 v hv)
theorem small_plain {us : List Nat} (h : Small us) : Small (us.map plainU) := fun u hu => by
  obtain ⟨v, hv, rfl⟩ := List.mem_map.1 hu
  exact plainU_lt (h v hv)
theorem linv_zero {z : ZD} {next : Int} (hz : Good z) (hk : ZOk z) (hl : lastOk z next) : LInv z next 0 z.ids (z.g.map fun g => g.map plainU) next := by
  refine ⟨by omega, by rw [List.length_map]; exact hz.len, Int.le_refl _, by omega, fun j i hi => ?_, fun j i i' hi hi' => ?_, fun col hc => ?_⟩
  · have := hz.idk j i hi
    exact ⟨this.1, this.2.1, hl j i hi⟩
  · exact (hz.idk (j + 1) i' hi').2.2 j rfl i hi
  · obtain ⟨g, hg, rfl⟩ := List.mem_map.1 hc
    obtain ⟨k, hkl, hgk⟩ := List.mem_iff_getElem.1 hg
    have h1 := hz.colG k g (by rw [List.getElem?_eq_getElem hkl, hgk])
    exact ⟨rowD_plain ((rowD_iff _ _).2 h1), small_plain (hk.g g hg).1, plain_plain g⟩
theorem linv_more {z : ZD} {next : Int} {k u : Nat} {ids : List Int} {g : List (List Nat)} {a : Int} (hz : Good z) (hk : ZOk z) (h : LInv z next k ids g a) (h0 : 0 ≤ next) (hu : z.r[k]? = some u) (hs : sig u ≠ 0) (ha : a ≤ 1073741824) : LInv z next (k + 1) (ids ++ [a]) (g ++ [unitL z.n.toNat k u]) (a + 1) := by
  have hlo := h.lo
  have hhi := h.hi
  have hnum := h.num
  have hn1 := hz.n1
  refine ⟨by rw [List.length_append, List.length_singleton]; omega, by rw [List.length_append, List.length_append, List.length_singleton, List.length_singleton, h.len], by omega, by omega, fun j i hi => ?_, fun j i i' hi hi' => ?_, fun col hc => ?_⟩
  · by_cases hj : j < ids.length
    · rw [List.getElem?_append_left hj] at hi
      have := h.idsOk j i hi
      omega
    · have hl := (List.getElem?_eq_some_iff.1 hi).1
      rw [List.length_append, List.length_singleton] at hl
      obtain rfl : j = ids.length := by omega
      rw [List.getElem?_append_right (Nat.le_refl _), Nat.sub_self] at hi
      cases hi
      omega
  · have hl := (List.getElem?_eq_some_iff.1 hi').1
    rw [List.length_append, List.length_singleton] at hl
    rw [List.getElem?_append_left (by omega)] at hi
    by_cases hj : j + 1 < ids.length
    · rw [List.getElem?_append_left hj] at hi'
      exact h.up j i i' hi hi'
    · rw [List.getElem?_append_right (by omega), show j + 1 - ids.length = 0 by omega] at hi'
      cases hi'
      exact (h.idsOk j i hi).2.2
  · rcases List.mem_append.1 hc with hc | hc
    · exact h.cols col hc
    · obtain rfl : col = unitL z.n.toNat k u := by simpa using hc
      have hum := List.mem_of_getElem? hu
      have hN : z.n = ((z.n.toNat : Nat) : Int) := by omega
      refine ⟨by rw [hN]; exact rowD_unit _ k u (hz.numR u hum), small_unit _ k u (hk.r u hum), ?_⟩
      unfold unitL
      rw [List.map_set]
      congr 1
      · exact List.map_replicate
      · unfold plainU; rw [if_neg hs]
theorem linv_all {z : ZD} {next : Int} (hz : Good z) (hk : ZOk z) (hl : lastOk z next) (h0 : 0 ≤ next) : ∀ {k : Nat} {ids : List Int} {g : List (List Nat)} {a : Int}, k ≤ z.r.length → liftT z next k = some (ids, g, a) → LInv z next k ids g a := by
  intro k
  induction k with
  | zero =>
    intro ids g a _ h
    rw [liftT_zero] at h
    injection h with h
    simp only [Prod.mk.injEq] at h
    obtain ⟨rfl, rfl, rfl⟩ := h
    exact linv_zero hz hk hl
  | succ k ih =>
    intro ids g a hkr h
    obtain ⟨u, hu⟩ : ∃ u, z.r[k]? = some u := ⟨z.r[k]'(by omega), List.getElem?_eq_getElem _⟩
    have hg : z.r.getD k 0 = u := by rw [List.getD_eq_getElem?_getD, hu, Option.getD_some]
    unfold liftT at h
    rw [hg] at h
    split at h
    · cases h
    · next ids' g' a' h' =>
      have hi := ih (by omega) h'
      split at h
      · injection h with h
        simp only [Prod.mk.injEq] at h
        obtain ⟨rfl, rfl, rfl⟩ := h
        have h3 := hi.hi
        exact ⟨hi.num, hi.len, hi.lo, by omega, hi.idsOk, hi.up, hi.cols⟩
      · next hs =>
        split at h
        · cases h
        · next ha =>
          injection h with h
          simp only [Prod.mk.injEq] at h
          obtain ⟨rfl, rfl, rfl⟩ := h
          exact linv_more hz hk hi h0 hu hs (by omega)
/-- Where the Ids begin low enough, there is room. -/
theorem lift_some {z : ZD} {next : Int} (hz : Good z) (h0 : 0 ≤ next) (h1 : next ≤ 536870912) : ∀ k, k ≤ 256 → ∃ ids g a, liftT z next k = some (ids, g, a) := by
  intro k
  induction k with
  | zero => intro _; exact ⟨_, _, _, rfl⟩
  | succ k ih =>
    intro hk
    obtain ⟨ids, g, a, h⟩ := ih (by omega)
    have hl := liftT_len h
    unfold liftT
    rw [h]
    dsimp only
    split
    · exact ⟨_, _, _, rfl⟩
    · rw [if_neg (by omega)]
      exact ⟨_, _, _, rfl⟩
section
variable {z : ZD} {next a : Int} {ids : List Int} {g : List (List Nat)}
theorem lift_good (hz : Good z) (h : LInv z next z.r.length ids g a) : Good (liftZ z ids g) := by
  have hn1 := hz.n1
  have hN : z.n = ((z.n.toNat : Nat) : Int) := by omega
  refine ⟨rfl, hz.n1, hz.n2, rowD_plain hz.c, (rowD_iff _ _).2 ⟨fun u hu => by rw [List.eq_of_mem_replicate hu]; decide, by show ((List.replicate z.n.toNat 0).length : Int) = z.n; rw [List.length_replicate]; omega⟩, h.len, fun u hu => by rw [List.eq_of_mem_replicate hu]; decide +kernel, fun k hk => ?_⟩
  have hk : k < ids.length := hk
  unfold colOk idOk
  have e1 : ids.getD k 0 = ids[k] := by rw [List.getD_eq_getElem?_getD, List.getElem?_eq_getElem hk]; rfl
  have h1 := h.idsOk k ids[k] (List.getElem?_eq_getElem hk)
  have e2 : g.getD k [] = g[k]'(by rw [← h.len]; exact hk) := by rw [List.getD_eq_getElem?_getD, List.getElem?_eq_getElem (by rw [← h.len]; exact hk)]; rfl
  have h2 := (h.cols _ (List.getElem_mem (h := by rw [← h.len]; exact hk))).1
  show (decide (0 ≤ ids.getD k 0) && decide (ids.getD k 0 ≤ 1073741824) && (k == 0 || decide (ids.getD (k - 1) 0 < ids.getD k 0)) && rowD (g.getD k []) z.n) = true
  rw [e1, e2, h2, decide_eq_true h1.1, decide_eq_true h1.2.1]
  by_cases k0 : k = 0
  · rw [show (k == 0) = true from beq_iff_eq.2 k0]; rfl
  · have h3 := h.up (k - 1) (ids[k - 1]'(by omega)) ids[k] (List.getElem?_eq_getElem (by omega)) (by rw [show k - 1 + 1 = k by omega]; exact List.getElem?_eq_getElem hk)
    have e3 : ids.getD (k - 1) 0 = ids[k - 1]'(by omega) := by rw [List.getD_eq_getElem?_getD, List.getElem?_eq_getElem (by omega)]; rfl
    rw [e3, decide_eq_true h3]
    simp
theorem lift_ok (hz : Good z) (hk : ZOk z) (h : LInv z next z.r.length ids g a) : ZOk (liftZ z ids g) := by
  have h1 := hz.lenC
  have h2 := hz.n2
  have hn1 := hz.n1
  have h3 := hz.cols
  have h4 := hz.len
  have h5 := hz.lenR
  have h6 := h.num
  have h7 := h.hi
  have h8 := h.len
  have hil : ids.length ≤ 1073742081 := by omega
  refine ⟨small_plain hk.c, fun u hu => by rw [List.eq_of_mem_replicate hu]; decide, fun col hc => ⟨(h.cols col hc).2.1, ?_⟩, ?_, ?_, ?_, ?_, hk.n1, hk.n2, fun i hi => ?_⟩
  · have := ((rowD_iff _ _).1 (h.cols col hc).1).2
    unfold MAXF
    omega
  · show (z.c.map plainU).length ≤ MAXF
    rw [List.length_map]
    unfold MAXF
    omega
  · show (List.replicate z.n.toNat 0).length ≤ MAXF
    rw [List.length_replicate]
    unfold MAXF
    omega
  · show ids.length ≤ MAXF
    unfold MAXF
    omega
  · show g.length ≤ MAXG
    unfold MAXG
    omega
  · obtain ⟨j, hj, rfl⟩ := List.mem_iff_getElem.1 hi
    have := h.idsOk j _ (List.getElem?_eq_getElem hj)
    omega
/-- Lifted again. -/
theorem lift_again (hz : Good z) (hk : ZOk z) (h : LInv z next z.r.length ids g a) (h0 : 0 ≤ next) : liftD (liftZ z ids g) a = (liftZ z ids g, a) := by
  have hg := lift_good hz h
  have hlo := h.lo
  have hok : liftOk (liftZ z ids g) a = true := by
    unfold liftOk
    rw [(goodD_iff _).2 hg, decide_eq_true (show 0 ≤ a by omega), Bool.true_and, Bool.true_and]
    show (ids.length == 0 || decide (ids.getD (ids.length - 1) 0 < a)) = true
    by_cases e : ids.length = 0
    · rw [e]; rfl
    · have h1 := h.idsOk (ids.length - 1) (ids[ids.length - 1]'(by omega)) (List.getElem?_eq_getElem (by omega))
      have e1 : ids.getD (ids.length - 1) 0 = ids[ids.length - 1]'(by omega) := by rw [List.getD_eq_getElem?_getD, List.getElem?_eq_getElem (by omega)]; rfl
      rw [e1, decide_eq_true h1.2.2, Bool.or_true]
  have hgm : (g.map fun c => c.map plainU) = g := by
    have e : g.map (fun c => c.map plainU) = g.map id := List.map_congr_left fun c hc => (h.cols c hc).2.2
    rw [e, List.map_id]
  have ht : ∀ k, k ≤ z.n.toNat → liftT (liftZ z ids g) a k = some (ids, g, a) := by
    intro k
    induction k with
    | zero => intro _; rw [liftT_zero]; show some (ids, g.map (fun c => c.map plainU), a) = _; rw [hgm]
    | succ k ih =>
      intro hk
      unfold liftT
      rw [ih (by omega)]
      dsimp only
      have e : (liftZ z ids g).r.getD k 0 = 0 := by
        show (List.replicate z.n.toNat 0).getD k 0 = 0
        rw [List.getD_eq_getElem?_getD, List.getElem?_eq_getElem (by rw [List.length_replicate]; omega), List.getElem_replicate]; rfl
      rw [e, if_pos (by decide)]
  unfold liftD
  rw [if_pos hok, show (liftZ z ids g).n.toNat = z.n.toNat from rfl, ht _ (Nat.le_refl _)]
  show (liftZ (liftZ z ids g) ids g, a) = _
  unfold liftZ
  dsimp only
  rw [plain_plain]
end
end Go.Proofs.YtpfbgenefjhcjaaGreatDoor
namespace Go.Proofs.YtpfbgenefjhcjaaGreatDoor
set_option linter.unusedVariables false
set_option linter.unusedSimpArgs false
open Go Go.RowKit
set_option maxRecDepth 100000
attribute [local go_sem] run_store_flt
theorem run_eqf (d : Nat) (a : Nat) (w : World) (h1 : FloatKind.f64.format.order a a = some .eq) : (Op.equalIn (d + 1) 43 (.float .f64 a) (.float .f64 a)).run Tryz.prog w = .ok true w := by
  have u3 := Tryz.underlying43
  simp [Op.equalIn, run_underlying u3, h1]
  show (FloatKind.f64.format.order a a == some .eq) = true
  rw [h1]
  rfl
theorem span_neq (lo hi : Nat) (bad : Bool) (h1 : FloatKind.f64.format.order lo lo = some .eq) (h2 : FloatKind.f64.format.order hi hi = some .eq) (w : World) : (binOp .neq 74 (.agg #[.float .f64 lo, .float .f64 hi, .bool bad]) (.agg #[.float .f64 lo, .float .f64 hi, .bool bad])).run Tryz.prog w = .ok (.bool false) w := by
  have hS : Tryz.prog.underlying 74 = some (.struct (Tryz.prog.fieldsOf 74)) := by kernel_rfl
  have hp : Tryz.prog.stoodInHeld 74 = false := by kernel_rfl
  have u3 := Tryz.underlying43
  rw [run_neq_struct, show (10000 : Nat) = 9999 + 1 from rfl, run_equalIn_agg w 9999 74 _ _ hS hp]
  simp only [Program.fieldsOf, Tryz.underlying74]
  go_simp
  have e1 : (Op.equalIn 9999 43 (.float .f64 lo) (.float .f64 lo)).run Tryz.prog w = .ok true w := run_eqf 9998 lo w h1
  have e2 : (Op.equalIn 9999 43 (.float .f64 hi) (.float .f64 hi)).run Tryz.prog w = .ok true w := run_eqf 9998 hi w h2
  rw [e1, Result.andThen_ok, if_neg (by decide), e2, Result.andThen_ok, if_neg (by decide), Result.andThen_ok]
  rfl
theorem pow400 (n k : Nat) (h : 0 < n) : (0 : Int).natAbs < n ^ k := Nat.pow_pos h
theorem eqD_self (us : List Nat) : eqD us us = true := by
  unfold eqD eqAt
  simp
theorem sameG_self (z : ZD) : sameG z z = true := by
  unfold sameG sameAt
  simp [eqD_self]
theorem roundS_num (d : Int) (hd : d = 1 ∨ d = 2) (x : Int) : fexp (roundS d (some x)).1 ≠ 2047 := by
  rcases hd with rfl | rfl
  · exact (round_turned (some x)).2.num.1
  · have h := (round_turned (some (-x))).2.num.2
    rw [show (some (-x)).map (fun y => -y) = some x by show some (- -x) = _; rw [Int.neg_neg]] at h
    exact h
theorem bndD_num (z : ZD) (i : Nat) : fexp (bndD z i).lo ≠ 2047 ∧ fexp (bndD z i).hi ≠ 2047 := by
  unfold bndD spanD
  split
  · exact ⟨roundS_num 2 (Or.inr rfl) _, roundS_num 1 (Or.inl rfl) _⟩
  · exact ⟨by decide, by decide⟩
theorem supD_num (z : ZD) (d : List Nat) : fexp (supD z d).1 ≠ 2047 := by
  unfold supD
  split
  · exact roundS_num 1 (Or.inl rfl) _
  · decide
section
variable {z : ZD} {next a : Int} {ids : List Int} {g : List (List Nat)}
theorem lift_supD (hz : Good z) (hk : ZOk z) (hg : Good (liftZ z ids g)) (h : LiftAt z next z.n.toNat ids g a) (d : List Nat) (sd : Small d) : supD (liftZ z ids g) d = supD z d := by
  unfold supD
  rw [(goodD_iff _).2 hg, (goodD_iff _).2 hz, lift_sup hz hk h d sd]
  rfl
theorem lift_bndL (hz : Good z) (h : LiftAt z next z.n.toNat ids g a) (N : Nat) (hN : N ≤ z.n.toNat) : bndL (liftZ z ids g) N = bndL z N := by
  unfold bndL
  refine List.map_congr_left fun i hi => ?_
  have hi := List.mem_range.1 hi
  unfold bndD
  rw [lift_reach hz h i (by omega), show (liftZ z ids g).c = z.c.map plainU from rfl, getD_map_plain, plainU_fz]
end
set_option maxHeartbeats 8000000 in
theorem lifts_any (w : World) (v : Value) (z : ZD) (h : ZIn w v z) (next : Int) (lo : -9223372036854775808 ≤ next) (hi : next ≤ 9223372036854775807) (Ad : Option Addr) (cd : Nat) (d : List Nat) (hd : FIn w Ad cd d) :
    Calls Tryz.prog 6 #[v, .int .i64 next, .slice Ad d.length cd] w fun e w' => e = .returned (.bool true) ∧ Below w.heap.size w w' := by
  obtain ⟨A, B, C, D, kA, kB, kC, kD, rfl, hc, hk, hgn⟩ := h
  have hb1 := below_alloc w (.cells #[.int .i64 z.n, .slice A z.c.length kA, .slice B z.ids.length kB, .slice C z.g.length kC, .slice D z.r.length kD, .bool z.bad] 26)
  have hx := heap_alloc_new w (.cells #[.int .i64 z.n, .slice A z.c.length kA, .slice B z.ids.length kB, .slice C z.g.length kC, .slice D z.r.length kD, .bool z.bad] 26)
  have hof := Of10_any _ _ z ⟨A, B, C, D, kA, kB, kC, kD, rfl, hc.below hb1⟩ hk
  obtain ⟨x0, x1, x2, x3, x4, x5⟩ := cells6 hx
  unfold zval at hof ⊢
  go_enter Tryz.func6, Tryz.ntmps6
  go_wp2_with fail
  refine hof.mono ?_
  rintro e w1 ⟨v1, rfl, hu1, hb⟩
  have hre := Reals_any w1 v1 z hu1 hk
  have hlw := (Array.getElem?_eq_some_iff.1 hx).1
  have g0 := (hb.block _ hlw).trans hx
  have hb2 := hb1.trans (hb.mono hb1.size)
  clear x0 x1 x2 x3 x4 x5 hof hx hb hb1 hgn
  go_wp2_with fail
  refine hre.mono ?_
  rintro e w2 (⟨hg, v2, rfl, hr, hb⟩ | ⟨hg, rfl, hb⟩)
  · have hz := (goodD_iff z).1 hg
    obtain ⟨A1, B1, C1, D1, kA1, kB1, kC1, kD1, rfl, hr⟩ := hr
    have hb3 := hb2.trans (hb.mono hb2.size)
    have g1 := (hb.block _ (Array.getElem?_eq_some_iff.1 g0).1).trans g0
    have hbr := below_alloc w2 (.cells #[.int .i64 z.n, .slice A1 z.c.length kA1, .slice B1 z.ids.length kB1, .slice C1 z.g.length kC1, .slice D1 z.r.length kD1] 61)
    have gr := heap_alloc_new w2 (.cells #[.int .i64 z.n, .slice A1 z.c.length kA1, .slice B1 z.ids.length kB1, .slice C1 z.g.length kC1, .slice D1 z.r.length kD1] 61)
    have g2 := (hbr.block _ (Array.getElem?_eq_some_iff.1 g1).1).trans g1
    have hr2 := hr.below hbr
    have hb4 := hb3.trans (hbr.mono hb3.size)
    unfold rval
    go_upto_region 2 with fail
    clear hb hre g0 g1 hb2 hb3 hbr hr hlw hg
    generalize w2.alloc (.cells #[.int .i64 z.n, .slice A1 z.c.length kA1, .slice B1 z.ids.length kB1, .slice C1 z.g.length kC1, .slice D1 z.r.length kD1] 61) = W at *
    generalize w2.heap.size = br at *
    have hlf := Lift_any W _ z next ⟨A, B, C, D, kA, kB, kC, kD, rfl, hc.below hb4⟩ hk hi
    unfold zval at hlf
    obtain ⟨x0, x1, x2, x3, x4, x5⟩ := cells6 g2
    go_wp2_with fail
    refine hlf.mono ?_
    rintro e w3 ⟨v3, rfl, hv3, hb⟩
    have g3 := (hb.block _ (Array.getElem?_eq_some_iff.1 g2).1).trans g2
    have gr3 := (hb.block _ (Array.getElem?_eq_some_iff.1 gr).1).trans gr
    have hr3 := hr2.below hb
    have hb5 := hb4.trans (hb.mono hb4.size)
    have hy := hv3.is
    clear x0 x1 x2 x3 x4 x5 hlf hb g2 gr hr2 hb4 hv3
    by_cases hcs : 0 ≤ next ∧ next ≤ 536870912 ∧ (z.ids.length = 0 ∨ z.ids.getD (z.ids.length - 1) 0 < next)
    · obtain ⟨h0, h1, h2⟩ := hcs
      have hn1 := hz.n1
      have hn2 := hz.n2
      have hok : liftOk z next = true := by
        unfold liftOk
        rw [(goodD_iff z).2 hz, decide_eq_true h0, Bool.true_and, Bool.true_and]
        rcases h2 with h | h
        · rw [h]; rfl
        · rw [decide_eq_true h, Bool.or_true]
      obtain ⟨ids, g, a, hL⟩ := lift_some hz h0 h1 z.n.toNat (by omega)
      have hrl : z.n.toNat = z.r.length := by have := hz.lenR; omega
      have hld : liftD z next = (liftZ z ids g, a) := lift_end hz hok (by rw [← hrl]; exact hL)
      have hlast : lastOk z next := fun j i hi => by
        have hj := (List.getElem?_eq_some_iff.1 hi).1
        have hup : ∀ m, j + m < z.ids.length → i ≤ z.ids.getD (j + m) 0 := by
          intro m
          induction m with
          | zero => intro _; rw [Nat.add_zero, List.getD_eq_getElem?_getD, hi]; exact Int.le_refl _
          | succ m ih =>
            intro hm
            have e1 : z.ids[j + m]? = some (z.ids.getD (j + m) 0) := by rw [List.getD_eq_getElem?_getD, List.getElem?_eq_getElem (by omega)]; rfl
            have e2 : z.ids[j + (m + 1)]? = some (z.ids.getD (j + (m + 1)) 0) := by rw [List.getD_eq_getElem?_getD, List.getElem?_eq_getElem (by omega)]; rfl
            have := (hz.idk (j + (m + 1)) _ e2).2.2 (j + m) (by omega) _ e1
            have := ih (by omega)
            omega
        rcases h2 with h | h
        · omega
        · have := hup (z.ids.length - 1 - j) (by omega)
          rw [show j + (z.ids.length - 1 - j) = z.ids.length - 1 by omega] at this
          omega
      have hinv := linv_all hz hk hlast h0 (Nat.le_of_eq hrl) hL
      rw [hrl] at hinv
      have hyg := lift_good hz hinv
      have hyk := lift_ok hz hk hinv
      have hagain := lift_again hz hk hinv h0
      have hnum := hinv.num
      have hahi := hinv.hi
      have halo := hinv.lo
      have hsupp := lift_supD hz hk hyg hL d hd.small
      have hbnd := lift_bndL hz hL z.n.toNat (Nat.le_refl _)
      have hyn : (liftZ z ids g).n = z.n := rfl
      have hyr0 : ∀ i, fz ((liftZ z ids g).r.getD i 0) = 0 := fun i => by
        show fz ((List.replicate z.n.toNat 0).getD i 0) = 0
        rw [List.getD_eq_getElem?_getD, List.getElem?_replicate]
        split <;> exact fz_zero
      have hycd : ∀ i, fz ((liftZ z ids g).c.getD i 0) = fz (z.c.getD i 0) := fun i => by
        show fz ((z.c.map plainU).getD i 0) = _
        rw [getD_map_plain, plainU_fz]
      have hyil : ((liftZ z ids g).ids.length : Int) = z.ids.length + (a - next) := hnum
      rw [hld] at hy ⊢
      dsimp only at hy
      clear hL hinv hlast hok hld hnum
      generalize hyy : liftZ z ids g = y at *
      clear hyy
      obtain ⟨A2, B2, C2, D2, kA2, kB2, kC2, kD2, rfl, hy⟩ := hy
      unfold zval
      rw [hyn]
      have hby := below_alloc w3 (.cells #[.int .i64 z.n, .slice A2 y.c.length kA2, .slice B2 y.ids.length kB2, .slice C2 y.g.length kC2, .slice D2 y.r.length kD2, .bool y.bad] 26)
      have gy := heap_alloc_new w3 (.cells #[.int .i64 z.n, .slice A2 y.c.length kA2, .slice B2 y.ids.length kB2, .slice C2 y.g.length kC2, .slice D2 y.r.length kD2, .bool y.bad] 26)
      have g4 := (hby.block _ (Array.getElem?_eq_some_iff.1 g3).1).trans g3
      have gr4 := (hby.block _ (Array.getElem?_eq_some_iff.1 gr3).1).trans gr3
      have hr4 := hr3.below hby
      have hy4 := hy.below hby
      have hb6 := hb5.trans (hby.mono hb5.size)
      clear hy hr3 hb5 g3 gr3
      go_upto_region 3 with fail
      clear hby
      generalize w3.alloc (.cells #[.int .i64 z.n, .slice A2 y.c.length kA2, .slice B2 y.ids.length kB2, .slice C2 y.g.length kC2, .slice D2 y.r.length kD2, .bool y.bad] 26) = W4 at *
      obtain ⟨by_, hby_⟩ : ∃ b, w3.heap.size = b := ⟨_, rfl⟩
      rw [hby_] at gy ⊢
      clear hby_
      go_cut [62] from 35 to 61 (fun c wx => c = .bool false ∧ W4 = wx)
      case first =>
        obtain ⟨y0, y1, y2, y3, y4⟩ := cells5 gr4
        have hn0' : decide (next < 0) = false := decide_eq_false (by omega)
        have hn1' : decide (536870912 < next) = false := decide_eq_false (by omega)
        by_cases hl : z.ids.length = 0
        · have hl0 : decide ((0 : Int) < (z.ids.length : Int)) = false := decide_eq_false (by omega)
          have hl0n : decide (0 < z.ids.length) = false := decide_eq_false (by omega)
          clear h2 h0 h1 hl
          go_wp2_with fail
          go_meet
          case rel => exact ⟨rfl, rfl⟩
        · obtain ⟨i, hi'⟩ : ∃ i, z.ids[z.ids.length - 1]? = some i := ⟨z.ids[z.ids.length - 1]'(by omega), List.getElem?_eq_getElem _⟩
          have hil : decide (next ≤ i) = false := by
            refine decide_eq_false ?_
            rcases h2 with h | h
            · exact absurd h hl
            · rw [List.getD_eq_getElem?_getD, hi', Option.getD_some] at h
              omega
          have hl0 : (0 : Int) < (z.ids.length : Int) := by omega
          have hl0' : 0 < z.ids.length := by omega
          have hli := hk.li
          unfold MAXF at hli
          obtain ⟨b, o, rfl, hbb, hcell⟩ := hr4.ids.row.at (Below.refl _ _) (z.ids.length - 1) i hi'
          have hcell' : W4.cell? ⟨b, o + (z.ids.length - 1), none⟩ = some (.int .i64 i) := hcell
          have kn : ((z.ids.length : Int) - 1).toNat = z.ids.length - 1 := by omega
          have kp : (0 : Int) ≤ (z.ids.length : Int) - 1 := by omega
          have kp' : 1 ≤ z.ids.length := by omega
          have kl : (z.ids.length : Int) - 1 < (z.ids.length : Int) := by omega
          clear hi' h2 hl hcell h0 h1
          go_wp2_with fail
          go_meet
          case rel => exact ⟨rfl, rfl⟩
      case rest =>
        obtain ⟨hcu, rfl⟩ := hcut
        subst hcu
        have hof := Of10_any W4 _ y ⟨A2, B2, C2, D2, kA2, kB2, kC2, kD2, rfl, hy4⟩ hyk
        unfold zval at hof
        rw [hyn] at hof
        obtain ⟨x0, x1, x2, x3, x4, x5⟩ := cells6 gy
        go_wp2_with fail
        refine hof.mono ?_
        rintro e w5 ⟨v5, rfl, hu5, hb⟩
        have hre := Reals_any w5 v5 y hu5 hyk
        have hb7 := hb.trans (Below.refl _ _)
        clear x0 x1 x2 x3 x4 x5 hof hb
        go_wp2_with fail
        refine hre.mono ?_
        rintro e w6 (⟨-, v6, rfl, hr6, hb⟩ | ⟨hg6, -, -⟩)
        rotate_left
        · rw [(goodD_iff y).2 hyg] at hg6; cases hg6
        obtain ⟨A3, B3, C3, D3, kA3, kB3, kC3, kD3, rfl, hr6⟩ := hr6
        have hb8 := hb7.trans (hb.mono hb7.size)
        unfold rval
        rw [hyn]
        have hbt := below_alloc w6 (.cells #[.int .i64 z.n, .slice A3 y.c.length kA3, .slice B3 y.ids.length kB3, .slice C3 y.g.length kC3, .slice D3 y.r.length kD3] 61)
        have gt6 := heap_alloc_new w6 (.cells #[.int .i64 z.n, .slice A3 y.c.length kA3, .slice B3 y.ids.length kB3, .slice C3 y.g.length kC3, .slice D3 y.r.length kD3] 61)
        have hb9 := hb8.trans (hbt.mono hb8.size)
        have hr7 := hr6.below hbt
        have gy7 := (hb9.block _ (Array.getElem?_eq_some_iff.1 gy).1).trans gy
        have g7 := (hb9.block _ (Array.getElem?_eq_some_iff.1 g4).1).trans g4
        have gr7 := (hb9.block _ (Array.getElem?_eq_some_iff.1 gr4).1).trans gr4
        have hrz := hr4.below hb9
        have hy7 := hy4.below hb9
        have hb10 := hb6.trans (hb9.mono hb6.size)
        clear hb hre hb7 hb8 hbt hr6 hb9 gy g4 gr4 hr4 hy4 hb6
        go_upto_region 6 with fail
        generalize w6.alloc (.cells #[.int .i64 z.n, .slice A3 y.c.length kA3, .slice B3 y.ids.length kB3, .slice C3 y.g.length kC3, .slice D3 y.r.length kD3] 61) = W7 at *
        obtain ⟨bt, hbt⟩ : ∃ b, w6.heap.size = b := ⟨_, rfl⟩
        rw [hbt] at gt6 ⊢
        clear hbt
        obtain ⟨r0, r1, r2, r3, r4⟩ := cells5 gr7
        obtain ⟨t0, t1, t2, t3, t4⟩ := cells5 gt6
        obtain ⟨y0, y1, y2, y3, y4, y5⟩ := cells6 gy7
        obtain ⟨x0, x1, x2, x3, x4, x5⟩ := cells6 g7
        have hli := hk.li
        unfold MAXF at hli
        have hln : z.r.length ≤ 256 := by omega
        have k5 : wrap64 ((z.ids.length : Int) + a) = (z.ids.length : Int) + a := (by unfold wrap64; omega)
        have k6 : wrap64 ((z.ids.length : Int) + a - next) = (y.ids.length : Int) := (by unfold wrap64; omega)
        have ha63 : a ≤ 9223372036854775807 := by omega
        clear hyil hahi halo hrl hli hln
        go_upto_region 8 with fail
        clear r0 r1 r2 r3 r4 t0 t1 t2 t3 t4 y0 y1 y2 y3 y4 y5 x0 x1 x2 x3 x4 x5 k5 k6
        obtain ⟨t0, t1, t2, t3, t4⟩ := cells5 gt6
        clear t1 t2 t3 t4
        go_wp2_with fail
        go_loopw [13] (fun kk wr => ∃ i : Nat, i ≤ z.n.toNat ∧ kk = .int .i64 (i : Nat) ∧ Below W7.heap.size W7 wr) (fun kk _ => z.n.toNat - (intOf kk).toNat)
        case atStart => exact ⟨0, Nat.zero_le _, rfl, Below.refl _ _⟩
        case round =>
          obtain ⟨i, hil, rfl, hB⟩ := hrel
          have gt := (hB.block _ (Array.getElem?_eq_some_iff.1 gt6).1).trans gt6
          clear t0
          by_cases hlt : (i : Int) < z.n
          · have grr := (hB.block _ (Array.getElem?_eq_some_iff.1 gr7).1).trans gr7
            have hrt := hr7.below hB
            have hrq := hrz.below hB
            have hzc := hz.lenC
            have hyc_ := hyg.lenC
            have hyr_ := hyg.lenR
            rw [hyn] at hyc_ hyr_
            have q1 : (i : Int) < (y.r.length : Int) := by omega
            have q2 : (i : Int) < (y.c.length : Int) := by omega
            have q3 : (i : Int) < (z.c.length : Int) := by omega
            obtain ⟨bd, od, yd, hD3, lbd, d0, d1, d2, hyd⟩ := row_num hrt.r i (by omega)
            obtain ⟨bc, oc, yc, hA3, lbc, e0, e1, e2, hyc⟩ := row_num hrt.c i (by omega)
            obtain ⟨bz, oz, yz, hA1, lbz, f0, f1, f2, hyz⟩ := row_num hrq.c i (by omega)
            obtain ⟨t0, t1, t2, t3, t4⟩ := cells5 gt
            obtain ⟨r0, r1, r2, r3, r4⟩ := cells5 grr
            rw [hD3] at t4
            rw [hA3] at t1
            rw [hA1] at r1
            rw [hyr0 i] at hyd
            rw [hycd i] at hyc
            generalize fz (z.c.getD i 0) = C0 at hyc hyz
            have hpos : (0 : Int).natAbs < W32 ^ 400 := pow400 W32 400 (by decide)
            have lbt := (Array.getElem?_eq_some_iff.1 gt).1
            have lbr := (Array.getElem?_eq_some_iff.1 grr).1
            clear hzc hyc_ hyr_ hD3 hA3 hA1
            go_upto_region 11 with fail
            have hd0 := (Below.refl wr.heap.size wr).drew
            have hd := hd0
            have hS : ∀ W', Below wr.heap.size wr W' → (fun w' => w'.cell? ⟨bt, 1, none⟩ = some (.slice (some ⟨bc, oc, none⟩) y.c.length kA3) ∧ w'.cell? ⟨bt, 4, none⟩ = some (.slice (some ⟨bd, od, none⟩) y.r.length kD3) ∧ w'.cell? ⟨br, 1, none⟩ = some (.slice (some ⟨bz, oz, none⟩) z.c.length kA1) ∧ w'.cell? ⟨bd, od + i * 3, none⟩ = some (.bool yd.neg) ∧ w'.cell? ⟨bd, od + i * 3 + 1, none⟩ = some (.slice yd.A yd.n yd.cap) ∧ w'.cell? ⟨bd, od + i * 3 + 2, none⟩ = some (.int .i64 yd.E) ∧ w'.cell? ⟨bc, oc + i * 3, none⟩ = some (.bool yc.neg) ∧ w'.cell? ⟨bc, oc + i * 3 + 1, none⟩ = some (.slice yc.A yc.n yc.cap) ∧ w'.cell? ⟨bc, oc + i * 3 + 2, none⟩ = some (.int .i64 yc.E) ∧ w'.cell? ⟨bz, oz + i * 3, none⟩ = some (.bool yz.neg) ∧ w'.cell? ⟨bz, oz + i * 3 + 1, none⟩ = some (.slice yz.A yz.n yz.cap) ∧ w'.cell? ⟨bz, oz + i * 3 + 2, none⟩ = some (.int .i64 yz.E)) W' := fun W' hb => ⟨(hb.cell (p := ⟨bt, 1, none⟩) lbt).trans t1, (hb.cell (p := ⟨bt, 4, none⟩) lbt).trans t4, (hb.cell (p := ⟨br, 1, none⟩) lbr).trans r1, (hb.cell (p := ⟨bd, od + i * 3, none⟩) lbd).trans d0, (hb.cell (p := ⟨bd, od + i * 3 + 1, none⟩) lbd).trans d1, (hb.cell (p := ⟨bd, od + i * 3 + 2, none⟩) lbd).trans d2, (hb.cell (p := ⟨bc, oc + i * 3, none⟩) lbc).trans e0, (hb.cell (p := ⟨bc, oc + i * 3 + 1, none⟩) lbc).trans e1, (hb.cell (p := ⟨bc, oc + i * 3 + 2, none⟩) lbc).trans e2, (hb.cell (p := ⟨bz, oz + i * 3, none⟩) lbz).trans f0, (hb.cell (p := ⟨bz, oz + i * 3 + 1, none⟩) lbz).trans f1, (hb.cell (p := ⟨bz, oz + i * 3 + 2, none⟩) lbz).trans f2⟩
            refine late_begin (fun w' => w'.cell? ⟨bt, 1, none⟩ = some (.slice (some ⟨bc, oc, none⟩) y.c.length kA3) ∧ w'.cell? ⟨bt, 4, none⟩ = some (.slice (some ⟨bd, od, none⟩) y.r.length kD3) ∧ w'.cell? ⟨br, 1, none⟩ = some (.slice (some ⟨bz, oz, none⟩) z.c.length kA1) ∧ w'.cell? ⟨bd, od + i * 3, none⟩ = some (.bool yd.neg) ∧ w'.cell? ⟨bd, od + i * 3 + 1, none⟩ = some (.slice yd.A yd.n yd.cap) ∧ w'.cell? ⟨bd, od + i * 3 + 2, none⟩ = some (.int .i64 yd.E) ∧ w'.cell? ⟨bc, oc + i * 3, none⟩ = some (.bool yc.neg) ∧ w'.cell? ⟨bc, oc + i * 3 + 1, none⟩ = some (.slice yc.A yc.n yc.cap) ∧ w'.cell? ⟨bc, oc + i * 3 + 2, none⟩ = some (.int .i64 yc.E) ∧ w'.cell? ⟨bz, oz + i * 3, none⟩ = some (.bool yz.neg) ∧ w'.cell? ⟨bz, oz + i * 3 + 1, none⟩ = some (.slice yz.A yz.n yz.cap) ∧ w'.cell? ⟨bz, oz + i * 3 + 2, none⟩ = some (.int .i64 yz.E)) [] (by kernel_rfl) ?_
            refine late_take (i := 0) (v := ?_) (some 110) rfl rfl (by kernel_rfl) (by kernel_rfl) (by kernel_rfl) (by kernel_rfl) (fun _ _ _ h => h) (by kernel_rfl) (hS _ hd) ?_ ?_
            rotate_left
            · (intro w hSw; (try dsimp only at hSw); go_simp; try rfl)
            try simp only [Act.put, List.setIfInBounds_toArray, List.set_cons_zero, List.set_cons_succ]
            refine late_take (i := 1) (v := ?_) (some 111) rfl rfl (by kernel_rfl) (by kernel_rfl) (by kernel_rfl) (by kernel_rfl) (fun _ _ _ h => h) (by kernel_rfl) (hS _ hd) ?_ ?_
            rotate_left
            · (intro w hSw; (try dsimp only at hSw); go_simp; try rfl)
            try simp only [Act.put, List.setIfInBounds_toArray, List.set_cons_zero, List.set_cons_succ]
            refine late_take (i := 2) (v := ?_) (some 112) rfl rfl (by kernel_rfl) (by kernel_rfl) (by kernel_rfl) (by kernel_rfl) (fun _ _ _ h => h) (by kernel_rfl) (hS _ hd) ?_ ?_
            rotate_left
            · (intro w hSw; (try dsimp only at hSw); go_simp; try rfl)
            try simp only [Act.put, List.setIfInBounds_toArray, List.set_cons_zero, List.set_cons_succ]
            refine late_take (i := 3) (v := ?_) (some 113) rfl rfl (by kernel_rfl) (by kernel_rfl) (by kernel_rfl) (by kernel_rfl) (fun _ _ _ h => h) (by kernel_rfl) (hS _ hd) ?_ ?_
            rotate_left
            · (intro w hSw; (try dsimp only at hSw); go_simp; try rfl)
            try simp only [Act.put, List.setIfInBounds_toArray, List.set_cons_zero, List.set_cons_succ]
            refine late_take (i := 4) (v := ?_) (some 114) rfl rfl (by kernel_rfl) (by kernel_rfl) (by kernel_rfl) (by kernel_rfl) (fun _ _ _ h => h) (by kernel_rfl) (hS _ hd) ?_ ?_
            rotate_left
            · (intro w hSw; (try dsimp only at hSw); go_simp; try rfl)
            try simp only [Act.put, List.setIfInBounds_toArray, List.set_cons_zero, List.set_cons_succ]
            refine late_one (i := 5) rfl (by kernel_rfl) ?_
            intro K hK
            go_simp
            have hsg := sign_r _ _ _ yd _ (hyd.below hd0)
            rw [Int.sign_zero] at hsg
            refine hsg.mono ?_
            rintro e w8 ⟨rfl, hb8⟩
            have hc8 := hd0.trans (hb8.mono hd0.size)
            try show K _ _
            refine hK.out _ _ (Or.inr (hS _ hc8)) ?_
            clear hK K
            try simp only [Act.put, List.setIfInBounds_toArray, List.set_cons_zero, List.set_cons_succ]
            refine late_take (i := 6) (v := ?_) (some 116) rfl rfl (by kernel_rfl) (by kernel_rfl) (by kernel_rfl) (by kernel_rfl) (fun _ _ _ h => h) (by kernel_rfl) (hS _ hc8) ?_ ?_
            rotate_left
            · (intro w hSw; (try dsimp only at hSw); go_simp; try rfl)
            try simp only [Act.put, List.setIfInBounds_toArray, List.set_cons_zero, List.set_cons_succ]
            refine late_take (i := 7) (v := ?_) (some 117) rfl rfl (by kernel_rfl) (by kernel_rfl) (by kernel_rfl) (by kernel_rfl) (fun _ _ _ h => h) (by kernel_rfl) (hS _ hc8) ?_ ?_
            rotate_left
            · (intro w hSw; (try dsimp only at hSw); go_simp; try rfl)
            try simp only [Act.put, List.setIfInBounds_toArray, List.set_cons_zero, List.set_cons_succ]
            refine late_take (i := 8) (v := ?_) (some 118) rfl rfl (by kernel_rfl) (by kernel_rfl) (by kernel_rfl) (by kernel_rfl) (fun _ _ _ h => h) (by kernel_rfl) (hS _ hc8) ?_ ?_
            rotate_left
            · (intro w hSw; (try dsimp only at hSw); go_simp; try rfl)
            try simp only [Act.put, List.setIfInBounds_toArray, List.set_cons_zero, List.set_cons_succ]
            refine late_take (i := 9) (v := ?_) (some 119) rfl rfl (by kernel_rfl) (by kernel_rfl) (by kernel_rfl) (by kernel_rfl) (fun _ _ _ h => h) (by kernel_rfl) (hS _ hc8) ?_ ?_
            rotate_left
            · (intro w hSw; (try dsimp only at hSw); go_simp; try rfl)
            try simp only [Act.put, List.setIfInBounds_toArray, List.set_cons_zero, List.set_cons_succ]
            refine late_take (i := 10) (v := ?_) (some 120) rfl rfl (by kernel_rfl) (by kernel_rfl) (by kernel_rfl) (by kernel_rfl) (fun _ _ _ h => h) (by kernel_rfl) (hS _ hc8) ?_ ?_
            rotate_left
            · (intro w hSw; (try dsimp only at hSw); go_simp; try rfl)
            try simp only [Act.put, List.setIfInBounds_toArray, List.set_cons_zero, List.set_cons_succ]
            refine late_take (i := 11) (v := ?_) (some 121) rfl rfl (by kernel_rfl) (by kernel_rfl) (by kernel_rfl) (by kernel_rfl) (fun _ _ _ h => h) (by kernel_rfl) (hS _ hc8) ?_ ?_
            rotate_left
            · (intro w hSw; (try dsimp only at hSw); go_simp; try rfl)
            try simp only [Act.put, List.setIfInBounds_toArray, List.set_cons_zero, List.set_cons_succ]
            refine late_take (i := 12) (v := ?_) (some 122) rfl rfl (by kernel_rfl) (by kernel_rfl) (by kernel_rfl) (by kernel_rfl) (fun _ _ _ h => h) (by kernel_rfl) (hS _ hc8) ?_ ?_
            rotate_left
            · (intro w hSw; (try dsimp only at hSw); go_simp; try rfl)
            try simp only [Act.put, List.setIfInBounds_toArray, List.set_cons_zero, List.set_cons_succ]
            refine late_take (i := 13) (v := ?_) (some 123) rfl rfl (by kernel_rfl) (by kernel_rfl) (by kernel_rfl) (by kernel_rfl) (fun _ _ _ h => h) (by kernel_rfl) (hS _ hc8) ?_ ?_
            rotate_left
            · (intro w hSw; (try dsimp only at hSw); go_simp; try rfl)
            try simp only [Act.put, List.setIfInBounds_toArray, List.set_cons_zero, List.set_cons_succ]
            refine late_take (i := 14) (v := ?_) (some 124) rfl rfl (by kernel_rfl) (by kernel_rfl) (by kernel_rfl) (by kernel_rfl) (fun _ _ _ h => h) (by kernel_rfl) (hS _ hc8) ?_ ?_
            rotate_left
            · (intro w hSw; (try dsimp only at hSw); go_simp; try rfl)
            try simp only [Act.put, List.setIfInBounds_toArray, List.set_cons_zero, List.set_cons_succ]
            refine late_take (i := 15) (v := ?_) (some 125) rfl rfl (by kernel_rfl) (by kernel_rfl) (by kernel_rfl) (by kernel_rfl) (fun _ _ _ h => h) (by kernel_rfl) (hS _ hc8) ?_ ?_
            rotate_left
            · (intro w hSw; (try dsimp only at hSw); go_simp; try rfl)
            try simp only [Act.put, List.setIfInBounds_toArray, List.set_cons_zero, List.set_cons_succ]
            refine late_take (i := 16) (v := ?_) (some 126) rfl rfl (by kernel_rfl) (by kernel_rfl) (by kernel_rfl) (by kernel_rfl) (fun _ _ _ h => h) (by kernel_rfl) (hS _ hc8) ?_ ?_
            rotate_left
            · (intro w hSw; (try dsimp only at hSw); go_simp; try rfl)
            try simp only [Act.put, List.setIfInBounds_toArray, List.set_cons_zero, List.set_cons_succ]
            refine late_take (i := 17) (v := ?_) (some 127) rfl rfl (by kernel_rfl) (by kernel_rfl) (by kernel_rfl) (by kernel_rfl) (fun _ _ _ h => h) (by kernel_rfl) (hS _ hc8) ?_ ?_
            rotate_left
            · (intro w hSw; (try dsimp only at hSw); go_simp; try rfl)
            try simp only [Act.put, List.setIfInBounds_toArray, List.set_cons_zero, List.set_cons_succ]
            refine late_one (i := 18) rfl (by kernel_rfl) ?_
            intro K hK
            go_simp
            have hcm := cmp_r _ _ _ _ _ yc yz _ _ (hyc.below hc8) (hyz.below hc8) (by rw [Int.add_right_neg]; exact hpos)
            rw [Int.add_right_neg, Int.sign_zero] at hcm
            refine hcm.mono ?_
            rintro e w9 ⟨rfl, hb9⟩
            have hc9 := hc8.trans (hb9.mono hc8.size)
            try show K _ _
            refine hK.out _ _ (Or.inr (hS _ hc9)) ?_
            clear hK K
            try simp only [Act.put, List.setIfInBounds_toArray, List.set_cons_zero, List.set_cons_succ]
            refine late_take (i := 19) (v := ?_) (some 129) rfl rfl (by kernel_rfl) (by kernel_rfl) (by kernel_rfl) (by kernel_rfl) (fun _ _ _ h => h) (by kernel_rfl) (hS _ hc9) ?_ ?_
            rotate_left
            · (intro w hSw; (try dsimp only at hSw); go_simp; try rfl)
            try simp only [Act.put, List.setIfInBounds_toArray, List.set_cons_zero, List.set_cons_succ]
            refine late_take (i := 20) (v := ?_) (some 130) rfl rfl (by kernel_rfl) (by kernel_rfl) (by kernel_rfl) (by kernel_rfl) (fun _ _ _ h => h) (by kernel_rfl) (hS _ hc9) ?_ ?_
            rotate_left
            · (intro w hSw; (try dsimp only at hSw); go_simp; try rfl)
            try simp only [Act.put, List.setIfInBounds_toArray, List.set_cons_zero, List.set_cons_succ]
            refine late_done (by kernel_rfl) ?_ _
            have hBn := hB.trans (hc9.mono hB.size)
            clear hS hd hd0 hc9 hb9 hc8 hb8 d0 d1 d2 e0 e1 e2 f0 f1 f2 hyd hyc hyz t1 t2 t3 t4 r0 r1 r2 r3 r4 gt grr hrt hrq hcm hsg hpos lbd lbc lbz lbt lbr q1 q2 q3
            go_wp2_with fail
            go_roundw
            case rel => exact ⟨i + 1, by omega, by go_num, hBn⟩
            case measure => simp [intOf]; omega
          · have hlt' : decide ((i : Int) < z.n) = false := decide_eq_false hlt
            obtain ⟨t0, t1, t2, t3, t4⟩ := cells5 gt
            clear t1 t2 t3 t4
            go_upto_region 13 with fail
            clear t0
            have hBw := hb10.trans (hB.mono hb10.size)
            have g8 := (hB.block _ (Array.getElem?_eq_some_iff.1 g7).1).trans g7
            have gy8 := (hB.block _ (Array.getElem?_eq_some_iff.1 gy7).1).trans gy7
            have hy8 := hy7.below hB
            have hml : d.length ≤ maxLen := by have := hd.most; unfold MAXF at this; unfold maxLen; omega
            have hfr := hd.at_.row
            have hN256 : z.n.toNat ≤ 256 := by omega
            have hBy : bndsD y = bndL z z.n.toNat := by unfold bndsD; rw [if_pos ((goodD_iff y).2 hyg), hyn]; exact hbnd
            have hBz : bndsD z = bndL z z.n.toNat := by unfold bndsD; rw [if_pos ((goodD_iff z).2 hz)]; rfl
            generalize z.n.toNat = N at hN256 hBy hBz
            have HBy := Lib.hid hBy
            have HBz := Lib.hid hBz
            have HSy := Lib.hid hsupp
            have HLy := Lib.hid hagain
            have hpn := order_same _ (supD_num z d)
            clear g7 gy7 hy7 gr7 gt gt6 hr7 hrz hB hyr0 hycd hbnd hBy hBz hsupp hagain hlt hlt' hil hb10 h0 h1 h2
            have hsu := support_any wr _ z Ad cd d ⟨A, B, C, D, kA, kB, kC, kD, rfl, hc.below hBw⟩ hk (hfr.below (Nat.le_refl _) hBw) hd.small hml
            have hsv := fun w1 (hb : Below wr.heap.size wr w1) => support_any w1 _ y Ad cd d ⟨A2, B2, C2, D2, kA2, kB2, kC2, kD2, rfl, hy8.below hb⟩ hyk (hfr.below (Nat.le_refl _) (hBw.trans (hb.mono hBw.size))) hd.small hml
            unfold zval at hsu hsv
            rw [HSy.out, hyn] at hsv
            generalize supD z d = pp at hsu hsv hpn
            obtain ⟨pu, po⟩ := pp
            dsimp only at hpn hsu hsv
            obtain ⟨x0, x1, x2, x3, x4, x5⟩ := cells6 g8
            go_wp2_with fail
            refine hsu.mono ?_
            rintro e wa ⟨rfl, hba⟩
            have gya := (hba.block _ (Array.getElem?_eq_some_iff.1 gy8).1).trans gy8
            clear x0 x1 x2 x3 x4 x5 hsu
            obtain ⟨y0, y1, y2, y3, y4, y5⟩ := cells6 gya
            go_wp2_with fail
            refine (hsv _ hba).mono ?_
            rintro e wb ⟨rfl, hb⟩
            have hBb := hba.trans (hb.mono hba.size)
            clear y0 y1 y2 y3 y4 y5 hsv gya hba hb
            have gb := (hBb.block _ (Array.getElem?_eq_some_iff.1 g8).1).trans g8
            have gyb := (hBb.block _ (Array.getElem?_eq_some_iff.1 gy8).1).trans gy8
            have hBb2 := hBw.trans (hBb.mono hBw.size)
            have hyb := hy8.below hBb
            clear hBb g8 gy8 hy8 hBw
            have hbz := bounds_any wb _ z ⟨A, B, C, D, kA, kB, kC, kD, rfl, hc.below hBb2⟩ hk
            unfold zval at hbz
            rw [HBz.out] at hbz
            obtain ⟨x0, x1, x2, x3, x4, x5⟩ := cells6 gb
            go_wp2_with fail
            refine hbz.mono ?_
            rintro e w3 ⟨As, cs, rfl, hS, hs1, hs2, hb⟩
            have gyc := (hb.block _ (Array.getElem?_eq_some_iff.1 gyb).1).trans gyb
            have hyc := hyb.below hb
            have hBc := hBb2.trans (hb.mono hBb2.size)
            clear x0 x1 x2 x3 x4 x5 hbz gb gyb hyb hb
            rw [bndL_length] at hs1 ⊢
            have hby := bounds_any w3 _ y ⟨A2, B2, C2, D2, kA2, kB2, kC2, kD2, rfl, hyc⟩ hyk
            unfold zval at hby
            rw [HBy.out, hyn] at hby
            obtain ⟨y0, y1, y2, y3, y4, y5⟩ := cells6 gyc
            go_wp2_with fail
            refine hby.mono ?_
            rintro e w4 ⟨At, ct, rfl, hT, ht1, ht2, hb⟩
            have gyd := (hb.block _ (Array.getElem?_eq_some_iff.1 gyc).1).trans gyc
            have hyd := hyc.below hb
            have hBd := hBc.trans (hb.mono hBc.size)
            have hS4 := hS.below hb
            clear y0 y1 y2 y3 y4 y5 hby gyc hyc hb hS hBc hBb2
            rw [bndL_length] at ht1 ⊢
            go_wp2_with fail
            go_loopw [20] (fun kk wr => ∃ i : Nat, i ≤ N ∧ kk = .int .i64 (i : Nat) ∧ Below w4.heap.size w4 wr) (fun kk _ => N - (intOf kk).toNat)
            case atStart => exact ⟨0, Nat.zero_le _, rfl, Below.refl _ _⟩
            case round =>
              obtain ⟨i, hil, rfl, hB⟩ := hrel
              by_cases hlt : i < N
              · have hlt' : (i : Int) < (N : Int) := by omega
                have hbi : (bndL z N)[i]? = some (bndD z i) := by unfold bndL; rw [List.getElem?_map, List.getElem?_range hlt]; rfl
                obtain ⟨gs, rfl, hgs, c0, c1, c2⟩ := (hS4.below hB) i (bndD z i) hbi
                obtain ⟨gu, rfl, hgu, d0, d1, d2⟩ := (hT.below hB) i (bndD z i) hbi
                have hnum := bndD_num z i
                clear hbi
                generalize bndD z i = b at *
                obtain ⟨lo', hi', bad⟩ := b
                dsimp only at c0 c1 c2 d0 d1 d2 hnum
                have hneq := span_neq lo' hi' bad (order_same _ hnum.1) (order_same _ hnum.2)
                clear hnum
                go_upto_region 22 with fail
                go_quiet (fail)
                go_wp2_with fail
                go_roundw
                case rel => exact ⟨i + 1, by omega, by go_num, below_drewN' hB _⟩
                case measure => simp [intOf]; omega
              · have hlt' : decide ((i : Int) < (N : Int)) = false := decide_eq_false (by omega)
                have gye := (hB.block _ (Array.getElem?_eq_some_iff.1 gyd).1).trans gyd
                have hye := hyd.below hB
                have hBe := hBd.trans (hB.mono hBd.size)
                have hlf := Lift_any wr _ y a ⟨A2, B2, C2, D2, kA2, kB2, kC2, kD2, rfl, hye⟩ hyk ha63
                unfold zval at hlf
                rw [HLy.out, hyn] at hlf
                obtain ⟨y0, y1, y2, y3, y4, y5⟩ := cells6 gye
                clear hS4 hT gyd hyd hBd hB
                go_wp2_with fail
                refine hlf.mono ?_
                rintro e wf ⟨vf, rfl, hvf, hb⟩
                obtain ⟨A4, B4, C4, D4, kA4, kB4, kC4, kD4, rfl, hyf⟩ := hvf.is
                unfold zval
                rw [hyn]
                have gyf := (hb.block _ (Array.getElem?_eq_some_iff.1 gye).1).trans gye
                have hyg2 := hye.below hb
                have hBf := hBe.trans (hb.mono hBe.size)
                clear y0 y1 y2 y3 y4 y5 hlf gye hye hb hBe hvf
                have hbw := below_alloc wf (.cells #[.int .i64 z.n, .slice A4 y.c.length kA4, .slice B4 y.ids.length kB4, .slice C4 y.g.length kC4, .slice D4 y.r.length kD4, .bool y.bad] 26)
                have gw := heap_alloc_new wf (.cells #[.int .i64 z.n, .slice A4 y.c.length kA4, .slice B4 y.ids.length kB4, .slice C4 y.g.length kC4, .slice D4 y.r.length kD4, .bool y.bad] 26)
                have gyw := (hbw.block _ (Array.getElem?_eq_some_iff.1 gyf).1).trans gyf
                have hyw := hyf.below hbw
                have hyw2 := hyg2.below hbw
                have hBw := hBf.trans (hbw.mono hBf.size)
                clear hyf hyg2 hbw hBf gyf
                go_upto_region 25 with fail
                generalize wf.alloc (.cells #[.int .i64 z.n, .slice A4 y.c.length kA4, .slice B4 y.ids.length kB4, .slice C4 y.g.length kC4, .slice D4 y.r.length kD4, .bool y.bad] 26) = W9 at *
                obtain ⟨bw, hbw⟩ : ∃ b, wf.heap.size = b := ⟨_, rfl⟩
                rw [hbw] at gw ⊢
                clear hbw
                have hsm := same_good W9 A4 B4 C4 D4 A2 B2 C2 D2 kA4 kB4 kC4 kD4 kA2 kB2 kC2 kD2 y y hyw hyw2 hyk hyk hyg hyg
                unfold zval at hsm
                rw [sameG_self, hyn] at hsm
                obtain ⟨y0, y1, y2, y3, y4, y5⟩ := cells6 gyw
                obtain ⟨x0, x1, x2, x3, x4, x5⟩ := cells6 gw
                go_wp2_with fail
                refine hsm.mono ?_
                rintro e wh ⟨rfl, hb⟩
                have hBh := hBw.trans (hb.mono hBw.size)
                clear y0 y1 y2 y3 y4 y5 x0 x1 x2 x3 x4 x5 hsm hyw hyw2
                go_wp2_with fail
                refine (started_any _).mono ?_
                rintro e ws ⟨rfl, hbs⟩
                go_wp2_with fail
                go_ret
                exact ⟨rfl, hBh.trans (hbs.mono hBh.size)⟩

    · obtain ⟨A2, B2, C2, D2, kA2, kB2, kC2, kD2, rfl, hy⟩ := hy
      unfold zval
      generalize (liftD z next).2 = n2 at *
      generalize (liftD z next).1 = yz at *
      have hby := below_alloc w3 (.cells #[.int .i64 yz.n, .slice A2 yz.c.length kA2, .slice B2 yz.ids.length kB2, .slice C2 yz.g.length kC2, .slice D2 yz.r.length kD2, .bool yz.bad] 26)
      have gr4 := (hby.block _ (Array.getElem?_eq_some_iff.1 gr3).1).trans gr3
      have hb6 := hb5.trans (hby.mono hb5.size)
      obtain ⟨y0, y1, y2, y3, y4⟩ := cells5 gr4
      by_cases hn0 : next < 0
      · clear hcs y0 y1 y2 y3 y4
        go_wp2_with fail
        go_ret
        exact ⟨rfl, hb6⟩
      · have hn0' : decide (next < 0) = false := decide_eq_false hn0
        by_cases hn1 : 536870912 < next
        · clear hcs y0 y1 y2 y3 y4
          go_wp2_with fail
          go_ret
          exact ⟨rfl, hb6⟩
        · have hn1' : decide (536870912 < next) = false := decide_eq_false hn1
          have hne : z.ids.length ≠ 0 := fun e => hcs ⟨by omega, by omega, Or.inl e⟩
          obtain ⟨i, hi'⟩ : ∃ i, z.ids[z.ids.length - 1]? = some i := ⟨z.ids[z.ids.length - 1]'(by omega), List.getElem?_eq_getElem _⟩
          have hil : next ≤ i := by
            rcases Int.lt_or_le i next with h | h
            · exact absurd ⟨by omega, by omega, Or.inr (by rw [List.getD_eq_getElem?_getD, hi', Option.getD_some]; exact h)⟩ hcs
            · exact h
          have hl0 : (0 : Int) < (z.ids.length : Int) := by omega
          have hl0' : 0 < z.ids.length := by omega
          have hli := hk.li
          unfold MAXF at hli
          obtain ⟨b, o, rfl, hbb, hcell⟩ := hr3.ids.row.at hby (z.ids.length - 1) i hi'
          have hcell' : (w3.alloc (.cells #[.int .i64 yz.n, .slice A2 yz.c.length kA2, .slice B2 yz.ids.length kB2, .slice C2 yz.g.length kC2, .slice D2 yz.r.length kD2, .bool yz.bad] 26)).cell? ⟨b, o + (z.ids.length - 1), none⟩ = some (.int .i64 i) := hcell
          have kn : ((z.ids.length : Int) - 1).toNat = z.ids.length - 1 := by omega
          have kp : (0 : Int) ≤ (z.ids.length : Int) - 1 := by omega
          have kp' : 1 ≤ z.ids.length := by omega
          have kl : (z.ids.length : Int) - 1 < (z.ids.length : Int) := by omega
          clear hcs hi' hne hn0 hn1 hcell
          go_wp2_with fail
          go_ret
          exact ⟨rfl, hb6⟩
  · have HL := Lib.hid (show liftD z next = (lostZ (sizeD z), next) by unfold liftD liftOk; rw [hg]; rfl)
    have hb3 := hb2.trans (hb.mono hb2.size)
    have g1 := (hb.block _ (Array.getElem?_eq_some_iff.1 g0).1).trans g0
    have hbr := below_alloc w2 (.cells #[.int .i64 0, .slice none 0 0, .slice none 0 0, .slice none 0 0, .slice none 0 0] 61)
    have g2 := (hbr.block _ (Array.getElem?_eq_some_iff.1 g1).1).trans g1
    have hb4 := hb3.trans (hbr.mono hb3.size)
    unfold noReal
    go_upto_region 2 with fail
    clear hb hre g0 g1 hb2 hb3 hbr hlw hg
    generalize w2.alloc (.cells #[.int .i64 0, .slice none 0 0, .slice none 0 0, .slice none 0 0, .slice none 0 0] 61) = W at *
    have hlf := Lift_any W _ z next ⟨A, B, C, D, kA, kB, kC, kD, rfl, hc.below hb4⟩ hk hi
    unfold zval at hlf
    rw [HL.out] at hlf
    obtain ⟨x0, x1, x2, x3, x4, x5⟩ := cells6 g2
    go_wp2_with fail
    refine hlf.mono ?_
    rintro e w3 ⟨v3, rfl, hv3, hb⟩
    obtain ⟨A2, B2, C2, D2, kA2, kB2, kC2, kD2, rfl, hy⟩ := hv3.is
    have hb5 := hb4.trans (hb.mono hb4.size)
    unfold zval lostZ
    dsimp only [List.length_nil]
    clear x0 x1 x2 x3 x4 x5 hlf hb g2 hb4 hv3
    have gy := heap_alloc_new w3 (.cells #[.int .i64 (sizeD z), .slice A2 0 kA2, .slice B2 0 kB2, .slice C2 0 kC2, .slice D2 0 kD2, .bool true] 26)
    have hby := below_alloc w3 (.cells #[.int .i64 (sizeD z), .slice A2 0 kA2, .slice B2 0 kB2, .slice C2 0 kC2, .slice D2 0 kD2, .bool true] 26)
    obtain ⟨y0, y1, y2, y3, y4, y5⟩ := cells6 gy
    go_wp2_with fail
    refine (started_any _).mono ?_
    rintro e ws ⟨rfl, hbs⟩
    go_wp2_with fail
    go_ret
    exact ⟨rfl, (hb5.trans (hby.mono hb5.size)).trans (hbs.mono (hb5.trans (hby.mono hb5.size)).size)⟩
end Go.Proofs.YtpfbgenefjhcjaaGreatDoor
