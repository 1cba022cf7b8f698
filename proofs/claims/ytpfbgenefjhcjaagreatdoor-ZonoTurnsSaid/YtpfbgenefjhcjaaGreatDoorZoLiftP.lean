/- Boxes made columns: the plain law: no support and no bound turns. -/
import Derived.Test.YtpfbgenefjhcjaaGreatDoorZoAxis
import Derived.Test.YtpfbgenefjhcjaaGreatDoorPZoLif
namespace Go.Proofs.YtpfbgenefjhcjaaGreatDoor
set_option linter.unusedVariables false
set_option linter.unusedSimpArgs false
open Go Go.RowKit
set_option maxRecDepth 100000
theorem plainU_fz (u : Nat) : fz (plainU u) = fz u := by
 unfold plainU
 split
 ·next h =>
  rw [fz_zero]
  have := fz_natAbs u
  rw [h, Nat.zero_mul] at this
  omega
 ·rfl
theorem plainU_num {u : Nat} (h : fexp u ≠ 2047) : fexp (plainU u) ≠ 2047 := by
 unfold plainU
 split
 ·decide
 ·exact h
theorem plainU_lt {u : Nat} (h : u < B64) : plainU u < B64 := by
 unfold plainU
 split
 ·decide
 ·exact h
theorem plainU_idem (u : Nat) : plainU (plainU u) = plainU u := by
 unfold plainU
 by_cases h : sig u = 0
 ·rw [if_pos h]; rfl
 ·rw [if_neg h, if_neg h]
theorem getD_map_plain (us : List Nat) (i : Nat) : (us.map plainU).getD i 0 = plainU (us.getD i 0) := by
 rw [List.getD_eq_getElem?_getD, List.getD_eq_getElem?_getD, List.getElem?_map]
 cases us[i]? <;> rfl
theorem prodZ_eq {u v v' : Nat} (h : fz v = fz v') : prodZ u v 0 = prodZ u v' 0 := by
 have h1 := prodZ_fz u v
 have h2 := prodZ_fz u v'
 rw [h, ← h2] at h1
 exact Int.eq_of_mul_eq_mul_right (Int.ne_of_gt UNp) h1
theorem dotZ_plain (d l : List Nat) (n : Nat) : dotZ d (l.map plainU) n = dotZ d l n := by
 unfold dotZ
 refine sumTo_congr _ _ _ fun i _ => ?_
 rw [getD_map_plain]
 exact prodZ_eq (plainU_fz _)
/-- The sum of what each column does. -/
def sumG (F : List Nat → Int) (gs : List (List Nat)) : Int := sumTo (fun k => F (gs.getD k [])) gs.length
theorem sumG_snoc (F : List Nat → Int) (gs : List (List Nat)) (x : List Nat) : sumG F (gs ++ [x]) = sumG F gs + F x := by
 unfold sumG
 rw [List.length_append, List.length_singleton]
 show sumTo _ gs.length + _ = _
 congr 1
 ·refine sumTo_congr _ _ _ fun k hk => ?_
  rw [List.getD_eq_getElem?_getD, List.getD_eq_getElem?_getD, List.getElem?_append_left hk]
 ·show F ((gs ++ [x]).getD gs.length []) = F x
  rw [List.getD_eq_getElem?_getD, List.getElem?_append_right (Nat.le_refl _), Nat.sub_self]
  rfl
theorem sumG_map (F : List Nat → Int) (gs : List (List Nat)) (hF : ∀ g, F (g.map plainU) = F g) : sumG F (gs.map fun g => g.map plainU) = sumG F gs := by
 unfold sumG
 rw [List.length_map]
 refine sumTo_congr _ _ _ fun k hk => ?_
 rw [List.getD_eq_getElem?_getD, List.getD_eq_getElem?_getD, List.getElem?_map, List.getElem?_eq_getElem hk]
 exact hF _
theorem liftT_sum {z : ZD} {next : Int} (F : List Nat → Int) (hF : ∀ g, F (g.map plainU) = F g) : ∀ {k : Nat} {ids : List Int} {g : List (List Nat)} {a : Int}, liftT z next k = some (ids, g, a) →
  sumG F g = sumG F z.g + sumTo (fun j => if sig (z.r.getD j 0) = 0 then 0 else F (unitL z.n.toNat j (z.r.getD j 0))) k := by
 intro k
 induction k with
 | zero =>
  intro ids g a h
  rw [liftT_zero] at h
  injection h with h
  simp only [Prod.mk.injEq] at h
  obtain ⟨rfl, rfl, rfl⟩ := h
  rw [sumG_map F z.g hF]
  show _ = _ + 0
  rw [Int.add_zero]
 | succ k ih =>
  intro ids g a h
  unfold liftT at h
  show _ = _ + (sumTo _ k + (if sig (z.r.getD k 0) = 0 then 0 else F (unitL z.n.toNat k (z.r.getD k 0))))
  split at h
  ·cases h
  ·next ids' g' a' h' =>
   have := ih h'
   split at h
   ·next hs =>
    injection h with h
    simp only [Prod.mk.injEq] at h
    obtain ⟨rfl, rfl, rfl⟩ := h
    rw [if_pos hs, Int.add_zero]
    exact this
   ·next hs =>
    split at h
    ·cases h
    ·injection h with h
     simp only [Prod.mk.injEq] at h
     obtain ⟨rfl, rfl, rfl⟩ := h
     rw [if_neg hs, sumG_snoc, this, Int.add_assoc]
theorem fz_pos {u : Nat} (h : neg0 u = false) : 0 ≤ fz u := by
 unfold neg0 at h
 have := of_decide_eq_false h
 omega
theorem zabs_pos {x : Int} (h : 0 ≤ x) : zabs x = x := by unfold zabs; omega
theorem Good.posAt {z : ZD} (h : Good z) (j : Nat) : 0 ≤ fz (z.r.getD j 0) := by
 rw [List.getD_eq_getElem?_getD]
 cases hj : z.r[j]? with
 | none => show 0 ≤ fz 0; rw [fz_zero]; omega
 | some u => exact fz_pos (h.pos u (List.mem_of_getElem? hj))
theorem sig_fz {u : Nat} (h : sig u = 0) : fz u = 0 := by
 have := fz_natAbs u
 rw [h, Nat.zero_mul] at this
 omega
theorem prodZ_pos {u v : Nat} (hu : 0 ≤ fz u) (hv : 0 ≤ fz v) : 0 ≤ prodZ u v 0 := by
 have h := prodZ_fz u v
 have h1 := Int.mul_nonneg hu hv
 rw [← h] at h1
 exact Int.nonneg_of_mul_nonneg_left h1 UNp
theorem zabs_prod {u v : Nat} (hu : u < B64) (hv : 0 ≤ fz v) : zabs (prodZ u v 0) = prodZ (absF u) v 0 := by
 have h1 := prodZ_fz u v
 have h2 := prodZ_fz (absF u) v
 rw [absF_fz u hu] at h2
 have e : prodZ (absF u) v 0 * (UN : Nat) = zabs (prodZ u v 0) * (UN : Nat) := by
  rw [h2]
  have hU := UNp
  unfold zabs
  have h3 : ((fz u).natAbs : Int) * fz v = ((fz u * fz v).natAbs : Int) := by
   rw [Int.natAbs_mul, Int.natCast_mul]
   congr 1
   omega
  rw [h3, ← h1, Int.natAbs_mul, Int.natCast_mul]
  congr 1
 exact (Int.eq_of_mul_eq_mul_right (Int.ne_of_gt UNp) e).symm
section
variable {z : ZD} {next a : Int} {ids : List Int} {g : List (List Nat)}
theorem lift_reach (hz : Good z) (h : LiftAt z next z.n.toNat ids g a) (i : Nat) (hi : i < z.n.toNat) : reachZ (liftZ z ids g) i = reachZ z i := by
 have h1 := liftT_sum (fun col => zabs (fz (col.getD i 0))) (fun g => by rw [getD_map_plain, plainU_fz]) h
 have h2 : sumTo (fun j => if sig (z.r.getD j 0) = 0 then 0 else zabs (fz ((unitL z.n.toNat j (z.r.getD j 0)).getD i 0))) z.n.toNat = fz (z.r.getD i 0) := by
  rw [sumTo_one _ i _ hi (fun j _ hne => by
   by_cases hs : sig (z.r.getD j 0) = 0
   ·rw [if_pos hs]
   ·rw [if_neg hs, unitL_off _ _ _ _ (fun e => hne e.symm), fz_zero]; rfl)]
  by_cases hs : sig (z.r.getD i 0) = 0
  ·rw [if_pos hs, sig_fz hs]
  ·rw [if_neg hs, unitL_at _ _ _ hi, zabs_pos (hz.posAt i)]
 rw [h2] at h1
 have h3 : (List.replicate z.n.toNat 0).getD i 0 = 0 := by
  rw [List.getD_eq_getElem?_getD, List.getElem?_eq_getElem (by rw [List.length_replicate]; exact hi), List.getElem_replicate]; rfl
 show fz ((List.replicate z.n.toNat 0).getD i 0) + sumG (fun col => zabs (fz (col.getD i 0))) g = fz (z.r.getD i 0) + sumG (fun col => zabs (fz (col.getD i 0))) z.g
 rw [h3, fz_zero, h1]
 omega
end
end Go.Proofs.YtpfbgenefjhcjaaGreatDoor
