/- What Lift and Box tell: bits, and lists that have room. -/
import Derived.Test.YtpfbgenefjhcjaaGreatDoorZoLiftG
import Derived.Test.YtpfbgenefjhcjaaGreatDoorZoBoxD
namespace Go.Proofs.YtpfbgenefjhcjaaGreatDoor
set_option linter.unusedVariables false
set_option linter.unusedSimpArgs false
open Go Go.RowKit
set_option maxRecDepth 100000
theorem Turned.lt {a b : Nat} (h : Turned a b) : a < B64 ∧ b < B64 := by
 unfold B64
 rcases h with ⟨rfl, rfl⟩ | ⟨m, h0, h1, h | h⟩ <;> omega
theorem round1_lt (x : Int) : (roundS 1 (some x)).1 < B64 := (round_turned (some x)).2.lt.1
theorem lost_ok (n : Int) (h1 : -9223372036854775808 ≤ n) (h2 : n ≤ 9223372036854775807) : ZOk (lostZ n) := by
 refine ⟨fun u hu => ?_, fun u hu => ?_, fun g hg => ?_, ?_, ?_, ?_, ?_, h1, h2, fun i hi => ?_⟩
 ·simp [lostZ] at hu
 ·simp [lostZ] at hu
 ·simp [lostZ] at hg
 ·exact Nat.zero_le _
 ·exact Nat.zero_le _
 ·exact Nat.zero_le _
 ·exact Nat.zero_le _
 ·simp [lostZ] at hi
theorem size_ok {z : ZD} (hk : ZOk z) : ZOk (lostZ (sizeD z)) := by
 unfold sizeD
 split
 ·exact lost_ok _ hk.n1 hk.n2
 ·exact lost_ok _ (by omega) (by omega)
theorem last_ok {z : ZD} {next : Int} (hz : Good z) (h2 : z.ids.length = 0 ∨ z.ids.getD (z.ids.length - 1) 0 < next) : lastOk z next := fun j i hi => by
 have hj := (List.getElem?_eq_some_iff.1 hi).1
 have hup : ∀ m, j + m < z.ids.length → i ≤ z.ids.getD (j + m) 0 := by
  intro m
  induction m with
  | zero => intro _; rw [Nat.add_zero, List.getD_eq_getElem?_getD, hi]; exact Int.le_refl _
  | succ m ih =>
   intro hm
   have e1 : z.ids[j + m]? = some (z.ids.getD (j + m) 0) := by rw [List.getD_eq_getElem?_getD, List.getElem?_eq_getElem (by omega)]; rfl
   have e2 : z.ids[j + (m + 1)]? = some (z.ids.getD (j + (m + 1)) 0) := by rw [List.getD_eq_getElem?_getD, List.getElem?_eq_getElem (by omega)]; rfl
   have := (hz.idk (j + (m + 1)) _ e2).2.2 (j + m) (by omega) _ e1
   have := ih (by omega)
   omega
 rcases h2 with h | h
 ·omega
 ·have := hup (z.ids.length - 1 - j) (by omega)
  rw [show j + (z.ids.length - 1 - j) = z.ids.length - 1 by omega] at this
  omega
theorem liftD_ok {z : ZD} (next : Int) (hk : ZOk z) : ZOk (liftD z next).1 := by
 unfold liftD
 cases hok : liftOk z next with
 | false => rw [if_neg (by decide)]; exact size_ok hk
 | true =>
  rw [if_pos rfl]
  unfold liftOk at hok
  simp only [Bool.and_eq_true, decide_eq_true_eq, Bool.or_eq_true, beq_iff_eq] at hok
  obtain ⟨⟨hg, h0⟩, hl⟩ := hok
  have hz := (goodD_iff z).1 hg
  have hlr := hz.lenR
  cases hT : liftT z next z.n.toNat with
  | none => exact lost_ok _ hk.n1 hk.n2
  | some t =>
   obtain ⟨ids, g, a⟩ := t
   rw [show z.n.toNat = z.r.length by omega] at hT
   exact lift_ok hz hk (linv_all hz hk (last_ok hz hl) h0 (Nat.le_refl _) hT)
theorem boxT_lt {z : ZD} : ∀ {k : Nat} {r : List Nat}, boxT z k = some r → Small r := by
 intro k
 induction k with
 | zero => intro r h; cases h; intro u hu; simp at hu
 | succ k ih =>
  intro r h
  cases hb : boxT z k with
  | none => rw [boxT_none hb _ (Nat.le_succ _)] at h; cases h
  | some r' =>
   cases ho : (roundS 1 (some (reachZ z k))).2 with
   | false => rw [boxT_over hb ho] at h; cases h
   | true =>
    rw [boxT_more (u := (roundS 1 (some (reachZ z k))).1) hb (by rw [← ho])] at h
    cases h
    intro u hu
    rcases List.mem_append.1 hu with hu | hu
    ·exact ih hb u hu
    ·rw [List.mem_singleton.1 hu]
     exact round1_lt _
theorem boxD_ok {z : ZD} (hk : ZOk z) : ZOk (boxD z) := by
 unfold boxD
 cases hg : goodD z with
 | false => rw [if_neg (by decide)]; exact size_ok hk
 | true =>
  rw [if_pos rfl]
  have hz := (goodD_iff z).1 hg
  have hN := hz.n2
  cases hT : boxT z z.n.toNat with
  | none => exact lost_ok _ hk.n1 hk.n2
  | some r =>
   have hl := boxT_len hT
   refine ⟨small_plain hk.c, boxT_lt hT, fun g hg => ?_, ?_, ?_, Nat.zero_le _, Nat.zero_le _, hk.n1, hk.n2, fun i hi => ?_⟩
   ·simp [boxZ] at hg
   ·show (z.c.map plainU).length ≤ MAXF
    rw [List.length_map]
    exact hk.lc
   ·show r.length ≤ MAXF
    unfold MAXF
    omega
   ·simp [boxZ] at hi
end Go.Proofs.YtpfbgenefjhcjaaGreatDoor
