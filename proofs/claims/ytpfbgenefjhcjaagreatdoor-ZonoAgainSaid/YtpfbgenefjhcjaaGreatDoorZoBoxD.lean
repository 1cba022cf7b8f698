/- Box as data; what zono.Box has laid, under way. -/
import Derived.Test.YtpfbgenefjhcjaaGreatDoorPZoLif
namespace Go.Proofs.YtpfbgenefjhcjaaGreatDoor
set_option linter.unusedVariables false
set_option linter.unusedSimpArgs false
open Go Go.RowKit
set_option maxRecDepth 100000
/-- The first k numbers of the box's R; none: one is too great. -/
def boxT (z : ZD) : Nat → Option (List Nat)
  | 0 => some []
  | k + 1 => match boxT z k with
    | none => none
    | some r => if (roundS 1 (some (reachZ z k))).2 then some (r ++ [(roundS 1 (some (reachZ z k))).1]) else none
def boxZ (z : ZD) (r : List Nat) : ZD := ⟨z.n, z.c.map plainU, [], [], r, false⟩
def boxD (z : ZD) : ZD :=
  if goodD z then match boxT z z.n.toNat with
    | none => lostZ z.n
    | some r => boxZ z r
  else lostZ (sizeD z)
section
variable {z : ZD} {k : Nat} {r : List Nat}
theorem boxT_more {u : Nat} (h : boxT z k = some r) (hu : roundS 1 (some (reachZ z k)) = (u, true)) : boxT z (k + 1) = some (r ++ [u]) := by
  show (match boxT z k with | none => none | some r => if (roundS 1 (some (reachZ z k))).2 then some (r ++ [(roundS 1 (some (reachZ z k))).1]) else none) = _
  rw [h, hu]
  rfl
theorem boxT_over (h : boxT z k = some r) (hu : (roundS 1 (some (reachZ z k))).2 = false) : boxT z (k + 1) = none := by
  show (match boxT z k with | none => none | some r => if (roundS 1 (some (reachZ z k))).2 then some (r ++ [(roundS 1 (some (reachZ z k))).1]) else none) = _
  rw [h, hu]
  rfl
theorem boxT_none (h : boxT z k = none) : ∀ j, k ≤ j → boxT z j = none := by
  intro j
  induction j with
  | zero => intro hk; obtain rfl : k = 0 := by omega
            exact h
  | succ j ih =>
    intro hk
    by_cases e : k = j + 1
    · subst e; exact h
    · show (match boxT z j with | none => none | some r => if (roundS 1 (some (reachZ z j))).2 then some (r ++ [(roundS 1 (some (reachZ z j))).1]) else none) = _
      rw [ih (by omega)]
theorem boxT_len : ∀ {k : Nat} {r : List Nat}, boxT z k = some r → r.length = k := by
  intro k
  induction k with
  | zero => intro r h; cases h; rfl
  | succ k ih =>
    intro r h
    cases hb : boxT z k with
    | none => rw [boxT_none hb _ (Nat.le_succ _)] at h; cases h
    | some r' =>
      cases ho : (roundS 1 (some (reachZ z k))).2 with
      | false => rw [boxT_over hb ho] at h; cases h
      | true =>
        rw [boxT_more (u := (roundS 1 (some (reachZ z k))).1) hb (by rw [← ho])] at h
        cases h
        rw [List.length_append, ih hb]
        rfl
theorem box_over (hz : Good z) (h : boxT z k = some r) (hk : k < z.n.toNat) (hu : (roundS 1 (some (reachZ z k))).2 = false) : boxD z = lostZ (sizeD z) := by
  unfold boxD sizeD
  rw [(goodD_iff z).2 hz, boxT_none (boxT_over h hu) _ (by omega), Bool.true_or]
  rfl
theorem box_end (hz : Good z) (h : boxT z z.n.toNat = some r) : boxD z = boxZ z r := by
  unfold boxD
  rw [if_pos ((goodD_iff z).2 hz), h]
theorem box_no (hg : goodD z = false) : boxD z = lostZ (sizeD z) := by
  unfold boxD
  rw [if_neg (by rw [hg]; decide)]
end
/-- What Box has laid, under way. -/
structure BSt (b0 gb : Nat) (bx : Array Value) (z : ZD) (vc vr : Value) (W : World) (r : List Nat) : Prop where
  box : W.heap[b0]? = some (.cells bx 26 (0, 0))
  res : W.heap[b0 + 1]? = some (.cells #[.int .i64 0, .slice none 0 0, .slice none 0 0, .slice none 0 0, .slice none 0 0, .bool false] 26 (0, 0))
  out : ZB W gb (.int .i64 z.n) vc (.slice none 0 0) (.slice none 0 0) vr (.bool false)
  c : FO (b0 + 1 + 1) W vc (z.c.map plainU)
  r : FO (b0 + 1 + 1) W vr r
  apart : ∀ g, vc.ownBlock = some g → vr.ownBlock ≠ some g
  lo : b0 + 1 + 1 ≤ gb
section
variable {b0 gb : Nat} {bx : Array Value} {z : ZD} {vc vr vr' : Value} {W W1 W2 : World} {r r' : List Nat}
theorem BSt.below (h : BSt b0 gb bx z vc vr W r) (hb : Below W.heap.size W W1) : BSt b0 gb bx z vc vr W1 r :=
  ⟨(hb.block _ (Array.getElem?_eq_some_iff.1 h.box).1).trans h.box, (hb.block _ (Array.getElem?_eq_some_iff.1 h.res).1).trans h.res, h.out.below hb, h.c.below hb, h.r.below hb, h.apart, h.lo⟩
theorem BSt.size (h : BSt b0 gb bx z vc vr W r) : b0 + 1 + 1 ≤ W.heap.size := Nat.le_trans h.lo (Nat.le_of_lt (Array.getElem?_eq_some_iff.1 h.out).1)
end
end Go.Proofs.YtpfbgenefjhcjaaGreatDoor
