/- A region that draws: its steps, told shortly. -/
import Derived.Test.YtpfbgenefjhcjaaGreatDoorPZoLow
namespace Go.Proofs.YtpfbgenefjhcjaaGreatDoor
open Go
variable {P : Program} {md : Region.Mode} {ops : Array Oper} {Q : Exit → Act → World → Prop} {S : World → Prop} {lates : List Nat}
theorem lateT (i : Nat) (d : Option Tmp) {oi : Oper} {v : Value} {n : Nat} {listed : Array Bool} {a : Act} {w : World} (hi : ops[i]? = some oi) (hd : oi.dst = d) (hS : S w)
  (h : wpLate P md ops Q S lates n (listed.setIfInBounds i true) (a.put d v) w)
  (hs : Region.noSelect ops = true := by kernel_rfl) (hf : Region.free md ops listed i = true := by kernel_rfl) (hr : (Region.ready md ops listed).contains i = true := by kernel_rfl) (hb : waitsB md ops lates i = true := by kernel_rfl)
  (hQ : ∀ c a w, Q (.panic c) (a.put d v) w → Q (.panic c) a w := by exact fun _ _ _ h => h) (hw : Region.wanted oi (yielded ops a.tmps) = true := by kernel_rfl)
  (hy : ∀ w, S w → (execOp a.eval oi).run P w = .ok (.value v) w := by (intro w hSw; (try dsimp only at hSw); go_simp; try rfl)) : wpLate P md ops Q S lates (n + 1) listed a w :=
 late_take d hi hd hs hf hr hb hQ hw hS hy h
theorem lateX (i : Nat) (d : Option Tmp) {oi : Oper} {n : Nat} {listed : Array Bool} {a : Act} {w : World} (hi : ops[i]? = some oi) (hd : oi.dst = d) (hS : S w)
  (h : wpLate P md ops Q S lates n (listed.setIfInBounds i true) (a.put d undef) w)
  (hs : Region.noSelect ops = true := by kernel_rfl) (hf : Region.free md ops listed i = true := by kernel_rfl) (hr : (Region.ready md ops listed).contains i = true := by kernel_rfl) (hb : waitsB md ops lates i = true := by kernel_rfl)
  (hQ : ∀ c a w, Q (.panic c) (a.put d undef) w → Q (.panic c) a w := by exact fun _ _ _ h => h) (hw : Region.wanted oi (yielded ops a.tmps) = false := by kernel_rfl) : wpLate P md ops Q S lates (n + 1) listed a w :=
 late_skip d hi hd hs hf hr hb hQ hw hS h
theorem lA {α : Type} (l : List α) (i : Nat) (a : α) : l.toArray.setIfInBounds i a = (l.set i a).toArray := List.setIfInBounds_toArray ..
theorem lZ {α : Type} (a x : α) (l : List α) : (x :: l).set 0 a = a :: l := rfl
theorem lC {α : Type} (a x : α) (l : List α) (i : Nat) : (x :: l).set (i + 1) a = x :: l.set i a := rfl
end Go.Proofs.YtpfbgenefjhcjaaGreatDoor
