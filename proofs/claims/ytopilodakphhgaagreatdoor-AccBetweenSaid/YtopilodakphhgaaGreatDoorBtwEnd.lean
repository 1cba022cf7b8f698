/- AccBetween: what is told, in three cases; small laws. -/
import Derived.Test.YtopilodakphhgaaGreatDoorBtwRel
import Derived.Test.YtopilodakphhgaaGreatDoorFloatOrder
namespace Go.Proofs.YtopilodakphhgaaGreatDoor
set_option linter.unusedVariables false
set_option linter.unusedSimpArgs false
open Go Go.RowKit
set_option maxRecDepth 100000
def BetBoth (z : Int) (dn up nr : Nat × Bool) : Prop := ∃ a b c, dn = (a, true) ∧ up = (b, true) ∧ nr = (c, true) ∧ fz a ≤ z ∧ z ≤ fz b ∧ Num1 a ∧ Num1 b ∧
  ((a = b ∧ c = a ∧ fz a = z) ∨ (fz a < z ∧ z < fz b ∧ a ≠ b ∧ c = nearOf z a b ∧ roundS 1 (some (fz a + STEP)) = (b, true)))
theorem bet_three (z : Int) : BetOver z (roundS 2 (some z)) (roundS 1 (some z)) (roundS 0 (some z)) ∨ BetUnder z (roundS 2 (some z)) (roundS 1 (some z)) (roundS 0 (some z)) ∨ BetBoth z (roundS 2 (some z)) (roundS 1 (some z)) (roundS 0 (some z)) := by
  rcases bet_any z with h | h | h | h
  · exact Or.inl h
  · exact Or.inr (Or.inl h)
  · obtain ⟨u, h1, h2, h3, h4, h5⟩ := h
    exact Or.inr (Or.inr ⟨u, u, u, h1, h2, h3, by omega, by omega, h5, h5, Or.inl ⟨rfl, rfl, h4⟩⟩)
  · obtain ⟨a, b, h1, h2, h3, h4, h5, h6, h7, h8, h9⟩ := h
    exact Or.inr (Or.inr ⟨a, b, _, h1, h2, h3, by omega, by omega, h7, h8, Or.inr ⟨h4, h5, h6, rfl, h9⟩⟩)
theorem sign_le {x z : Int} (h : x ≤ z) : ¬ 0 < (x + -z).sign := by
  rw [Int.sign_pos_iff]
  omega
theorem sign_ge {x z : Int} (h : z ≤ x) : ¬ (x + -z).sign < 0 := by
  rw [Int.sign_neg_iff]
  omega
theorem num1_max : Num1 9218868437227405311 := ⟨by decide, by decide, by decide⟩
theorem num1_min : Num1 18442240474082181119 := ⟨by decide, by decide, by decide⟩
theorem Cmp_sg (w : World) (n1 n2 : Bool) (v1 v2 : Value) (E1 E2 z1 z2 s : Int) (h1 : NumIs w n1 v1 E1 z1) (h2 : NumIs w n2 v2 E2 z2) (hcap : (z1 + -z2).natAbs < W32 ^ 400) (hs : (z1 + -z2).sign = s) :
    Calls Tryz.prog 14 #[.agg #[.bool n1, v1, .int .i64 E1], .agg #[.bool n2, v2, .int .i64 E2]] w fun e w' => e = .returned (.int .i64 s) ∧ Below w.heap.size w w' := by
  rw [← hs]
  exact Cmp_num w n1 n2 v1 v2 E1 E2 z1 z2 h1 h2 hcap
theorem cap4 (z x y : Int) (hz : z.natAbs < LIM) (hx : x.natAbs < LIM) (hy : y.natAbs < LIM) : ((z + -x) + -(y + -z)).natAbs < W32 ^ 400 := by
  obtain ⟨k, hk, hL⟩ := LIM_pow
  have h4 : ∀ m : Nat, k + 2 ≤ 32 * m → 4 * LIM ≤ W32 ^ m := fun m hm => by
    rw [hL, W32_two, show 4 * 2 ^ k = 2 ^ (k + 2) by rw [Nat.pow_add]; omega]
    exact Nat.pow_le_pow_right (by decide) (by omega)
  have h5 := h4 400 (by omega)
  generalize W32 ^ 400 = T at h5 ⊢
  omega
theorem cases_three (z : Int) (a b : Nat) : z - fz a < fz b - z ∨ fz b - z < z - fz a ∨ (fz b - z ≤ z - fz a ∧ z - fz a ≤ fz b - z) := by omega
theorem near_three (z : Int) (a b : Nat) :
    (z - fz a < fz b - z → (z + -fz a + -(fz b + -z)).sign = -1 ∧ nearOf z a b = a) ∧ (fz b - z < z - fz a → (z + -fz a + -(fz b + -z)).sign = 1 ∧ nearOf z a b = b) ∧
    (fz b - z ≤ z - fz a ∧ z - fz a ≤ fz b - z → (z + -fz a + -(fz b + -z)).sign = 0 ∧ nearOf z a b = if a % 2 = 1 then b else a) := by
  unfold nearOf
  refine ⟨fun h => ⟨Int.sign_eq_neg_one_of_neg (by omega), if_pos h⟩, fun h => ⟨Int.sign_eq_one_of_pos (by omega), by rw [if_neg (by omega), if_pos h]⟩, fun h => ⟨?_, by rw [if_neg (by omega), if_neg (by omega)]⟩⟩
  rw [show z + -fz a + -(fz b + -z) = 0 by omega]
  rfl
/-- A value that is a number's. -/
def NumV (w : World) (v : Value) (z : Int) : Prop := ∃ (ng : Bool) (A : Option Addr) (n cap : Nat) (E : Int), v = .agg #[.bool ng, .slice A n cap, .int .i64 E] ∧ NumIs w ng (.slice A n cap) E z
theorem NumV.below {w w1 : World} {v : Value} {z : Int} (h : NumV w v z) (hb : Below w.heap.size w w1) : NumV w1 v z := by
  obtain ⟨ng, A, n, cap, E, h1, h2⟩ := h
  exact ⟨ng, A, n, cap, E, h1, h2.below hb⟩
/-- A variable of a number's type that is new since W. -/
def NewAt (W w' : World) (v : Value) : Prop := ∃ p, v = .pointer (some ⟨p, 0, none⟩) ∧ W.heap.size ≤ p ∧ p < w'.heap.size ∧ ∃ x0 x1 x2, w'.heap[p]? = some (.cells #[x0, x1, x2] 29 (0, 0))
theorem NewAt.below {W w w1 : World} {v : Value} (h : NewAt W w v) (hb : Below w.heap.size w w1) : NewAt W w1 v := by
  obtain ⟨p, h1, h2, h3, x0, x1, x2, h4⟩ := h
  exact ⟨p, h1, h2, Nat.lt_of_lt_of_le h3 hb.size, x0, x1, x2, (hb.block p h3).trans h4⟩
theorem NewAt.put {W w w1 : World} {v : Value} {g : Nat} {y0 y1 y2 : Value} (h : NewAt W w v) (hq : w1.heap[g]? = some (.cells #[y0, y1, y2] 29 (0, 0))) (hg : w.grownBy w1 (some g)) : NewAt W w1 v := by
  obtain ⟨p, h1, h2, h3, x0, x1, x2, h4⟩ := h
  by_cases e : p = g
  · subst e
    exact ⟨p, h1, h2, Nat.lt_of_lt_of_le h3 hg.size, y0, y1, y2, hq⟩
  · exact ⟨p, h1, h2, Nat.lt_of_lt_of_le h3 hg.size, x0, x1, x2, (hg.block p h3 (by simp [e])).trans h4⟩
theorem NumAt.other {w w1 : World} {p g : Nat} {z : Int} {c : Array Value} {r : Nat × Nat} (h : NumAt w p z) (hne : p ≠ g) (hq : w.heap[g]? = some (.cells c 29 r)) (hg : w.grownBy w1 (some g)) : NumAt w1 p z := by
  have hl := h.lt
  obtain ⟨ng, A, n, cap, E, h1, h2⟩ := h
  exact ⟨ng, A, n, cap, E, (hg.block p hl (by simp [hne])).trans h1, h2.over (by decide) hq hg⟩
theorem NumV.put {w w1 : World} {v : Value} {g : Nat} {z : Int} {c : Array Value} {r : Nat × Nat} (h : NumV w v z) (hq : w.heap[g]? = some (.cells c 29 r)) (hg : w.grownBy w1 (some g)) : NumV w1 v z := by
  obtain ⟨ng, A, n, cap, E, h1, h2⟩ := h
  exact ⟨ng, A, n, cap, E, h1, h2.over (by decide) hq hg⟩
/-- What stands within the region that makes the two differences: behind the operations L. -/
structure R21 (W : World) (vv : Value) (a b : Nat) (z : Int) (L : Nat → Prop) (u150 u151 u152 u153 u154 u155 u156 u157 u17 u18 : Value) (w' : World) : Prop where
  below : Below W.heap.size W w'
  f0 : L 0 → u150 = vv
  f1 : L 1 → u151 = .float .f64 a
  f2 : L 2 → NumV w' u152 (fz a)
  f3 : L 3 → NumV w' u153 (z + -fz a)
  f4 : L 4 → u154 = .float .f64 b
  f5 : L 5 → NumV w' u155 (fz b)
  f6 : L 6 → u156 = vv
  f7 : L 7 → NumV w' u157 (fz b + -z)
  f8 : L 8 → NewAt W w' u17
  f9 : L 9 → NewAt W w' u18
  f10 : L 10 → ∃ p, u17 = .pointer (some ⟨p, 0, none⟩) ∧ NumAt w' p (z + -fz a)
  f11 : L 11 → ∃ p, u18 = .pointer (some ⟨p, 0, none⟩) ∧ NumAt w' p (fz b + -z)
  f12 : L 8 → L 9 → u17 ≠ u18
  f13 : L 10 ∨ L 11 → L 8 ∧ L 9
section
variable {W : World} {vv : Value} {a b : Nat} {z : Int} {L : Nat → Prop} {u150 u151 u152 u153 u154 u155 u156 u157 u17 u18 : Value} {w' w'' : World}
theorem R21.mono (h : R21 W vv a b z L u150 u151 u152 u153 u154 u155 u156 u157 u17 u18 w') (hb : Below w'.heap.size w' w'') : R21 W vv a b z L u150 u151 u152 u153 u154 u155 u156 u157 u17 u18 w'' := by
  have hs := h.below.size
  refine ⟨h.below.trans (hb.mono hs), h.f0, h.f1, fun e => (h.f2 e).below hb, fun e => (h.f3 e).below hb, h.f4, fun e => (h.f5 e).below hb, h.f6, fun e => (h.f7 e).below hb, fun e => (h.f8 e).below hb, fun e => (h.f9 e).below hb, fun e => ?_, fun e => ?_, h.f12, h.f13⟩
  · obtain ⟨p, h1, h2⟩ := h.f10 e
    exact ⟨p, h1, h2.below hb⟩
  · obtain ⟨p, h1, h2⟩ := h.f11 e
    exact ⟨p, h1, h2.below hb⟩
theorem R21.n0 (h : R21 W vv a b z L u150 u151 u152 u153 u154 u155 u156 u157 u17 u18 w') : R21 W vv a b z (fun k => k = 0 ∨ L k) vv u151 u152 u153 u154 u155 u156 u157 u17 u18 w' :=
  ⟨h.below, fun _ => rfl, fun e => h.f1 (e.resolve_left (by decide)), fun e => h.f2 (e.resolve_left (by decide)), fun e => h.f3 (e.resolve_left (by decide)), fun e => h.f4 (e.resolve_left (by decide)), fun e => h.f5 (e.resolve_left (by decide)), fun e => h.f6 (e.resolve_left (by decide)), fun e => h.f7 (e.resolve_left (by decide)), fun e => h.f8 (e.resolve_left (by decide)), fun e => h.f9 (e.resolve_left (by decide)), fun e => h.f10 (e.resolve_left (by decide)), fun e => h.f11 (e.resolve_left (by decide)), fun e e' => h.f12 (e.resolve_left (by decide)) (e'.resolve_left (by decide)), fun e => ⟨Or.inr (h.f13 (by simpa using e)).1, Or.inr (h.f13 (by simpa using e)).2⟩⟩
theorem R21.n1 (h : R21 W vv a b z L u150 u151 u152 u153 u154 u155 u156 u157 u17 u18 w') : R21 W vv a b z (fun k => k = 1 ∨ L k) u150 (.float .f64 a) u152 u153 u154 u155 u156 u157 u17 u18 w' :=
  ⟨h.below, fun e => h.f0 (e.resolve_left (by decide)), fun _ => rfl, fun e => h.f2 (e.resolve_left (by decide)), fun e => h.f3 (e.resolve_left (by decide)), fun e => h.f4 (e.resolve_left (by decide)), fun e => h.f5 (e.resolve_left (by decide)), fun e => h.f6 (e.resolve_left (by decide)), fun e => h.f7 (e.resolve_left (by decide)), fun e => h.f8 (e.resolve_left (by decide)), fun e => h.f9 (e.resolve_left (by decide)), fun e => h.f10 (e.resolve_left (by decide)), fun e => h.f11 (e.resolve_left (by decide)), fun e e' => h.f12 (e.resolve_left (by decide)) (e'.resolve_left (by decide)), fun e => ⟨Or.inr (h.f13 (by simpa using e)).1, Or.inr (h.f13 (by simpa using e)).2⟩⟩
theorem R21.n4 (h : R21 W vv a b z L u150 u151 u152 u153 u154 u155 u156 u157 u17 u18 w') : R21 W vv a b z (fun k => k = 4 ∨ L k) u150 u151 u152 u153 (.float .f64 b) u155 u156 u157 u17 u18 w' :=
  ⟨h.below, fun e => h.f0 (e.resolve_left (by decide)), fun e => h.f1 (e.resolve_left (by decide)), fun e => h.f2 (e.resolve_left (by decide)), fun e => h.f3 (e.resolve_left (by decide)), fun _ => rfl, fun e => h.f5 (e.resolve_left (by decide)), fun e => h.f6 (e.resolve_left (by decide)), fun e => h.f7 (e.resolve_left (by decide)), fun e => h.f8 (e.resolve_left (by decide)), fun e => h.f9 (e.resolve_left (by decide)), fun e => h.f10 (e.resolve_left (by decide)), fun e => h.f11 (e.resolve_left (by decide)), fun e e' => h.f12 (e.resolve_left (by decide)) (e'.resolve_left (by decide)), fun e => ⟨Or.inr (h.f13 (by simpa using e)).1, Or.inr (h.f13 (by simpa using e)).2⟩⟩
theorem R21.n6 (h : R21 W vv a b z L u150 u151 u152 u153 u154 u155 u156 u157 u17 u18 w') : R21 W vv a b z (fun k => k = 6 ∨ L k) u150 u151 u152 u153 u154 u155 vv u157 u17 u18 w' :=
  ⟨h.below, fun e => h.f0 (e.resolve_left (by decide)), fun e => h.f1 (e.resolve_left (by decide)), fun e => h.f2 (e.resolve_left (by decide)), fun e => h.f3 (e.resolve_left (by decide)), fun e => h.f4 (e.resolve_left (by decide)), fun e => h.f5 (e.resolve_left (by decide)), fun _ => rfl, fun e => h.f7 (e.resolve_left (by decide)), fun e => h.f8 (e.resolve_left (by decide)), fun e => h.f9 (e.resolve_left (by decide)), fun e => h.f10 (e.resolve_left (by decide)), fun e => h.f11 (e.resolve_left (by decide)), fun e e' => h.f12 (e.resolve_left (by decide)) (e'.resolve_left (by decide)), fun e => ⟨Or.inr (h.f13 (by simpa using e)).1, Or.inr (h.f13 (by simpa using e)).2⟩⟩
theorem R21.n2 {v : Value} (h : R21 W vv a b z L u150 u151 u152 u153 u154 u155 u156 u157 u17 u18 w') (hv : NumV w' v (fz a)) : R21 W vv a b z (fun k => k = 2 ∨ L k) u150 u151 v u153 u154 u155 u156 u157 u17 u18 w' :=
  ⟨h.below, fun e => h.f0 (e.resolve_left (by decide)), fun e => h.f1 (e.resolve_left (by decide)), fun _ => hv, fun e => h.f3 (e.resolve_left (by decide)), fun e => h.f4 (e.resolve_left (by decide)), fun e => h.f5 (e.resolve_left (by decide)), fun e => h.f6 (e.resolve_left (by decide)), fun e => h.f7 (e.resolve_left (by decide)), fun e => h.f8 (e.resolve_left (by decide)), fun e => h.f9 (e.resolve_left (by decide)), fun e => h.f10 (e.resolve_left (by decide)), fun e => h.f11 (e.resolve_left (by decide)), fun e e' => h.f12 (e.resolve_left (by decide)) (e'.resolve_left (by decide)), fun e => ⟨Or.inr (h.f13 (by simpa using e)).1, Or.inr (h.f13 (by simpa using e)).2⟩⟩
theorem R21.n3 {v : Value} (h : R21 W vv a b z L u150 u151 u152 u153 u154 u155 u156 u157 u17 u18 w') (hv : NumV w' v (z + -fz a)) : R21 W vv a b z (fun k => k = 3 ∨ L k) u150 u151 u152 v u154 u155 u156 u157 u17 u18 w' :=
  ⟨h.below, fun e => h.f0 (e.resolve_left (by decide)), fun e => h.f1 (e.resolve_left (by decide)), fun e => h.f2 (e.resolve_left (by decide)), fun _ => hv, fun e => h.f4 (e.resolve_left (by decide)), fun e => h.f5 (e.resolve_left (by decide)), fun e => h.f6 (e.resolve_left (by decide)), fun e => h.f7 (e.resolve_left (by decide)), fun e => h.f8 (e.resolve_left (by decide)), fun e => h.f9 (e.resolve_left (by decide)), fun e => h.f10 (e.resolve_left (by decide)), fun e => h.f11 (e.resolve_left (by decide)), fun e e' => h.f12 (e.resolve_left (by decide)) (e'.resolve_left (by decide)), fun e => ⟨Or.inr (h.f13 (by simpa using e)).1, Or.inr (h.f13 (by simpa using e)).2⟩⟩
theorem R21.n5 {v : Value} (h : R21 W vv a b z L u150 u151 u152 u153 u154 u155 u156 u157 u17 u18 w') (hv : NumV w' v (fz b)) : R21 W vv a b z (fun k => k = 5 ∨ L k) u150 u151 u152 u153 u154 v u156 u157 u17 u18 w' :=
  ⟨h.below, fun e => h.f0 (e.resolve_left (by decide)), fun e => h.f1 (e.resolve_left (by decide)), fun e => h.f2 (e.resolve_left (by decide)), fun e => h.f3 (e.resolve_left (by decide)), fun e => h.f4 (e.resolve_left (by decide)), fun _ => hv, fun e => h.f6 (e.resolve_left (by decide)), fun e => h.f7 (e.resolve_left (by decide)), fun e => h.f8 (e.resolve_left (by decide)), fun e => h.f9 (e.resolve_left (by decide)), fun e => h.f10 (e.resolve_left (by decide)), fun e => h.f11 (e.resolve_left (by decide)), fun e e' => h.f12 (e.resolve_left (by decide)) (e'.resolve_left (by decide)), fun e => ⟨Or.inr (h.f13 (by simpa using e)).1, Or.inr (h.f13 (by simpa using e)).2⟩⟩
theorem R21.n7 {v : Value} (h : R21 W vv a b z L u150 u151 u152 u153 u154 u155 u156 u157 u17 u18 w') (hv : NumV w' v (fz b + -z)) : R21 W vv a b z (fun k => k = 7 ∨ L k) u150 u151 u152 u153 u154 u155 u156 v u17 u18 w' :=
  ⟨h.below, fun e => h.f0 (e.resolve_left (by decide)), fun e => h.f1 (e.resolve_left (by decide)), fun e => h.f2 (e.resolve_left (by decide)), fun e => h.f3 (e.resolve_left (by decide)), fun e => h.f4 (e.resolve_left (by decide)), fun e => h.f5 (e.resolve_left (by decide)), fun e => h.f6 (e.resolve_left (by decide)), fun _ => hv, fun e => h.f8 (e.resolve_left (by decide)), fun e => h.f9 (e.resolve_left (by decide)), fun e => h.f10 (e.resolve_left (by decide)), fun e => h.f11 (e.resolve_left (by decide)), fun e e' => h.f12 (e.resolve_left (by decide)) (e'.resolve_left (by decide)), fun e => ⟨Or.inr (h.f13 (by simpa using e)).1, Or.inr (h.f13 (by simpa using e)).2⟩⟩
theorem R21.n8 (h0 : R21 W vv a b z L u150 u151 u152 u153 u154 u155 u156 u157 u17 u18 w') (hno : ¬ L 8) : R21 W vv a b z (fun k => k = 8 ∨ L k) u150 u151 u152 u153 u154 u155 u156 u157 (.pointer (some ⟨w'.heap.size, 0, none⟩)) u18 (w'.alloc (.cells #[.bool false, .slice none 0 0, .int .i64 0] 29)) := by
  have h := h0.mono (below_alloc w' (.cells #[.bool false, .slice none 0 0, .int .i64 0] 29))
  have hs := h0.below.size
  refine ⟨h.below, fun e => h.f0 (e.resolve_left (by decide)), fun e => h.f1 (e.resolve_left (by decide)), fun e => h.f2 (e.resolve_left (by decide)), fun e => h.f3 (e.resolve_left (by decide)), fun e => h.f4 (e.resolve_left (by decide)), fun e => h.f5 (e.resolve_left (by decide)), fun e => h.f6 (e.resolve_left (by decide)), fun e => h.f7 (e.resolve_left (by decide)), fun _ => ⟨w'.heap.size, rfl, hs, by simp, _, _, _, heap_alloc_new w' _⟩, fun e => h.f9 (e.resolve_left (by decide)), fun e => absurd (h0.f13 (Or.inl (e.resolve_left (by decide)))).1 hno, fun e => absurd (h0.f13 (Or.inr (e.resolve_left (by decide)))).1 hno, ?_, ?_⟩
  · exact fun _ e' => by
      obtain ⟨p, hp, _, hl, _⟩ := h0.f9 (e'.resolve_left (by decide))
      rw [hp]
      intro e; injection e with e; injection e with e; injection e with e; omega
  · exact fun e => absurd (h0.f13 (by simpa using e)).1 hno
theorem R21.n9 (h0 : R21 W vv a b z L u150 u151 u152 u153 u154 u155 u156 u157 u17 u18 w') (hno : ¬ L 9) : R21 W vv a b z (fun k => k = 9 ∨ L k) u150 u151 u152 u153 u154 u155 u156 u157 u17 (.pointer (some ⟨w'.heap.size, 0, none⟩)) (w'.alloc (.cells #[.bool false, .slice none 0 0, .int .i64 0] 29)) := by
  have h := h0.mono (below_alloc w' (.cells #[.bool false, .slice none 0 0, .int .i64 0] 29))
  have hs := h0.below.size
  refine ⟨h.below, fun e => h.f0 (e.resolve_left (by decide)), fun e => h.f1 (e.resolve_left (by decide)), fun e => h.f2 (e.resolve_left (by decide)), fun e => h.f3 (e.resolve_left (by decide)), fun e => h.f4 (e.resolve_left (by decide)), fun e => h.f5 (e.resolve_left (by decide)), fun e => h.f6 (e.resolve_left (by decide)), fun e => h.f7 (e.resolve_left (by decide)), fun e => h.f8 (e.resolve_left (by decide)), fun _ => ⟨w'.heap.size, rfl, hs, by simp, _, _, _, heap_alloc_new w' _⟩, fun e => absurd (h0.f13 (Or.inl (e.resolve_left (by decide)))).2 hno, fun e => absurd (h0.f13 (Or.inr (e.resolve_left (by decide)))).2 hno, ?_, ?_⟩
  · exact fun e _ => by
      obtain ⟨p, hp, _, hl, _⟩ := h0.f8 (e.resolve_left (by decide))
      rw [hp]
      intro e; injection e with e; injection e with e; injection e with e; omega
  · exact fun e => absurd (h0.f13 (by simpa using e)).2 hno
theorem R21.n10 {p : Nat} {ng : Bool} {A : Option Addr} {n cap : Nat} {E : Int} {x0 x1 x2 : Value} (h : R21 W vv a b z L u150 u151 u152 u153 u154 u155 u156 u157 u17 u18 w') (hu : u17 = .pointer (some ⟨p, 0, none⟩)) (hp : W.heap.size ≤ p) (hq : w'.heap[p]? = some (.cells #[x0, x1, x2] 29 (0, 0))) (hv : NumIs w' ng (.slice A n cap) E (z + -fz a)) (h8 : L 8) (h9 : L 9) : R21 W vv a b z (fun k => k = 10 ∨ L k) u150 u151 u152 u153 u154 u155 u156 u157 u17 u18 (((w'.setCell ⟨p, 0, none⟩ (.bool ng)).setCell ⟨p, 1, none⟩ (.slice A n cap)).setCell ⟨p, 2, none⟩ (.int .i64 E)) := by
  have hne := h.f12 h8 h9
  obtain ⟨hg9, hgr9⟩ := set3 hq (.bool ng) (.slice A n cap) (.int .i64 E)
  have hna := (NumAt.put hq hv).1
  have hs := h.below.size
  refine ⟨h.below.trans (below_of_grown' hgr9 hs hp), fun e => h.f0 (e.resolve_left (by decide)), fun e => h.f1 (e.resolve_left (by decide)), fun e => (h.f2 (e.resolve_left (by decide))).put hq hgr9, fun e => (h.f3 (e.resolve_left (by decide))).put hq hgr9, fun e => h.f4 (e.resolve_left (by decide)), fun e => (h.f5 (e.resolve_left (by decide))).put hq hgr9, fun e => h.f6 (e.resolve_left (by decide)), fun e => (h.f7 (e.resolve_left (by decide))).put hq hgr9, fun e => (h.f8 (e.resolve_left (by decide))).put hg9 hgr9, fun e => (h.f9 (e.resolve_left (by decide))).put hg9 hgr9, fun _ => ⟨p, hu, hna⟩, fun e => ?_, fun e e' => h.f12 (e.resolve_left (by decide)) (e'.resolve_left (by decide)), fun e => ⟨Or.inr h8, Or.inr h9⟩⟩
  obtain ⟨q, h1, h2⟩ := h.f11 (e.resolve_left (by decide))
  refine ⟨q, h1, h2.other (fun e' => hne ?_) hq hgr9⟩
  rw [hu, h1, e']
theorem R21.n11 {p : Nat} {ng : Bool} {A : Option Addr} {n cap : Nat} {E : Int} {x0 x1 x2 : Value} (h : R21 W vv a b z L u150 u151 u152 u153 u154 u155 u156 u157 u17 u18 w') (hu : u18 = .pointer (some ⟨p, 0, none⟩)) (hp : W.heap.size ≤ p) (hq : w'.heap[p]? = some (.cells #[x0, x1, x2] 29 (0, 0))) (hv : NumIs w' ng (.slice A n cap) E (fz b + -z)) (h8 : L 8) (h9 : L 9) : R21 W vv a b z (fun k => k = 11 ∨ L k) u150 u151 u152 u153 u154 u155 u156 u157 u17 u18 (((w'.setCell ⟨p, 0, none⟩ (.bool ng)).setCell ⟨p, 1, none⟩ (.slice A n cap)).setCell ⟨p, 2, none⟩ (.int .i64 E)) := by
  have hne := h.f12 h8 h9
  obtain ⟨hg9, hgr9⟩ := set3 hq (.bool ng) (.slice A n cap) (.int .i64 E)
  have hna := (NumAt.put hq hv).1
  have hs := h.below.size
  refine ⟨h.below.trans (below_of_grown' hgr9 hs hp), fun e => h.f0 (e.resolve_left (by decide)), fun e => h.f1 (e.resolve_left (by decide)), fun e => (h.f2 (e.resolve_left (by decide))).put hq hgr9, fun e => (h.f3 (e.resolve_left (by decide))).put hq hgr9, fun e => h.f4 (e.resolve_left (by decide)), fun e => (h.f5 (e.resolve_left (by decide))).put hq hgr9, fun e => h.f6 (e.resolve_left (by decide)), fun e => (h.f7 (e.resolve_left (by decide))).put hq hgr9, fun e => (h.f8 (e.resolve_left (by decide))).put hg9 hgr9, fun e => (h.f9 (e.resolve_left (by decide))).put hg9 hgr9, fun e => ?_, fun _ => ⟨p, hu, hna⟩, fun e e' => h.f12 (e.resolve_left (by decide)) (e'.resolve_left (by decide)), fun e => ⟨Or.inr h8, Or.inr h9⟩⟩
  obtain ⟨q, h1, h2⟩ := h.f10 (e.resolve_left (by decide))
  refine ⟨q, h1, h2.other (fun e' => hne ?_) hq hgr9⟩
  rw [hu, h1, e']
end
end Go.Proofs.YtopilodakphhgaaGreatDoor
