/- Floats are held against each other as their reals. -/
import Derived.Test.YtopilodakphhgaaGreatDoorBetPlain
namespace Go.Proofs.YtopilodakphhgaaGreatDoor
set_option linter.unusedVariables false
set_option linter.unusedSimpArgs false
open Go Go.RowKit
set_option maxRecDepth 100000
theorem signed_sgn (s : Bool) (m k : Nat) : Ieee.signed s m k = sgn s (m * 2 ^ k) := by
  unfold Ieee.signed sgn
  rw [Nat.shiftLeft_eq]
theorem read_num (u : Nat) (hu : u < B64) (he : fexp u ≠ 2047) : Ieee.double.read u = .number (fneg u) (sig u) (pwr u) := by
  have h1 : Ieee.double.signWeight = 9223372036854775808 := by decide
  have h2 : Ieee.double.infRung = 9218868437227405312 := by decide
  have h3 : Ieee.double.binade = 4503599627370496 := by decide
  have h4 : Ieee.double.leastPlace = -1074 := by decide
  have hr : u % 9223372036854775808 < 9218868437227405312 := by
    unfold fexp at he
    omega
  have hn : (u / 9223372036854775808 % 2 == 1) = fneg u := by
    unfold fneg B64 at *
    rw [Bool.eq_iff_iff, beq_iff_eq, beq_iff_eq]
    omega
  unfold Ieee.Format.read
  simp only [h1, h2, h3, h4, hn]
  by_cases hb : u % 9223372036854775808 < 4503599627370496
  · have e0 : fexp u = 0 := by unfold fexp; omega
    rw [if_pos hb]
    unfold sig pwr
    rw [if_pos e0, if_pos e0]
    congr 1
    unfold fman
    omega
  · have e0 : ¬ fexp u = 0 := by unfold fexp; omega
    rw [if_neg hb, if_pos hr]
    unfold sig pwr
    rw [if_neg e0, if_neg e0]
    congr 1
    · unfold fman; omega
    · unfold fexp at *; omega
theorem compare_mul (x y : Int) (p : Nat) (hp : 0 < p) : compare (x * p) (y * p) = compare x y := by
  have hp' : (0 : Int) < p := by omega
  rcases Int.lt_trichotomy x y with h | h | h
  · rw [Int.compare_eq_lt.2 h, Int.compare_eq_lt.2 (Int.mul_lt_mul_of_pos_right h hp')]
  · rw [h]; simp
  · rw [Int.compare_eq_gt.2 h, Int.compare_eq_gt.2 (Int.mul_lt_mul_of_pos_right h hp')]
theorem sgn_mul (s : Bool) (m p : Nat) : sgn s (m * p) = sgn s m * p := by
  unfold sgn
  cases s <;> simp [Int.neg_mul]
theorem order_fz (a b : Nat) (ha : a < B64) (hb : b < B64) (ea : fexp a ≠ 2047) (eb : fexp b ≠ 2047) : FloatKind.f64.format.order a b = some (compare (fz a) (fz b)) := by
  show (Ieee.double.read a).order (Ieee.double.read b) = _
  rw [read_num a ha ea, read_num b hb eb]
  show some (compare (Ieee.signed (fneg a) (sig a) (pwr a - min (pwr a) (pwr b)).toNat) (Ieee.signed (fneg b) (sig b) (pwr b - min (pwr a) (pwr b)).toNat)) = _
  have p1 := pwr_ge a
  have p2 := pwr_ge b
  congr 1
  obtain ⟨m, hm⟩ : ∃ m, min (pwr a) (pwr b) = m := ⟨_, rfl⟩
  have hm1 : m ≤ pwr a ∧ m ≤ pwr b ∧ -1074 ≤ m := by omega
  rw [hm, signed_sgn, signed_sgn, ← compare_mul _ _ (2 ^ (m + 2212).toNat) (Nat.two_pow_pos _), ← sgn_mul, ← sgn_mul, Nat.mul_assoc, Nat.mul_assoc, ← Nat.pow_add, ← Nat.pow_add]
  unfold fz
  rw [show (pwr a - m).toNat + (m + 2212).toNat = (pwr a + 2212).toNat by omega, show (pwr b - m).toNat + (m + 2212).toNat = (pwr b + 2212).toNat by omega]
theorem order_eq_iff (a b : Nat) (ha : a < B64) (hb : b < B64) (ea : fexp a ≠ 2047) (eb : fexp b ≠ 2047) : (FloatKind.f64.format.order a b == some .eq) = decide (fz a = fz b) := by
  rw [order_fz a b ha hb ea eb]
  rcases Int.lt_trichotomy (fz a) (fz b) with h | h | h
  · rw [Int.compare_eq_lt.2 h, decide_eq_false (by omega)]; rfl
  · rw [h]; simp
  · rw [Int.compare_eq_gt.2 h, decide_eq_false (by omega)]; rfl
theorem order_lt_iff (a b : Nat) (ha : a < B64) (hb : b < B64) (ea : fexp a ≠ 2047) (eb : fexp b ≠ 2047) : (FloatKind.f64.format.order a b == some .lt) = decide (fz a < fz b) := by
  rw [order_fz a b ha hb ea eb]
  rcases Int.lt_trichotomy (fz a) (fz b) with h | h | h
  · rw [Int.compare_eq_lt.2 h, decide_eq_true h]; rfl
  · rw [h]; simp
  · rw [Int.compare_eq_gt.2 h, decide_eq_false (by omega)]; rfl
theorem order_gt_iff (a b : Nat) (ha : a < B64) (hb : b < B64) (ea : fexp a ≠ 2047) (eb : fexp b ≠ 2047) : (FloatKind.f64.format.order a b == some .gt) = decide (fz b < fz a) := by
  rw [order_fz a b ha hb ea eb]
  rcases Int.lt_trichotomy (fz a) (fz b) with h | h | h
  · rw [Int.compare_eq_lt.2 h, decide_eq_false (by omega)]; rfl
  · rw [h]; simp
  · rw [Int.compare_eq_gt.2 h, decide_eq_true h]; rfl
theorem fz_prod (u : Nat) : prodZ u ONE 0 = fz u := by
  unfold prodZ fz
  rw [prodQ_one, show fneg ONE = false by decide]
  unfold sgn
  cases fneg u <;> rfl
theorem round_fz (d : Int) (u : Nat) (hu : u < B64) (he : fexp u ≠ 2047) (h0 : 0 ≤ d) (h2 : d ≤ 2) : roundS d (some (fz u)) = (canon u, true) := by
  rw [← round_one d u hu he h0 h2, sum_one u hu he, fz_prod]
theorem fz_inj (a b : Nat) (ha : Num1 a) (hb : Num1 b) (h : fz a = fz b) : a = b := by
  have h1 := round_fz 0 a ha.2.1 ha.1 (by decide) (by decide)
  rw [h, round_fz 0 b hb.2.1 hb.1 (by decide) (by decide)] at h1
  injection h1 with h1
  unfold canon at h1
  rw [if_neg ha.2.2, if_neg hb.2.2] at h1
  exact h1.symm
end Go.Proofs.YtopilodakphhgaaGreatDoor
