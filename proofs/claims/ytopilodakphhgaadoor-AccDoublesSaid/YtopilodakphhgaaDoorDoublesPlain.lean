/- AccDoubles: the plain law: doubling until the Acc is full; a doubled number told. -/
import Derived.Test.YtopilodakphhgaaDoorRefRound2
import Derived.Test.YtopilodakphhgaaDoorTurnOne
namespace Go.Proofs.YtopilodakphhgaaDoor
set_option linter.unusedVariables false
set_option linter.unusedSimpArgs false
open Go Go.RowKit
set_option maxRecDepth 100000
def limK : Nat := 4772
theorem LIM_limK : LIM = 2 ^ limK := by
  obtain ⟨k, hk, h⟩ := LIM_pow
  have e : k = limK := hk
  rw [h, e]
/-- The Acc behind j doublings. -/
def dblX (z : Int) (K j : Nat) : Option Int := if j ≤ K then some (z * 2 ^ j) else none
theorem dbl_lt (s P K : Nat) (z : Int) (hz : z.natAbs = s * 2 ^ P) (hs : 0 < s) (hK : blen s + P + K = limK) (j : Nat) : (z * 2 ^ j).natAbs < LIM ↔ j ≤ K := by
  have h1 : (z * 2 ^ j).natAbs = s * 2 ^ (P + j) := by
    rw [Int.natAbs_mul, hz, Int.natAbs_pow, Nat.pow_add, Nat.mul_assoc]; rfl
  have h2 := blen_shift s (P + j) hs
  rw [h1, LIM_limK]
  constructor
  · intro h
    have := blen_le _ limK h
    omega
  · intro h
    have h3 := (isLen_blen (s * 2 ^ (P + j))).1
    exact Nat.lt_of_lt_of_le h3 (Nat.pow_le_pow_right (by decide) (by omega))
theorem dbl_join (s P K : Nat) (z : Int) (hz : z.natAbs = s * 2 ^ P) (hs : 0 < s) (hK : blen s + P + K = limK) (j : Nat) : joinS (dblX z K j) (dblX z K j) false = dblX z K (j + 1) := by
  unfold dblX
  by_cases h : j ≤ K
  · rw [if_pos h]
    show clip (z * 2 ^ j + z * 2 ^ j) = _
    have e : z * 2 ^ j + z * 2 ^ j = z * 2 ^ (j + 1) := by rw [Int.pow_succ, ← Int.mul_assoc]; omega
    rw [e]
    unfold clip
    by_cases h1 : j + 1 ≤ K
    · rw [if_pos ((dbl_lt s P K z hz hs hK (j + 1)).2 h1), if_pos h1]
    · rw [if_neg (fun h2 => h1 ((dbl_lt s P K z hz hs hK (j + 1)).1 h2)), if_neg h1]
  · rw [if_neg h, if_neg (by omega)]
    rfl
/-- A number doubled k times, told by acc as by the document. -/
theorem dbl_told (neg : Bool) (s P k n1 k1 : Nat) (hs : 0 < s) (hs2 : s < 9007199254740992) (hPk : P + k = k1 + (n1 + 1137)) (hn1 : 1 ≤ n1) (hQ2 : s * 2 ^ k1 < 9007199254740992) (hor : n1 = 1 ∨ 4503599627370496 ≤ s * 2 ^ k1) :
    toldB 0 neg (s * 2 ^ (P + k)) = (if n1 ≤ 2046 then numB neg (s * 2 ^ k1) (n1 + 1137) else 0, decide (n1 ≤ 2046)) := by
  have hQ0 : 0 < s * 2 ^ k1 := Nat.mul_pos hs (Nat.two_pow_pos k1)
  rw [hPk, Nat.pow_add, ← Nat.mul_assoc]
  by_cases h : n1 ≤ 2046
  · rw [if_pos h, decide_eq_true h]
    exact told_exact 0 neg (s * 2 ^ k1) (n1 + 1137) (by decide) (by decide) hQ0 hQ2 (by omega) (by omega) (by omega)
  · rw [if_neg h, decide_eq_false h]
    have hb : blen (s * 2 ^ k1) = 53 := by
      have h1 := blen_le _ 53 hQ2
      have h2 := blen_ge53 (s * 2 ^ k1) (by omega)
      omega
    generalize s * 2 ^ k1 = Q at *
    have hp := Nat.two_pow_pos (n1 + 1137)
    have hM : Q * 2 ^ (n1 + 1137) ≠ 0 := Nat.pos_iff_ne_zero.1 (Nat.mul_pos hQ0 hp)
    have hsh : shiftOf (Q * 2 ^ (n1 + 1137)) = n1 + 1137 := by
      unfold shiftOf
      rw [blen_shift Q _ hQ0, hb]
      omega
    have hdiv : Q * 2 ^ (n1 + 1137) / 2 ^ (n1 + 1137) = Q := Nat.mul_div_cancel _ hp
    have hmod : Q * 2 ^ (n1 + 1137) % 2 ^ (n1 + 1137) = 0 := Nat.mul_mod_left _ _
    have hupN : upN (Q * 2 ^ (n1 + 1137)) (n1 + 1137) = false := by
      have hh := Nat.two_pow_pos (n1 + 1137 - 1)
      unfold upN
      rw [hmod, decide_eq_false (by omega), beq_eq_false_iff_ne.2 (by omega)]
      rfl
    rw [toldB_near neg _ hM, hsh, hupN, hdiv, Bool.toNat_false, Nat.add_zero]
    exact finish_out _ _ _ (by omega)
theorem i64_and12 (n : Int) : bits .and .i64 n 4095 = n % 4096 := by
  have h1 : (BitVec.ofInt 64 4095).toNat = 2 ^ 12 - 1 := by decide
  have key : (BitVec.ofInt 64 n &&& BitVec.ofInt 64 4095).toNat = (n % ((2 ^ 64 : Nat) : Int)).toNat % 2 ^ 12 := by
    rw [BitVec.toNat_and, BitVec.toNat_ofInt, h1, Nat.and_two_pow_sub_one_eq_mod]
  show IntKind.i64.wrap ((BitVec.ofInt 64 n &&& BitVec.ofInt 64 4095).toNat : Nat) = n % 4096
  rw [key, IntKind.wrap_i64]
  omega
/-- The first number: its real in the lowest bit's units. -/
theorem first_real (u : Nat) (hu : u < B64) (he : fexp u ≠ 2047) (hs : sig u ≠ 0) : addS (some 0) u = some (prodZ u ONE 0) ∧ (prodZ u ONE 0).natAbs = sig u * 2 ^ (pwr u + 2212).toNat ∧ decide (prodZ u ONE 0 < 0) = fneg u := by
  have hone : fneg ONE = false := by decide
  have hz : prodZ u ONE 0 = if fneg u = true then -(prodQ u ONE 0 : Int) else prodQ u ONE 0 := by
    unfold prodZ
    rw [hone]
    cases fneg u <;> rfl
  have hab : (prodZ u ONE 0).natAbs = prodQ u ONE 0 := by rw [hz]; split <;> omega
  refine ⟨sum_one u hu he, hab.trans (prodQ_one u), ?_⟩
  have hpos : 0 < prodQ u ONE 0 := by rw [prodQ_one]; exact Nat.mul_pos (by omega) (Nat.two_pow_pos _)
  rw [hz]
  cases fneg u
  · rw [if_neg (by decide)]; exact decide_eq_false (by omega)
  · rw [if_pos rfl]; exact decide_eq_true (by omega)
theorem sign_pow (z : Int) (k : Nat) : (z * 2 ^ k).sign = z.sign := by
  rw [Int.sign_mul, show (2 : Int) ^ k = ((2 ^ k : Nat) : Int) by rw [Int.natCast_pow]; rfl, Int.sign_eq_one_of_pos (a := ((2 ^ k : Nat) : Int)) (by have := Nat.two_pow_pos k; omega), Int.mul_one]
end Go.Proofs.YtopilodakphhgaaDoor
