/- Sum of one number; comparisons of floats. -/
import Derived.Test.YtopilodakphhgaaDoorTurnPlain
namespace Go.Proofs.YtopilodakphhgaaDoor
set_option linter.unusedVariables false
set_option linter.unusedSimpArgs false
open Go Go.RowKit
set_option maxRecDepth 100000
theorem blen_shift (s P : Nat) (h : 0 < s) : blen (s * 2 ^ P) = blen s + P := by
  refine (isLen_blen _).unique ⟨?_, fun _ => ?_⟩
  · rw [Nat.pow_add]
    exact Nat.mul_lt_mul_of_pos_right (isLen_blen s).1 (Nat.two_pow_pos P)
  · have h1 : 0 < blen s := by
      refine Nat.pos_of_ne_zero fun hz => ?_
      have := (isLen_blen s).1
      rw [hz, Nat.pow_zero] at this
      omega
    rw [show blen s + P - 1 = blen s - 1 + P by omega, Nat.pow_add]
    exact Nat.mul_le_mul_right _ ((isLen_blen s).2 h1)
theorem blen_le (s k : Nat) (h : s < 2 ^ k) : blen s ≤ k := by
  refine Nat.le_of_not_lt fun hgt => ?_
  have h1 := (isLen_blen s).2 (by omega)
  have h2 := Nat.pow_le_pow_right (show 0 < 2 by decide) (show k ≤ blen s - 1 by omega)
  omega
/-- A number that is a float's already is told as it is. -/
theorem told_exact (d : Int) (neg : Bool) (s P : Nat) (h0 : 0 ≤ d) (h2 : d ≤ 2) (hs : 0 < s) (hs2 : s < 9007199254740992) (hP : 1138 ≤ P) (hP2 : P ≤ 3183) (hn : P = 1138 ∨ 4503599627370496 ≤ s) :
    toldB d neg (s * 2 ^ P) = (numB neg s P, true) := by
  have hp := Nat.two_pow_pos P
  have hM : s * 2 ^ P ≠ 0 := Nat.pos_iff_ne_zero.1 (Nat.mul_pos hs hp)
  have hb := blen_le s 53 hs2
  have hsh : shiftOf (s * 2 ^ P) = P := by
    unfold shiftOf
    rw [blen_shift s P hs]
    rcases hn with rfl | hn
    · omega
    · have := blen_ge53 s hn
      omega
  have hdiv : s * 2 ^ P / 2 ^ P = s := Nat.mul_div_cancel _ hp
  have hmod : s * 2 ^ P % 2 ^ P = 0 := Nat.mul_mod_left _ _
  have hupN : upN (s * 2 ^ P) P = false := by
    have hh := Nat.two_pow_pos (P - 1)
    unfold upN
    rw [hmod, decide_eq_false (by omega), beq_eq_false_iff_ne.2 (by omega)]
    rfl
  have hupF : ∀ o, upF o (s * 2 ^ P) P = false := fun o => by unfold upF; rw [hmod]; simp
  have hd : d = 0 ∨ d = 1 ∨ d = 2 := by omega
  rcases hd with rfl | hd
  · rw [toldB_near neg _ hM, hsh, hupN, hdiv, Bool.toNat_false, Nat.add_zero]
    exact finish_in _ _ _ _ (by omega)
  · rw [toldB_far d neg _ hM hd, hsh, hupF, hdiv, Bool.toNat_false, Nat.add_zero]
    exact finish_in _ _ _ _ (by omega)
/-- -0 as +0. -/
def canon (u : Nat) : Nat := if u = 9223372036854775808 then 0 else u
theorem sig_ONE : sig ONE = 4503599627370496 := by decide
theorem pwr_ONE : pwr ONE = -52 := by decide
theorem prodQ_one (u : Nat) : prodQ u ONE 0 = sig u * 2 ^ (pwr u + 2212).toNat := by
  have hp := pwr_ge u
  obtain ⟨P, hP⟩ : ∃ P, P = (pwr u + 2212).toNat := ⟨_, rfl⟩
  unfold prodQ
  rw [sig_ONE, pwr_ONE, ← hP, show (pwr u + -52 + 0 + 2212).toNat = P - 52 by omega, Nat.mul_assoc]
  congr 1
  rw [show (4503599627370496 : Nat) = 2 ^ 52 from rfl, ← Nat.pow_add]
  congr 1
  omega
theorem prodS_some (z : Int) (u v : Nat) (n : Int) : prodS (some z) u v n = if fexp u = 2047 ∨ fexp v = 2047 ∨ n < -64 ∨ 64 < n then none else clip (z + prodZ u v n) := rfl
theorem sum_one (u : Nat) (hu : u < B64) (he : fexp u ≠ 2047) : sumS [u] = some (prodZ u ONE 0) := by
  show addS (some 0) u = _
  unfold addS
  rw [prodS_some, if_neg (by
    have h1 : fexp ONE = 1023 := by decide
    rw [h1]; omega)]
  unfold clip
  rw [Int.zero_add, if_pos]
  have := prodQ_lt u ONE 0 he (by decide) (by decide)
  unfold prodZ
  split <;> omega
theorem sum_none (u : Nat) (he : fexp u = 2047) : sumS [u] = none := by
  show addS (some 0) u = _
  unfold addS
  rw [prodS_some, if_pos (Or.inl he)]
theorem round_one (d : Int) (u : Nat) (hu : u < B64) (he : fexp u ≠ 2047) (h0 : 0 ≤ d) (h2 : d ≤ 2) : roundS d (sumS [u]) = (canon u, true) := by
  rw [sum_one u hu he]
  show toldB d (decide (prodZ u ONE 0 < 0)) (prodZ u ONE 0).natAbs = _
  have hone : fneg ONE = false := by decide
  have hz : prodZ u ONE 0 = if fneg u = true then -(prodQ u ONE 0 : Int) else prodQ u ONE 0 := by
    unfold prodZ
    rw [hone]
    cases fneg u <;> rfl
  have hab : (prodZ u ONE 0).natAbs = prodQ u ONE 0 := by rw [hz]; split <;> omega
  have hsp := u_split u hu
  have hfm := fman_lt u
  rw [hab]
  by_cases hs : sig u = 0
  · have hq : prodQ u ONE 0 = 0 := by rw [prodQ_one, hs, Nat.zero_mul]
    rw [hq, toldB_zero d _ (by omega)]
    have h1 : fexp u = 0 ∧ fman u = 0 := by
      unfold sig at hs
      split at hs
      · exact ⟨by assumption, hs⟩
      · omega
    rw [h1.1, h1.2] at hsp
    have : canon u = 0 := by
      unfold canon
      cases hn : fneg u
      · rw [hn, cond_false] at hsp; rw [if_neg (by omega)]; omega
      · rw [hn, cond_true] at hsp; rw [if_pos (by omega)]
    rw [this]
  · have hneg : decide (prodZ u ONE 0 < 0) = fneg u := by
      have hpos : 0 < prodQ u ONE 0 := by rw [prodQ_one]; exact Nat.mul_pos (by omega) (Nat.two_pow_pos _)
      rw [hz]
      cases fneg u
      · rw [if_neg (by decide)]; exact decide_eq_false (by omega)
      · rw [if_pos rfl]; exact decide_eq_true (by omega)
    have hp1 := pwr_ge u
    have hp2 := pwr_le u he
    have hsl := sig_lt u
    rw [hneg, prodQ_one]
    rw [told_exact d (fneg u) (sig u) (pwr u + 2212).toNat h0 h2 (by omega) hsl (by omega) (by omega) (by
      unfold sig pwr
      by_cases h : fexp u = 0
      · rw [if_pos h, if_pos h]; exact Or.inl rfl
      · rw [if_neg h, if_neg h]; exact Or.inr (by omega))]
    have key : numB (fneg u) (sig u) (pwr u + 2212).toNat = canon u := by
      unfold numB
      rw [if_neg hs]
      have h3 : sig u + ((pwr u + 2212).toNat - 1138) * 4503599627370496 = fman u + fexp u * 4503599627370496 := by
        unfold sig pwr at *
        by_cases h : fexp u = 0
        · rw [if_pos h, if_pos h, h]; rfl
        · rw [if_neg h, if_neg h]; omega
      rw [h3, ← hsp]
      unfold canon
      rw [if_neg]
      intro hu2
      apply hs
      unfold sig
      rw [hu2, if_pos (by decide)]
      decide
    rw [key]
theorem round_none (d : Int) (u : Nat) (he : fexp u = 2047) : roundS d (sumS [u]) = (0, false) := by rw [sum_none u he]; rfl
/-- A float is as great as itself. -/
theorem datum_same (s : Bool) (m : Nat) (i : Int) : (Ieee.Datum.number s m i).order (Ieee.Datum.number s m i) = some .eq := by
  unfold Ieee.Datum.order
  simp
theorem order_same (u : Nat) (he : fexp u ≠ 2047) : FloatKind.f64.format.order u u = some .eq := by
  show (Ieee.double.read u).order (Ieee.double.read u) = some .eq
  have h1 : Ieee.double.signWeight = 9223372036854775808 := by decide
  have h2 : Ieee.double.infRung = 9218868437227405312 := by decide
  have hr : u % 9223372036854775808 < 9218868437227405312 := by
    unfold fexp at he
    omega
  unfold Ieee.Format.read
  simp only [h1, h2]
  by_cases hb : u % 9223372036854775808 < Ieee.double.binade
  · rw [if_pos hb]; exact datum_same _ _ _
  · rw [if_neg hb, if_pos hr]; exact datum_same _ _ _
theorem canon_eq (u : Nat) (he : fexp u ≠ 2047) : (FloatKind.f64.format.order (canon u) u == some .eq) = true := by
  unfold canon
  split
  · next h => subst h; decide +kernel
  · rw [order_same u he]; rfl
theorem canon_ne (u : Nat) : canon u ≠ 9223372036854775808 := by unfold canon; split <;> omega
/-- What is told of a list upwards, and of the list turned downwards. -/
theorem turned_eq (a b : Nat) (h : Turned a b) : (FloatKind.f64.format.order a (nf b) == some .eq) = true ∧ a ≠ 9223372036854775808 ∧ b ≠ 9223372036854775808 := by
  obtain ⟨rfl, rfl⟩ | ⟨m, h0, hm, h⟩ := h
  · exact ⟨by decide +kernel, by decide, by decide⟩
  · have key : nf b = a ∧ fexp a ≠ 2047 := by
      rcases h with ⟨rfl, rfl⟩ | ⟨rfl, rfl⟩
      · rw [nf_eq _ (by unfold B64; omega), if_pos (by omega)]
        exact ⟨by omega, by unfold fexp; omega⟩
      · rw [nf_eq _ (by unfold B64; omega), if_neg (by omega)]
        exact ⟨rfl, by unfold fexp; omega⟩
    rw [key.1, order_same a key.2]
    exact ⟨rfl, by omega, by omega⟩
end Go.Proofs.YtopilodakphhgaaDoor
