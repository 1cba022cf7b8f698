/-
  What is told of one real down, up and near: the plain law.
  Floats are held against each other as their reals.
  Zonotopes as data: which are good; how far they reach, as reals.
-/
import Derived.Test.YtpfbgenefjhcjaaGreatDoorPRefPl
namespace Go.Proofs.YtpfbgenefjhcjaaGreatDoor
set_option linter.unusedVariables false
set_option linter.unusedSimpArgs false
open Go Go.RowKit
set_option maxRecDepth 100000
/-- A float's real in the lowest bit's units. -/
def fz (u : Nat) : Int := sgn (fneg u) (sig u * 2 ^ (pwr u + 2212).toNat)
def expS : Nat := 1132
def STEP : Nat := 2 ^ expS
theorem STEP_pos : 0 < STEP := Nat.two_pow_pos _
theorem STEP_lt (k : Nat) (h : 1138 ≤ k) : STEP < 2 ^ k := Nat.pow_lt_pow_right (by decide) (by unfold expS; omega)
def expM : Nat := 3183
/-- The greatest float's real. -/
def MOST : Nat := 9007199254740991 * 2 ^ expM
/-- The greatest float. -/
def MAXB : Nat := 9218868437227405311
theorem numB_facts (neg : Bool) (Q n : Nat) (hQ : Q ≤ 9007199254740992) (hn : 1138 ≤ n) (h1 : n ≤ 3183) (h2 : n = 3183 → Q < 9007199254740992) (h3 : n = 1138 ∨ 4503599627370496 ≤ Q) :
    fexp (numB neg Q n) ≠ 2047 ∧ numB neg Q n < B64 ∧ numB neg Q n ≠ 9223372036854775808 ∧ numB neg Q n % 2 = Q % 2 ∧ fz (numB neg Q n) = sgn neg (Q * 2 ^ n) := by
  unfold numB
  by_cases h0 : Q = 0
  · subst h0
    rw [if_pos rfl]
    refine ⟨by decide, by decide, by decide, rfl, ?_⟩
    rw [Nat.zero_mul]
    have : fz 0 = 0 := by
      unfold fz
      rw [show sig 0 = 0 by decide, Nat.zero_mul]
      rfl
    rw [this]
    cases neg <;> rfl
  · rw [if_neg h0]
    obtain ⟨s, hs, hsv⟩ : ∃ s : Nat, (bif neg then 9223372036854775808 else 0) = s ∧ (s = 0 ∧ neg = false ∨ s = 9223372036854775808 ∧ neg = true) := by
      cases neg
      · exact ⟨0, rfl, Or.inl ⟨rfl, rfl⟩⟩
      · exact ⟨_, rfl, Or.inr ⟨rfl, rfl⟩⟩
    rw [hs]
    obtain ⟨j, hj⟩ : ∃ j, n - 1138 = j := ⟨_, rfl⟩
    rw [hj]
    have hjl : j ≤ 2045 := by omega
    have hb : Q + j * 4503599627370496 < 9218868437227405312 := by
      by_cases e : n = 3183
      · have := h2 e
        omega
      · omega
    have hneg : fneg (Q + j * 4503599627370496 + s) = neg := by
      unfold fneg
      rcases hsv with ⟨rfl, rfl⟩ | ⟨rfl, rfl⟩
      · rw [beq_eq_false_iff_ne]; omega
      · rw [beq_iff_eq]; omega
    refine ⟨?_, ?_, ?_, ?_, ?_⟩
    · unfold fexp
      rcases hsv with ⟨rfl, rfl⟩ | ⟨rfl, rfl⟩ <;> omega
    · unfold B64
      rcases hsv with ⟨rfl, rfl⟩ | ⟨rfl, rfl⟩ <;> omega
    · rcases hsv with ⟨rfl, rfl⟩ | ⟨rfl, rfl⟩ <;> omega
    · rcases hsv with ⟨rfl, rfl⟩ | ⟨rfl, rfl⟩ <;> omega
    · unfold fz
      rw [hneg]
      congr 1
      by_cases hlow : Q < 4503599627370496
      · have hn0 : n = 1138 := by omega
        have hj0 : j = 0 := by omega
        subst hj0
        have he : fexp (Q + 0 * 4503599627370496 + s) = 0 := by
          unfold fexp
          rcases hsv with ⟨rfl, rfl⟩ | ⟨rfl, rfl⟩ <;> omega
        have hm : fman (Q + 0 * 4503599627370496 + s) = Q := by
          unfold fman
          rcases hsv with ⟨rfl, rfl⟩ | ⟨rfl, rfl⟩ <;> omega
        unfold sig pwr
        rw [if_pos he, if_pos he, hm, show ((-1074 : Int) + 2212).toNat = n by omega]
      · by_cases htop : Q < 9007199254740992
        · have he : fexp (Q + j * 4503599627370496 + s) = j + 1 := by
            unfold fexp
            rcases hsv with ⟨rfl, rfl⟩ | ⟨rfl, rfl⟩ <;> omega
          have hm : fman (Q + j * 4503599627370496 + s) = Q - 4503599627370496 := by
            unfold fman
            rcases hsv with ⟨rfl, rfl⟩ | ⟨rfl, rfl⟩ <;> omega
          unfold sig pwr
          rw [if_neg (by omega), if_neg (by omega), hm, he, show Q - 4503599627370496 + 4503599627370496 = Q by omega, show (((j + 1 : Nat) : Int) - 1075 + 2212).toNat = n by omega]
        · have hQe : Q = 9007199254740992 := by omega
          have he : fexp (Q + j * 4503599627370496 + s) = j + 2 := by
            unfold fexp
            rcases hsv with ⟨rfl, rfl⟩ | ⟨rfl, rfl⟩ <;> omega
          have hm : fman (Q + j * 4503599627370496 + s) = 0 := by
            unfold fman
            rcases hsv with ⟨rfl, rfl⟩ | ⟨rfl, rfl⟩ <;> omega
          unfold sig pwr
          rw [if_neg (by omega), if_neg (by omega), hm, he, show (((j + 2 : Nat) : Int) - 1075 + 2212).toNat = n + 1 by omega, hQe, Nat.pow_succ]
          generalize 2 ^ n = T
          omega
theorem blen_mono {a b : Nat} (h : a ≤ b) : blen a ≤ blen b := blen_le a (blen b) (Nat.lt_of_le_of_lt h (isLen_blen b).1)
theorem blen_low (Q : Nat) (h : 0 < blen Q) : 2 ^ (blen Q - 1) ≤ Q := (isLen_blen Q).2 h
/-- What is told of M, upwards and towards 0 and near. -/
theorem mag_told (neg : Bool) (M k q r : Nat) (hM : 0 < M) (hk : shiftOf M = k) (hq : M / 2 ^ k = q) (hr : M % 2 ^ k = r) :
    M = q * 2 ^ k + r ∧ r < 2 ^ k ∧ q < 9007199254740992 ∧ 1138 ≤ k ∧ (k = 1138 ∨ 4503599627370496 ≤ q) ∧
    ((finishB true neg (q + (decide (0 < r)).toNat) k = (0, false) ∧ finishB false neg q k = (numB neg 9007199254740991 3183, true) ∧ MOST ≤ M ∧
        (finishB true neg (q + (upN M k).toNat) k = (0, false) ∨ finishB true neg (q + (upN M k).toNat) k = (numB neg 9007199254740991 3183, true))) ∨
     (finishB true neg (q + (decide (0 < r)).toNat) k = (numB neg (q + (decide (0 < r)).toNat) k, true) ∧ finishB false neg q k = (numB neg q k, true) ∧ finishB true neg (q + (upN M k).toNat) k = (numB neg (q + (upN M k).toNat) k, true) ∧
        k ≤ 3183 ∧ (k = 3183 → q + (decide (0 < r)).toNat < 9007199254740992))) ∧ ((upN M k).toNat ≤ (decide (0 < r)).toNat) := by
  have hp := Nat.two_pow_pos k
  obtain ⟨hq1, hq2⟩ := quot_bounds M (blen M) k (isLen_blen M) hk.symm
  rw [hq] at hq1 hq2
  have hk0 : 1138 ≤ k := by rw [← hk]; exact Nat.le_max_right _ _
  have hMe : M = q * 2 ^ k + r := by
    have := Nat.div_add_mod M (2 ^ k)
    rw [hq, hr, Nat.mul_comm] at this
    exact this.symm
  have hrl : r < 2 ^ k := by rw [← hr]; exact Nat.mod_lt _ hp
  have hup : (upN M k).toNat ≤ (decide (0 < r)).toNat := by
    by_cases h0 : 0 < r
    · rw [decide_eq_true h0]; cases upN M k <;> decide
    · have h2 := Nat.two_pow_pos (k - 1)
      have : upN M k = false := by
        unfold upN
        rw [hr, decide_eq_false (by omega), beq_eq_false_iff_ne.2 (by omega)]
        rfl
      rw [this, decide_eq_false h0]
      decide
  refine ⟨hMe, hrl, hq1, hk0, hq2, ?_, hup⟩
  obtain ⟨c, hc, hc1⟩ : ∃ c, (decide (0 < r)).toNat = c ∧ c ≤ 1 := ⟨_, rfl, by cases decide (0 < r) <;> decide⟩
  rw [hc] at hup ⊢
  by_cases hov : 3236 < blen (q + c) + k
  · left
    rw [finish_out neg _ _ hov]
    refine ⟨rfl, ?_⟩
    by_cases hq' : 3236 < blen q + k
    · rw [finish_most neg _ _ hq']
      have hn : 3236 < blen (q + (upN M k).toNat) + k := by
        have := blen_mono (show q ≤ q + (upN M k).toNat by omega)
        omega
      rw [finish_out neg _ _ hn]
      refine ⟨rfl, ?_, Or.inl rfl⟩
      have hbl : 0 < blen q := by
        have := blen_le q 53 hq1
        rcases hq2 with h | h
        · omega
        · have := blen_ge53 q h
          omega
      have h1 := blen_low q hbl
      have h2 : 2 ^ (blen q - 1) * 2 ^ k ≤ q * 2 ^ k := Nat.mul_le_mul_right _ h1
      rw [← Nat.pow_add] at h2
      have h3 : ∀ e : Nat, e ≤ 3183 → 2 ^ 53 * 2 ^ e ≤ 2 ^ (blen q - 1 + k) := fun e he => by
        rw [← Nat.pow_add]
        exact Nat.pow_le_pow_right (by decide) (by omega)
      have h4 : ∀ e : Nat, (9007199254740991 : Nat) * 2 ^ e ≤ 2 ^ 53 * 2 ^ e := fun e => Nat.mul_le_mul_right _ (by decide)
      have h5 : MOST ≤ q * 2 ^ k := Nat.le_trans (h4 expM) (Nat.le_trans (h3 expM (Nat.le_refl _)) h2)
      omega
    · rw [finish_in false neg _ _ hq']
      have hc' : c = 1 := by
        rcases Nat.lt_or_ge c 1 with h | h
        · rw [show c = 0 by omega, Nat.add_zero] at hov
          omega
        · omega
      subst hc'
      have h54 := blen_le54 (q + 1) (by omega)
      have hk1 : k ≠ 1138 := by omega
      have hq3 : 4503599627370496 ≤ q := by omega
      have h53 := blen_ge53 q hq3
      have hbq : blen q = 53 := by have := blen_le q 53 hq1; omega
      have hkk : k = 3183 := by omega
      have hb54 : blen (q + 1) = 54 := by omega
      have hlow := blen_low (q + 1) (by omega)
      rw [hb54] at hlow
      have hqq : q = 9007199254740991 := by
        have : (2 : Nat) ^ (54 - 1) = 9007199254740992 := rfl
        omega
      subst hqq
      subst hkk
      refine ⟨rfl, ?_, ?_⟩
      · have h5 : ∀ e : Nat, e = expM → MOST ≤ 9007199254740991 * 2 ^ e := fun e he => by rw [he]; exact Nat.le_refl _
        have h6 := h5 3183 rfl
        omega
      · cases hu : upN M 3183
        · right
          rw [Bool.toNat_false, Nat.add_zero]
          exact finish_in true neg _ _ hq'
        · left
          exact finish_out neg _ _ hov
  · right
    have hq' : ¬ 3236 < blen q + k := by
      have := blen_mono (show q ≤ q + c by omega)
      omega
    have hn' : ¬ 3236 < blen (q + (upN M k).toNat) + k := by
      have := blen_mono (show q + (upN M k).toNat ≤ q + c by omega)
      omega
    obtain ⟨f1, f2⟩ := finish_ok (q + c) k (by omega) hov
    exact ⟨finish_in _ _ _ _ hov, finish_in _ _ _ _ hq', finish_in _ _ _ _ hn', f1, f2⟩
theorem shift_split (q k s : Nat) (hs : s < 2 ^ k) (hk : 1138 ≤ k) (hq : q < 9007199254740992) (h : k = 1138 ∨ 4503599627370496 ≤ q) : shiftOf (q * 2 ^ k + s) = k := by
  have hp := Nat.two_pow_pos k
  have h1 : q * 2 ^ k + s < 2 ^ (53 + k) := by
    rw [Nat.pow_add]
    have : (q + 1) * 2 ^ k ≤ 2 ^ 53 * 2 ^ k := Nat.mul_le_mul_right _ (by omega)
    rw [Nat.add_mul, Nat.one_mul] at this
    omega
  have h2 := blen_le _ _ h1
  unfold shiftOf
  rcases h with rfl | h
  · omega
  · have h3 : blen (q * 2 ^ k) = blen q + k := blen_shift q k (by omega)
    have h4 := blen_mono (show q * 2 ^ k ≤ q * 2 ^ k + s by omega)
    have h5 := blen_ge53 q h
    omega
theorem div_split (q k s : Nat) (hs : s < 2 ^ k) : (q * 2 ^ k + s) / 2 ^ k = q ∧ (q * 2 ^ k + s) % 2 ^ k = s := by
  have hp := Nat.two_pow_pos k
  constructor
  · rw [Nat.add_comm, Nat.add_mul_div_right _ _ hp, Nat.div_eq_of_lt hs, Nat.zero_add]
  · rw [Nat.add_comm, Nat.add_mul_mod_self_right, Nat.mod_eq_of_lt hs]
theorem roundS_pos (d : Int) (M : Nat) (hM : 0 < M) : roundS d (some (M : Int)) = toldB d false M := by
  show toldB d (decide ((M : Int) < 0)) (M : Int).natAbs = _
  rw [decide_eq_false (by omega), Int.natAbs_natCast]
theorem roundS_neg (d : Int) (M : Nat) (hM : 0 < M) : roundS d (some (-(M : Int))) = toldB d true M := by
  show toldB d (decide (-(M : Int) < 0)) (-(M : Int)).natAbs = _
  rw [decide_eq_true (by omega), Int.natAbs_neg, Int.natAbs_natCast]
theorem upF_true (M k : Nat) : upF true M k = decide (0 < M % 2 ^ k) := by unfold upF; rw [Bool.true_and]
theorem upF_false (M k : Nat) : upF false M k = false := by unfold upF; rw [Bool.false_and]
/-- The number that is told near, of two neighbours a below and b above. -/
def nearOf (z : Int) (a b : Nat) : Nat := if z - fz a < fz b - z then a else if fz b - z < z - fz a then b else if a % 2 = 1 then b else a
def Num1 (a : Nat) : Prop := fexp a ≠ 2047 ∧ a < B64 ∧ a ≠ 9223372036854775808
/-- What is told of z down, up, near. -/
def BetOver (z : Int) (dn up nr : Nat × Bool) : Prop := (dn = (MAXB, true) ∧ up = (0, false) ∧ fz MAXB ≤ z ∧ (nr = (0, false) ∨ nr = (MAXB, true)))
def BetUnder (z : Int) (dn up nr : Nat × Bool) : Prop := (dn = (0, false) ∧ up = (MAXB + 9223372036854775808, true) ∧ z ≤ fz (MAXB + 9223372036854775808) ∧ (nr = (0, false) ∨ nr = (MAXB + 9223372036854775808, true)))
def BetExact (z : Int) (dn up nr : Nat × Bool) : Prop := ∃ u, dn = (u, true) ∧ up = (u, true) ∧ nr = (u, true) ∧ fz u = z ∧ Num1 u
def BetIn (z : Int) (dn up nr : Nat × Bool) : Prop := ∃ a b, dn = (a, true) ∧ up = (b, true) ∧ nr = (nearOf z a b, true) ∧ fz a < z ∧ z < fz b ∧ a ≠ b ∧ Num1 a ∧ Num1 b ∧ roundS 1 (some (fz a + STEP)) = (b, true)
theorem numB_most : numB false 9007199254740991 3183 = MAXB ∧ numB true 9007199254740991 3183 = MAXB + 9223372036854775808 := by decide
theorem fz_most : fz MAXB = (MOST : Int) ∧ fz (MAXB + 9223372036854775808) = -(MOST : Int) := by
  rw [← numB_most.2, ← numB_most.1]
  have h : ∀ (e : Nat) (neg : Bool), e = 3183 → fz (numB neg 9007199254740991 e) = sgn neg (9007199254740991 * 2 ^ e) := fun e neg he => (numB_facts neg 9007199254740991 e (by decide) (by omega) (by omega) (fun _ => by decide) (Or.inr (by decide))).2.2.2.2
  have h1 := h expM false rfl
  have h2 := h expM true rfl
  exact ⟨h1, h2⟩
theorem upN_cases (M k r q : Nat) (hk : 1138 ≤ k) (hr : M % 2 ^ k = r) (hq : M / 2 ^ k = q) :
    (2 * r < 2 ^ k → upN M k = false) ∧ (2 ^ k < 2 * r → upN M k = true) ∧ (2 * r = 2 ^ k → upN M k = (q % 2 == 1)) := by
  have h2 : 2 ^ k = 2 * 2 ^ (k - 1) := by rw [← Nat.pow_succ']; congr 1; omega
  unfold upN
  rw [hr, hq, h2]
  generalize 2 ^ (k - 1) = T
  refine ⟨fun h => ?_, fun h => ?_, fun h => ?_⟩
  · rw [decide_eq_false (by omega), beq_eq_false_iff_ne.2 (by omega)]; rfl
  · rw [decide_eq_true (by omega)]; rfl
  · rw [decide_eq_false (by omega), beq_iff_eq.2 (show r = T by omega)]; rfl
theorem par_odd {q : Nat} (h : q % 2 = 1) : ¬ (q + 1) % 2 = 1 := by omega
theorem par_even {q : Nat} (h : ¬ q % 2 = 1) : (q + 1) % 2 = 1 := by omega
theorem near_pos (M X T r : Nat) (h : M = X + r) (hr : r < T) :
    (2 * r < T → (M : Int) - (X : Int) < ((X + T : Nat) : Int) - (M : Int)) ∧ (¬ 2 * r < T → ¬ (M : Int) - (X : Int) < ((X + T : Nat) : Int) - (M : Int)) ∧
    (T < 2 * r → ((X + T : Nat) : Int) - (M : Int) < (M : Int) - (X : Int)) ∧ (¬ T < 2 * r → ¬ ((X + T : Nat) : Int) - (M : Int) < (M : Int) - (X : Int)) ∧
    (0 < r → (X : Int) < (M : Int)) ∧ (M : Int) < ((X + T : Nat) : Int) ∧ ((X : Nat) : Int) ≠ ((X + T : Nat) : Int) := by
  refine ⟨fun a => ?_, fun a => ?_, fun a => ?_, fun a => ?_, fun a => ?_, ?_, ?_⟩ <;> omega
theorem near_neg (M X T r : Nat) (h : M = X + r) (hr : r < T) :
    (2 * r < T → -(X : Int) - -(M : Int) < -(M : Int) - -((X + T : Nat) : Int)) ∧ (¬ 2 * r < T → ¬ -(X : Int) - -(M : Int) < -(M : Int) - -((X + T : Nat) : Int)) ∧
    (T < 2 * r → -(M : Int) - -((X + T : Nat) : Int) < -(X : Int) - -(M : Int)) ∧ (¬ T < 2 * r → ¬ -(M : Int) - -((X + T : Nat) : Int) < -(X : Int) - -(M : Int)) ∧
    (0 < r → -(M : Int) < -(X : Int)) ∧ -((X + T : Nat) : Int) < -(M : Int) ∧ -((X : Nat) : Int) ≠ -((X + T : Nat) : Int) := by
  refine ⟨fun a => ?_, fun a => ?_, fun a => ?_, fun a => ?_, fun a => ?_, ?_, ?_⟩ <;> omega
theorem step_neg (X T st : Nat) (h : st < T) : -((X + T : Nat) : Int) + (st : Int) = -((X + (T - st) : Nat) : Int) := by omega
theorem step_pos (X st : Nat) : ((X : Nat) : Int) + (st : Int) = ((X + st : Nat) : Int) := by omega
theorem roundS_zero (d : Int) (h : ¬ (d < 0 ∨ 2 < d)) : roundS d (some 0) = (0, true) := by
  show toldB d (decide ((0 : Int) < 0)) (0 : Int).natAbs = _
  rw [show (0 : Int).natAbs = 0 from rfl]
  exact toldB_zero d _ h
theorem mul_succ_pow (q k : Nat) : (q + 1) * 2 ^ k = q * 2 ^ k + 2 ^ k := by rw [Nat.add_mul, Nat.one_mul]
theorem bet_pos (M : Nat) (hM : 0 < M) : BetOver M (roundS 2 (some (M : Int))) (roundS 1 (some (M : Int))) (roundS 0 (some (M : Int))) ∨ BetExact M (roundS 2 (some (M : Int))) (roundS 1 (some (M : Int))) (roundS 0 (some (M : Int))) ∨ BetIn M (roundS 2 (some (M : Int))) (roundS 1 (some (M : Int))) (roundS 0 (some (M : Int))) := by
  obtain ⟨k, hk⟩ : ∃ k, shiftOf M = k := ⟨_, rfl⟩
  obtain ⟨q, hq⟩ : ∃ q, M / 2 ^ k = q := ⟨_, rfl⟩
  obtain ⟨r, hr⟩ : ∃ r, M % 2 ^ k = r := ⟨_, rfl⟩
  obtain ⟨hMe, hrl, hq1, hk0, hq2, hcase, hup⟩ := mag_told false M k q r hM hk hq hr
  have hM0 : M ≠ 0 := by omega
  rw [roundS_pos _ M hM, roundS_pos _ M hM, roundS_pos _ M hM, toldB_far 2 false M hM0 (Or.inr rfl), toldB_far 1 false M hM0 (Or.inl rfl), toldB_near false M hM0, hk, hq,
    show (((2 : Int) == 1) != false) = false from rfl, show (((1 : Int) == 1) != false) = true from rfl, upF_true, upF_false, hr, Bool.toNat_false, Nat.add_zero]
  rcases hcase with ⟨c1, c2, c3, c4⟩ | ⟨c1, c2, c3, c4, c5⟩
  · left
    rw [c1, c2, numB_most.1]
    refine ⟨rfl, rfl, ?_, ?_⟩
    · rw [fz_most.1]; exact Int.ofNat_le.2 c3
    · rcases c4 with c4 | c4
      · exact Or.inl c4
      · exact Or.inr (by rw [c4, numB_most.1])
  · right
    rw [c1, c2, c3]
    by_cases h0 : 0 < r
    · right
      rw [decide_eq_true h0, Bool.toNat_true] at *
      obtain ⟨a1, a2, a3, a4, a5⟩ := numB_facts false q k (by omega) hk0 c4 (fun e => by have := c5 e; omega) hq2
      obtain ⟨b1, b2, b3, b4, b5⟩ := numB_facts false (q + 1) k (by omega) hk0 c4 c5 (by omega)
      have ha : fz (numB false q k) = ((q * 2 ^ k : Nat) : Int) := a5
      have hb : fz (numB false (q + 1) k) = ((q * 2 ^ k + 2 ^ k : Nat) : Int) := by rw [b5, mul_succ_pow]; rfl
      have hst := STEP_lt k hk0
      have hst0 := STEP_pos
      obtain ⟨n1, n2, n3, n4, n5, n6, n7⟩ := near_pos M (q * 2 ^ k) (2 ^ k) r hMe hrl
      refine ⟨numB false q k, numB false (q + 1) k, rfl, rfl, ?_, ?_, ?_, ?_, ⟨a1, a2, a3⟩, ⟨b1, b2, b3⟩, ?_⟩
      · refine congrArg (fun x => (x, true)) ?_
        obtain ⟨u1, u2, u3⟩ := upN_cases M k r q hk0 hr hq
        unfold nearOf
        rw [ha, hb]
        by_cases e1 : 2 * r < 2 ^ k
        · rw [u1 e1, if_pos (n1 e1), Bool.toNat_false, Nat.add_zero]
        · by_cases e2 : 2 ^ k < 2 * r
          · rw [u2 e2, if_neg (n2 e1), if_pos (n3 e2), Bool.toNat_true]
          · rw [u3 (Nat.le_antisymm (Nat.not_lt.1 e2) (Nat.not_lt.1 e1)), if_neg (n2 e1), if_neg (n4 e2), a4]
            by_cases e3 : q % 2 = 1
            · rw [if_pos e3, beq_iff_eq.2 e3, Bool.toNat_true]
            · rw [if_neg e3, beq_eq_false_iff_ne.2 e3, Bool.toNat_false, Nat.add_zero]
      · rw [ha]; exact n5 h0
      · rw [hb]; exact n6
      · intro e
        have := congrArg fz e
        rw [ha, hb] at this
        exact n7 this
      · rw [ha]
        have hs := shift_split q k STEP hst hk0 hq1 hq2
        obtain ⟨d1, d2⟩ := div_split q k STEP hst
        have hpos : 0 < q * 2 ^ k + STEP := Nat.add_pos_right _ hst0
        rw [step_pos, roundS_pos 1 _ hpos, toldB_far 1 false _ (Nat.pos_iff_ne_zero.1 hpos) (Or.inl rfl), hs, d1, show (((1 : Int) == 1) != false) = true from rfl, upF_true, d2, decide_eq_true hst0]
        exact c1
    · left
      have hr0 : r = 0 := by omega
      subst hr0
      rw [decide_eq_false h0, Bool.toNat_false, Nat.add_zero] at *
      obtain ⟨a1, a2, a3, a4, a5⟩ := numB_facts false q k (by omega) hk0 c4 c5 hq2
      refine ⟨numB false q k, rfl, rfl, ?_, ?_, a1, a2, a3⟩
      · rw [show (upN M k).toNat = 0 by omega, Nat.add_zero]
      · rw [a5]
        show ((q * 2 ^ k : Nat) : Int) = _
        omega
theorem bet_neg (M : Nat) (hM : 0 < M) : BetUnder (-(M : Int)) (roundS 2 (some (-(M : Int)))) (roundS 1 (some (-(M : Int)))) (roundS 0 (some (-(M : Int)))) ∨ BetExact (-(M : Int)) (roundS 2 (some (-(M : Int)))) (roundS 1 (some (-(M : Int)))) (roundS 0 (some (-(M : Int)))) ∨ BetIn (-(M : Int)) (roundS 2 (some (-(M : Int)))) (roundS 1 (some (-(M : Int)))) (roundS 0 (some (-(M : Int)))) := by
  obtain ⟨k, hk⟩ : ∃ k, shiftOf M = k := ⟨_, rfl⟩
  obtain ⟨q, hq⟩ : ∃ q, M / 2 ^ k = q := ⟨_, rfl⟩
  obtain ⟨r, hr⟩ : ∃ r, M % 2 ^ k = r := ⟨_, rfl⟩
  obtain ⟨hMe, hrl, hq1, hk0, hq2, hcase, hup⟩ := mag_told true M k q r hM hk hq hr
  have hM0 : M ≠ 0 := by omega
  rw [roundS_neg _ M hM, roundS_neg _ M hM, roundS_neg _ M hM, toldB_far 2 true M hM0 (Or.inr rfl), toldB_far 1 true M hM0 (Or.inl rfl), toldB_near true M hM0, hk, hq,
    show (((2 : Int) == 1) != true) = true from rfl, show (((1 : Int) == 1) != true) = false from rfl, upF_true, upF_false, hr, Bool.toNat_false, Nat.add_zero]
  rcases hcase with ⟨c1, c2, c3, c4⟩ | ⟨c1, c2, c3, c4, c5⟩
  · left
    rw [c1, c2, numB_most.2]
    refine ⟨rfl, rfl, ?_, ?_⟩
    · rw [fz_most.2]
      omega
    · rcases c4 with c4 | c4
      · exact Or.inl c4
      · exact Or.inr (by rw [c4, numB_most.2])
  · right
    rw [c1, c2, c3]
    by_cases h0 : 0 < r
    · right
      rw [decide_eq_true h0, Bool.toNat_true] at *
      obtain ⟨a1, a2, a3, a4, a5⟩ := numB_facts true q k (by omega) hk0 c4 (fun e => by have := c5 e; omega) hq2
      obtain ⟨b1, b2, b3, b4, b5⟩ := numB_facts true (q + 1) k (by omega) hk0 c4 c5 (by omega)
      have ha : fz (numB true q k) = -((q * 2 ^ k : Nat) : Int) := a5
      have hb : fz (numB true (q + 1) k) = -((q * 2 ^ k + 2 ^ k : Nat) : Int) := by rw [b5, mul_succ_pow]; rfl
      have hst := STEP_lt k hk0
      have hst0 := STEP_pos
      obtain ⟨n1, n2, n3, n4, n5, n6, n7⟩ := near_neg M (q * 2 ^ k) (2 ^ k) r hMe hrl
      refine ⟨numB true (q + 1) k, numB true q k, rfl, rfl, ?_, ?_, ?_, ?_, ⟨b1, b2, b3⟩, ⟨a1, a2, a3⟩, ?_⟩
      · refine congrArg (fun x => (x, true)) ?_
        obtain ⟨u1, u2, u3⟩ := upN_cases M k r q hk0 hr hq
        unfold nearOf
        rw [ha, hb]
        by_cases e1 : 2 * r < 2 ^ k
        · by_cases e2 : 2 ^ k < 2 * r
          · exact absurd e1 (Nat.lt_asymm e2)
          · rw [u1 e1, if_neg (n4 e2), if_pos (n1 e1), Bool.toNat_false, Nat.add_zero]
        · by_cases e2 : 2 ^ k < 2 * r
          · rw [u2 e2, if_pos (n3 e2), Bool.toNat_true]
          · rw [u3 (Nat.le_antisymm (Nat.not_lt.1 e2) (Nat.not_lt.1 e1)), if_neg (n4 e2), if_neg (n2 e1), b4]
            by_cases e3 : q % 2 = 1
            · rw [if_neg (par_odd e3), beq_iff_eq.2 e3, Bool.toNat_true]
            · rw [if_pos (par_even e3), beq_eq_false_iff_ne.2 e3, Bool.toNat_false, Nat.add_zero]
      · rw [hb]; exact n6
      · rw [ha]; exact n5 h0
      · intro e
        have := congrArg fz e
        rw [ha, hb] at this
        exact n7 this.symm
      · rw [hb]
        have hsub : 2 ^ k - STEP < 2 ^ k := Nat.sub_lt (Nat.two_pow_pos k) hst0
        have hsub0 : 0 < 2 ^ k - STEP := Nat.sub_pos_of_lt hst
        have hs := shift_split q k (2 ^ k - STEP) hsub hk0 hq1 hq2
        obtain ⟨d1, d2⟩ := div_split q k (2 ^ k - STEP) hsub
        have hpos : 0 < q * 2 ^ k + (2 ^ k - STEP) := Nat.add_pos_right _ hsub0
        rw [step_neg _ _ _ hst, roundS_neg 1 _ hpos, toldB_far 1 true _ (Nat.pos_iff_ne_zero.1 hpos) (Or.inl rfl), hs, d1, show (((1 : Int) == 1) != true) = false from rfl, upF_false, Bool.toNat_false, Nat.add_zero]
        exact c2
    · left
      have hr0 : r = 0 := by omega
      subst hr0
      rw [decide_eq_false h0, Bool.toNat_false, Nat.add_zero] at *
      obtain ⟨a1, a2, a3, a4, a5⟩ := numB_facts true q k (by omega) hk0 c4 c5 hq2
      refine ⟨numB true q k, rfl, rfl, ?_, ?_, a1, a2, a3⟩
      · rw [show (upN M k).toNat = 0 by omega, Nat.add_zero]
      · rw [a5]
        show -((q * 2 ^ k : Nat) : Int) = _
        omega
theorem bet_any (z : Int) : BetOver z (roundS 2 (some z)) (roundS 1 (some z)) (roundS 0 (some z)) ∨ BetUnder z (roundS 2 (some z)) (roundS 1 (some z)) (roundS 0 (some z)) ∨ BetExact z (roundS 2 (some z)) (roundS 1 (some z)) (roundS 0 (some z)) ∨ BetIn z (roundS 2 (some z)) (roundS 1 (some z)) (roundS 0 (some z)) := by
  rcases Int.lt_trichotomy z 0 with h | h | h
  · obtain ⟨M, hM⟩ : ∃ M : Nat, z = -(M : Int) := ⟨z.natAbs, by omega⟩
    subst hM
    exact Or.inr (bet_neg M (by omega))
  · subst h
    refine Or.inr (Or.inr (Or.inl ⟨0, ?_, ?_, ?_, ?_, ?_⟩))
    · exact roundS_zero 2 (by decide)
    · exact roundS_zero 1 (by decide)
    · exact roundS_zero 0 (by decide)
    · unfold fz
      rw [show sig 0 = 0 by decide, Nat.zero_mul]
      rfl
    · exact ⟨by decide, by decide, by decide⟩
  · obtain ⟨M, hM⟩ : ∃ M : Nat, z = (M : Int) := ⟨z.natAbs, by omega⟩
    subst hM
    rcases bet_pos M (by omega) with h | h | h
    · exact Or.inl h
    · exact Or.inr (Or.inr (Or.inl h))
    · exact Or.inr (Or.inr (Or.inr h))
end Go.Proofs.YtpfbgenefjhcjaaGreatDoor
namespace Go.Proofs.YtpfbgenefjhcjaaGreatDoor
set_option linter.unusedVariables false
set_option linter.unusedSimpArgs false
open Go Go.RowKit
set_option maxRecDepth 100000
theorem signed_sgn (s : Bool) (m k : Nat) : Ieee.signed s m k = sgn s (m * 2 ^ k) := by
  unfold Ieee.signed sgn
  rw [Nat.shiftLeft_eq]
theorem read_num (u : Nat) (hu : u < B64) (he : fexp u ≠ 2047) : Ieee.double.read u = .number (fneg u) (sig u) (pwr u) := by
  have h1 : Ieee.double.signWeight = 9223372036854775808 := by decide
  have h2 : Ieee.double.infRung = 9218868437227405312 := by decide
  have h3 : Ieee.double.binade = 4503599627370496 := by decide
  have h4 : Ieee.double.leastPlace = -1074 := by decide
  have hr : u % 9223372036854775808 < 9218868437227405312 := by
    unfold fexp at he
    omega
  have hn : (u / 9223372036854775808 % 2 == 1) = fneg u := by
    unfold fneg B64 at *
    rw [Bool.eq_iff_iff, beq_iff_eq, beq_iff_eq]
    omega
  unfold Ieee.Format.read
  simp only [h1, h2, h3, h4, hn]
  by_cases hb : u % 9223372036854775808 < 4503599627370496
  · have e0 : fexp u = 0 := by unfold fexp; omega
    rw [if_pos hb]
    unfold sig pwr
    rw [if_pos e0, if_pos e0]
    congr 1
    unfold fman
    omega
  · have e0 : ¬ fexp u = 0 := by unfold fexp; omega
    rw [if_neg hb, if_pos hr]
    unfold sig pwr
    rw [if_neg e0, if_neg e0]
    congr 1
    · unfold fman; omega
    · unfold fexp at *; omega
theorem compare_mul (x y : Int) (p : Nat) (hp : 0 < p) : compare (x * p) (y * p) = compare x y := by
  have hp' : (0 : Int) < p := by omega
  rcases Int.lt_trichotomy x y with h | h | h
  · rw [Int.compare_eq_lt.2 h, Int.compare_eq_lt.2 (Int.mul_lt_mul_of_pos_right h hp')]
  · rw [h]; simp
  · rw [Int.compare_eq_gt.2 h, Int.compare_eq_gt.2 (Int.mul_lt_mul_of_pos_right h hp')]
theorem sgn_mul (s : Bool) (m p : Nat) : sgn s (m * p) = sgn s m * p := by
  unfold sgn
  cases s <;> simp [Int.neg_mul]
theorem order_fz (a b : Nat) (ha : a < B64) (hb : b < B64) (ea : fexp a ≠ 2047) (eb : fexp b ≠ 2047) : FloatKind.f64.format.order a b = some (compare (fz a) (fz b)) := by
  show (Ieee.double.read a).order (Ieee.double.read b) = _
  rw [read_num a ha ea, read_num b hb eb]
  show some (compare (Ieee.signed (fneg a) (sig a) (pwr a - min (pwr a) (pwr b)).toNat) (Ieee.signed (fneg b) (sig b) (pwr b - min (pwr a) (pwr b)).toNat)) = _
  have p1 := pwr_ge a
  have p2 := pwr_ge b
  congr 1
  obtain ⟨m, hm⟩ : ∃ m, min (pwr a) (pwr b) = m := ⟨_, rfl⟩
  have hm1 : m ≤ pwr a ∧ m ≤ pwr b ∧ -1074 ≤ m := by omega
  rw [hm, signed_sgn, signed_sgn, ← compare_mul _ _ (2 ^ (m + 2212).toNat) (Nat.two_pow_pos _), ← sgn_mul, ← sgn_mul, Nat.mul_assoc, Nat.mul_assoc, ← Nat.pow_add, ← Nat.pow_add]
  unfold fz
  rw [show (pwr a - m).toNat + (m + 2212).toNat = (pwr a + 2212).toNat by omega, show (pwr b - m).toNat + (m + 2212).toNat = (pwr b + 2212).toNat by omega]
theorem order_eq_iff (a b : Nat) (ha : a < B64) (hb : b < B64) (ea : fexp a ≠ 2047) (eb : fexp b ≠ 2047) : (FloatKind.f64.format.order a b == some .eq) = decide (fz a = fz b) := by
  rw [order_fz a b ha hb ea eb]
  rcases Int.lt_trichotomy (fz a) (fz b) with h | h | h
  · rw [Int.compare_eq_lt.2 h, decide_eq_false (by omega)]; rfl
  · rw [h]; simp
  · rw [Int.compare_eq_gt.2 h, decide_eq_false (by omega)]; rfl
theorem order_gt_iff (a b : Nat) (ha : a < B64) (hb : b < B64) (ea : fexp a ≠ 2047) (eb : fexp b ≠ 2047) : (FloatKind.f64.format.order a b == some .gt) = decide (fz b < fz a) := by
  rw [order_fz a b ha hb ea eb]
  rcases Int.lt_trichotomy (fz a) (fz b) with h | h | h
  · rw [Int.compare_eq_lt.2 h, decide_eq_false (by omega)]; rfl
  · rw [h]; simp
  · rw [Int.compare_eq_gt.2 h, decide_eq_true h]; rfl
theorem fz_prod (u : Nat) : prodZ u ONE 0 = fz u := by
  unfold prodZ fz
  rw [prodQ_one, show fneg ONE = false by decide]
  unfold sgn
  cases fneg u <;> rfl
theorem round_fz (d : Int) (u : Nat) (hu : u < B64) (he : fexp u ≠ 2047) (h0 : 0 ≤ d) (h2 : d ≤ 2) : roundS d (some (fz u)) = (canon u, true) := by
  rw [← round_one d u hu he h0 h2, sum_one u hu he, fz_prod]
theorem fz_inj (a b : Nat) (ha : Num1 a) (hb : Num1 b) (h : fz a = fz b) : a = b := by
  have h1 := round_fz 0 a ha.2.1 ha.1 (by decide) (by decide)
  rw [h, round_fz 0 b hb.2.1 hb.1 (by decide) (by decide)] at h1
  injection h1 with h1
  unfold canon at h1
  rw [if_neg ha.2.2, if_neg hb.2.2] at h1
  exact h1.symm
end Go.Proofs.YtpfbgenefjhcjaaGreatDoor
namespace Go.Proofs.YtpfbgenefjhcjaaGreatDoor
set_option linter.unusedVariables false
set_option linter.unusedSimpArgs false
open Go Go.RowKit
set_option maxRecDepth 100000
/-- A zonotope by its numbers' bits. -/
structure ZD where
  n : Int
  c : List Nat
  ids : List Int
  g : List (List Nat)
  r : List Nat
  bad : Bool
def isNum (u : Nat) : Bool := fexp u != 2047
def rowD (us : List Nat) (n : Int) : Bool := us.all isNum && (us.length : Int) == n
def neg0 (u : Nat) : Bool := decide (fz u < 0)
def idOk (ids : List Int) (k : Nat) : Bool := decide (0 ≤ ids.getD k 0) && decide (ids.getD k 0 ≤ 1073741824) && (k == 0 || decide (ids.getD (k - 1) 0 < ids.getD k 0))
def colOk (z : ZD) (k : Nat) : Bool := idOk z.ids k && rowD (z.g.getD k []) z.n
def headD (z : ZD) : Bool := !z.bad && decide (1 ≤ z.n) && decide (z.n ≤ 256) && rowD z.c z.n && rowD z.r z.n && z.ids.length == z.g.length
def goodD (z : ZD) : Bool := headD z && z.r.all (fun u => !neg0 u) && (List.range z.ids.length).all (colOk z)
def lostD (z : ZD) : Bool := z.bad && decide (0 ≤ z.n) && decide (z.n ≤ 256) && z.c.length == 0 && z.ids.length == 0 && z.g.length == 0 && z.r.length == 0
def lostZ (n : Int) : ZD := ⟨n, [], [], [], [], true⟩
def sizeD (z : ZD) : Int := if goodD z || lostD z then z.n else 0
structure Good (z : ZD) : Prop where
  bad : z.bad = false
  n1 : 1 ≤ z.n
  n2 : z.n ≤ 256
  c : rowD z.c z.n = true
  r : rowD z.r z.n = true
  len : z.ids.length = z.g.length
  pos : ∀ u ∈ z.r, neg0 u = false
  col : ∀ k, k < z.ids.length → colOk z k = true
theorem goodD_iff (z : ZD) : goodD z = true ↔ Good z := by
  unfold goodD headD
  simp only [Bool.and_eq_true, Bool.not_eq_true', decide_eq_true_eq, beq_iff_eq, List.all_eq_true, List.mem_range]
  constructor
  · rintro ⟨⟨⟨⟨⟨⟨⟨h1, h2⟩, h3⟩, h4⟩, h5⟩, h6⟩, h7⟩, h8⟩
    exact ⟨h1, h2, h3, h4, h5, h6, h7, h8⟩
  · rintro ⟨h1, h2, h3, h4, h5, h6, h7, h8⟩
    exact ⟨⟨⟨⟨⟨⟨⟨h1, h2⟩, h3⟩, h4⟩, h5⟩, h6⟩, h7⟩, h8⟩
theorem rowD_iff (us : List Nat) (n : Int) : rowD us n = true ↔ (∀ u ∈ us, fexp u ≠ 2047) ∧ (us.length : Int) = n := by
  unfold rowD isNum
  simp [List.all_eq_true]
theorem Good.lenC {z : ZD} (h : Good z) : (z.c.length : Int) = z.n := ((rowD_iff _ _).1 h.c).2
theorem Good.lenR {z : ZD} (h : Good z) : (z.r.length : Int) = z.n := ((rowD_iff _ _).1 h.r).2
theorem Good.numC {z : ZD} (h : Good z) : ∀ u ∈ z.c, fexp u ≠ 2047 := ((rowD_iff _ _).1 h.c).1
theorem Good.numR {z : ZD} (h : Good z) : ∀ u ∈ z.r, fexp u ≠ 2047 := ((rowD_iff _ _).1 h.r).1
theorem Good.colG {z : ZD} (h : Good z) (k : Nat) (g : List Nat) (hg : z.g[k]? = some g) : (∀ u ∈ g, fexp u ≠ 2047) ∧ (g.length : Int) = z.n := by
  have hk := (List.getElem?_eq_some_iff.1 hg).1
  have h1 := h.col k (by rw [h.len]; exact hk)
  unfold colOk at h1
  rw [Bool.and_eq_true] at h1
  have h2 := h1.2
  rw [List.getD_eq_getElem?_getD, hg, Option.getD_some] at h2
  exact (rowD_iff _ _).1 h2
theorem Good.idk {z : ZD} (h : Good z) (k : Nat) (i : Int) (hi : z.ids[k]? = some i) : 0 ≤ i ∧ i ≤ 1073741824 ∧ ∀ j, k = j + 1 → ∀ i', z.ids[j]? = some i' → i' < i := by
  have hk := (List.getElem?_eq_some_iff.1 hi).1
  have h1 := h.col k hk
  unfold colOk idOk at h1
  simp only [Bool.and_eq_true, Bool.or_eq_true, decide_eq_true_eq, beq_iff_eq] at h1
  obtain ⟨⟨⟨h2, h3⟩, h4⟩, _⟩ := h1
  have hg : z.ids.getD k 0 = i := by rw [List.getD_eq_getElem?_getD, hi, Option.getD_some]
  rw [hg] at h2 h3 h4
  refine ⟨h2, h3, fun j hj i' hi' => ?_⟩
  subst hj
  rcases h4 with h4 | h4
  · omega
  · rw [Nat.add_sub_cancel, List.getD_eq_getElem?_getD, hi', Option.getD_some] at h4
    exact h4
theorem Good.idge {z : ZD} (h : Good z) : ∀ (k : Nat) (i : Int), z.ids[k]? = some i → (k : Int) ≤ i := by
  intro k
  induction k with
  | zero => intro i hi; have := (h.idk 0 i hi).1; omega
  | succ k ih =>
    intro i hi
    have hk := (List.getElem?_eq_some_iff.1 hi).1
    have h0 : z.ids[k]? = some z.ids[k] := List.getElem?_eq_getElem (by omega)
    have h1 := ih _ h0
    have h2 := (h.idk (k + 1) i hi).2.2 k rfl _ h0
    omega
/-- A good one has no more columns than there are Ids. -/
theorem Good.cols {z : ZD} (h : Good z) : z.g.length ≤ 1073741825 := by
  rw [← h.len]
  rcases Nat.lt_or_ge 1073741825 z.ids.length with hlt | hge
  · have h0 : z.ids[1073741825]? = some z.ids[1073741825] := List.getElem?_eq_getElem (by omega)
    have h1 := h.idge _ _ h0
    have h2 := (h.idk _ _ h0).2.1
    omega
  · exact hge
/-! ### Reals -/
def expF : Nat := 3236
def FB : Nat := 2 ^ expF
def expP : Nat := 4260
def PB : Nat := 2 ^ expP
theorem fz_natAbs (u : Nat) : (fz u).natAbs = sig u * 2 ^ (pwr u + 2212).toNat := by unfold fz; rw [sgn_natAbs]
theorem fz_lt (u : Nat) (he : fexp u ≠ 2047) : (fz u).natAbs < FB := by
  rw [fz_natAbs]
  have h1 := sig_lt u
  have h2 := pwr_le u he
  have h3 := pwr_ge u
  have h4 : sig u * 2 ^ (pwr u + 2212).toNat < 9007199254740992 * 2 ^ (pwr u + 2212).toNat := Nat.mul_lt_mul_of_pos_right h1 (Nat.two_pow_pos _)
  refine Nat.lt_of_lt_of_le h4 ?_
  rw [show (9007199254740992 : Nat) = 2 ^ 53 by rfl, ← Nat.pow_add]
  exact Nat.pow_le_pow_right (by decide) (by unfold expF; omega)
theorem prodZ_natAbs (u v : Nat) : (prodZ u v 0).natAbs = prodQ u v 0 := by unfold prodZ; split <;> omega
theorem prodZ_lt (u v : Nat) (eu : fexp u ≠ 2047) (ev : fexp v ≠ 2047) : (prodZ u v 0).natAbs < PB := by
  rw [prodZ_natAbs]
  unfold prodQ
  have h1 := sig_lt u
  have h2 := sig_lt v
  have h3 := pwr_le u eu
  have h4 := pwr_le v ev
  have h5 := pwr_ge u
  have h6 := pwr_ge v
  have h7 : sig u * sig v < 9007199254740992 * 9007199254740992 := Nat.mul_lt_mul'' h1 h2
  refine Nat.lt_of_lt_of_le (Nat.mul_lt_mul_of_pos_right h7 (Nat.two_pow_pos _)) ?_
  rw [show (9007199254740992 * 9007199254740992 : Nat) = 2 ^ 106 by rfl, ← Nat.pow_add]
  exact Nat.pow_le_pow_right (by decide) (by unfold expP; omega)
def absF (u : Nat) : Nat := u % 9223372036854775808
theorem absF_lt (u : Nat) : absF u < B64 := by unfold absF B64; omega
theorem absF_fexp (u : Nat) (hu : u < B64) : fexp (absF u) = fexp u := by unfold absF fexp B64 at *; omega
theorem absF_fman (u : Nat) (hu : u < B64) : fman (absF u) = fman u := by unfold absF fman B64 at *; omega
theorem absF_fneg (u : Nat) : fneg (absF u) = false := by unfold absF fneg; rw [beq_eq_false_iff_ne]; omega
theorem absF_sig (u : Nat) (hu : u < B64) : sig (absF u) = sig u := by unfold sig; rw [absF_fexp u hu, absF_fman u hu]
theorem absF_pwr (u : Nat) (hu : u < B64) : pwr (absF u) = pwr u := by unfold pwr; rw [absF_fexp u hu]
def zabs (z : Int) : Int := (z.natAbs : Int)
theorem absF_fz (u : Nat) (hu : u < B64) : fz (absF u) = zabs (fz u) := by
  unfold zabs
  rw [fz_natAbs]
  unfold fz sgn
  rw [absF_fneg, absF_sig u hu, absF_pwr u hu]
  rfl
def sumTo (f : Nat → Int) : Nat → Int
  | 0 => 0
  | n + 1 => sumTo f n + f n
theorem sumTo_bound (f : Nat → Int) (B : Nat) : ∀ n, (∀ i, i < n → (f i).natAbs ≤ B) → (sumTo f n).natAbs ≤ n * B := by
  intro n
  induction n with
  | zero => intro _; simp [sumTo]
  | succ n ih =>
    intro h
    have h1 := ih (fun i hi => h i (by omega))
    have h2 := h n (by omega)
    have h3 : (n + 1) * B = n * B + B := by rw [Nat.add_mul, Nat.one_mul]
    show (sumTo f n + f n).natAbs ≤ _
    omega
theorem sumTo_congr (f g : Nat → Int) : ∀ n, (∀ i, i < n → f i = g i) → sumTo f n = sumTo g n := by
  intro n
  induction n with
  | zero => intro _; rfl
  | succ n ih =>
    intro h
    show sumTo f n + f n = sumTo g n + g n
    rw [ih (fun i hi => h i (by omega)), h n (by omega)]
/-- The product of a direction and a list. -/
def dotZ (d l : List Nat) (n : Nat) : Int := sumTo (fun i => prodZ (d.getD i 0) (l.getD i 0) 0) n
def colZ (z : ZD) (k : Nat) : List Nat := z.g.getD k []
/-- How far a coordinate may go from the centre. -/
def reachZ (z : ZD) (i : Nat) : Int := fz (z.r.getD i 0) + sumTo (fun k => zabs (fz ((colZ z k).getD i 0))) z.g.length
/-- How far z reaches in a direction. -/
def supZ (z : ZD) (d : List Nat) : Int := dotZ d z.c z.n.toNat + sumTo (fun k => zabs (dotZ d (colZ z k) z.n.toNat)) z.g.length + sumTo (fun i => prodZ (absF (d.getD i 0)) (z.r.getD i 0) 0) z.n.toNat
def supD (z : ZD) (d : List Nat) : Nat × Bool := if goodD z && rowD d z.n then roundS 1 (some (supZ z d)) else (0, false)
/-- A span by its bits. -/
structure SD where
  lo : Nat
  hi : Nat
  bad : Bool
def spanD (lo hi : Int) : SD := if (roundS 2 (some lo)).2 && (roundS 1 (some hi)).2 then ⟨(roundS 2 (some lo)).1, (roundS 1 (some hi)).1, false⟩ else ⟨0, 0, true⟩
def bndD (z : ZD) (i : Nat) : SD := spanD (fz (z.c.getD i 0) - reachZ z i) (fz (z.c.getD i 0) + reachZ z i)
def bndsD (z : ZD) : List SD := if goodD z then (List.range z.n.toNat).map (bndD z) else []
/-! ### Bounds of these reals -/
theorem LIM_big (k e : Nat) (h : e + k ≤ 4700) : 2 ^ k * 2 ^ e < LIM := by
  obtain ⟨m, hm, hL⟩ := LIM_pow
  rw [hL, ← Nat.pow_add]
  exact Nat.pow_lt_pow_right (by decide) (by omega)
theorem FB_le_PB : FB ≤ PB := Nat.pow_le_pow_right (by decide) (by unfold expF expP; omega)
theorem getD_num (us : List Nat) (h : ∀ u ∈ us, fexp u ≠ 2047) (i : Nat) : fexp (us.getD i 0) ≠ 2047 := by
  rw [List.getD_eq_getElem?_getD]
  cases hi : us[i]? with
  | none => decide
  | some u => exact h u (List.mem_of_getElem? hi)
theorem dotZ_bound (d l : List Nat) (n : Nat) (hd : ∀ u ∈ d, fexp u ≠ 2047) (hl : ∀ u ∈ l, fexp u ≠ 2047) : (dotZ d l n).natAbs ≤ n * PB :=
  sumTo_bound _ _ _ fun i _ => Nat.le_of_lt (prodZ_lt _ _ (getD_num d hd i) (getD_num l hl i))
theorem Good.colNum {z : ZD} (h : Good z) (k : Nat) : ∀ u ∈ colZ z k, fexp u ≠ 2047 := by
  unfold colZ
  rw [List.getD_eq_getElem?_getD]
  cases hg : z.g[k]? with
  | none => simp
  | some g => exact (h.colG k g hg).1
theorem zabs_natAbs (z : Int) : (zabs z).natAbs = z.natAbs := by unfold zabs; omega
theorem sums_lt (a b : Nat) (h : a ≤ 4398046511104 * PB) (hb : b ≤ a) : b < LIM := by
  have h1 : expP + 42 ≤ 4700 := by unfold expP; omega
  have h2 := LIM_big 42 expP h1
  unfold PB at h
  rw [show (4398046511104 : Nat) = 2 ^ 42 by rfl] at h
  generalize 2 ^ 42 * 2 ^ expP = T at *
  omega
theorem reach_bound {z : ZD} (h : Good z) (i K : Nat) (hK : K ≤ z.g.length) : (fz (z.r.getD i 0) + sumTo (fun k => zabs (fz ((colZ z k).getD i 0))) K).natAbs ≤ (1 + K) * FB := by
  have h1 := fz_lt _ (getD_num z.r h.numR i)
  have h2 := sumTo_bound (fun k => zabs (fz ((colZ z k).getD i 0))) FB K fun k _ => by
    rw [zabs_natAbs]; exact Nat.le_of_lt (fz_lt _ (getD_num _ (h.colNum k) i))
  have h3 : (1 + K) * FB = FB + K * FB := by rw [Nat.add_mul, Nat.one_mul]
  omega
/-- A few of them together stay within what an Acc holds. -/
theorem few_lt (s K : Nat) (hK : K ≤ 4398046511104) (h : s ≤ K * PB) : s < LIM := by
  refine sums_lt (K * PB) s ?_ h
  exact Nat.mul_le_mul_right _ hK
theorem few_ltF (s K : Nat) (hK : K ≤ 4398046511104) (h : s ≤ K * FB) : s < LIM := few_lt s K hK (Nat.le_trans h (Nat.mul_le_mul_left _ FB_le_PB))
theorem LIM_W : LIM < W32 ^ 400 := by
  obtain ⟨m, hm, hL⟩ := LIM_pow
  have h400 : ∃ n, n = 400 := ⟨400, rfl⟩
  obtain ⟨n, hn⟩ := h400
  rw [← hn, hL, W32_two]
  exact Nat.pow_lt_pow_right (by decide) (by omega)
theorem few_W (s K : Nat) (hK : K ≤ 4398046511104) (h : s ≤ K * PB) : s < W32 ^ 400 := Nat.lt_trans (few_lt s K hK h) LIM_W
theorem clip_some (z : Int) (h : z.natAbs < LIM) : clip z = some z := if_pos h
theorem addS_some (z : Int) (u : Nat) (he : fexp u ≠ 2047) (h : (z + fz u).natAbs < LIM) : addS (some z) u = some (z + fz u) := by
  unfold addS
  rw [prodS_some, if_neg (by simp [he]; decide), fz_prod]
  exact clip_some _ h
theorem prodS_good (z : Int) (u v : Nat) (eu : fexp u ≠ 2047) (ev : fexp v ≠ 2047) (h : (z + prodZ u v 0).natAbs < LIM) : prodS (some z) u v 0 = some (z + prodZ u v 0) := by
  rw [prodS_some, if_neg (by simp [eu, ev])]
  exact clip_some _ h
end Go.Proofs.YtpfbgenefjhcjaaGreatDoor
