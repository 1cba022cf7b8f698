/- What is told of one real down, up and near: the plain law. -/
import Derived.Test.YtopilodakphhgaaGreatDoorRefTerms
namespace Go.Proofs.YtopilodakphhgaaGreatDoor
set_option linter.unusedVariables false
set_option linter.unusedSimpArgs false
open Go Go.RowKit
set_option maxRecDepth 100000
/-- A float's real in the lowest bit's units. -/
def fz (u : Nat) : Int := sgn (fneg u) (sig u * 2 ^ (pwr u + 2212).toNat)
def expS : Nat := 1132
def STEP : Nat := 2 ^ expS
theorem STEP_pos : 0 < STEP := Nat.two_pow_pos _
theorem STEP_lt (k : Nat) (h : 1138 ≤ k) : STEP < 2 ^ k := Nat.pow_lt_pow_right (by decide) (by unfold expS; omega)
def expM : Nat := 3183
/-- The greatest float's real. -/
def MOST : Nat := 9007199254740991 * 2 ^ expM
/-- The greatest float. -/
def MAXB : Nat := 9218868437227405311
theorem numB_facts (neg : Bool) (Q n : Nat) (hQ : Q ≤ 9007199254740992) (hn : 1138 ≤ n) (h1 : n ≤ 3183) (h2 : n = 3183 → Q < 9007199254740992) (h3 : n = 1138 ∨ 4503599627370496 ≤ Q) :
    fexp (numB neg Q n) ≠ 2047 ∧ numB neg Q n < B64 ∧ numB neg Q n ≠ 9223372036854775808 ∧ numB neg Q n % 2 = Q % 2 ∧ fz (numB neg Q n) = sgn neg (Q * 2 ^ n) := by
  unfold numB
  by_cases h0 : Q = 0
  · subst h0
    rw [if_pos rfl]
    refine ⟨by decide, by decide, by decide, rfl, ?_⟩
    rw [Nat.zero_mul]
    have : fz 0 = 0 := by
      unfold fz
      rw [show sig 0 = 0 by decide, Nat.zero_mul]
      rfl
    rw [this]
    cases neg <;> rfl
  · rw [if_neg h0]
    obtain ⟨s, hs, hsv⟩ : ∃ s : Nat, (bif neg then 9223372036854775808 else 0) = s ∧ (s = 0 ∧ neg = false ∨ s = 9223372036854775808 ∧ neg = true) := by
      cases neg
      · exact ⟨0, rfl, Or.inl ⟨rfl, rfl⟩⟩
      · exact ⟨_, rfl, Or.inr ⟨rfl, rfl⟩⟩
    rw [hs]
    obtain ⟨j, hj⟩ : ∃ j, n - 1138 = j := ⟨_, rfl⟩
    rw [hj]
    have hjl : j ≤ 2045 := by omega
    have hb : Q + j * 4503599627370496 < 9218868437227405312 := by
      by_cases e : n = 3183
      · have := h2 e
        omega
      · omega
    have hneg : fneg (Q + j * 4503599627370496 + s) = neg := by
      unfold fneg
      rcases hsv with ⟨rfl, rfl⟩ | ⟨rfl, rfl⟩
      · rw [beq_eq_false_iff_ne]; omega
      · rw [beq_iff_eq]; omega
    refine ⟨?_, ?_, ?_, ?_, ?_⟩
    · unfold fexp
      rcases hsv with ⟨rfl, rfl⟩ | ⟨rfl, rfl⟩ <;> omega
    · unfold B64
      rcases hsv with ⟨rfl, rfl⟩ | ⟨rfl, rfl⟩ <;> omega
    · rcases hsv with ⟨rfl, rfl⟩ | ⟨rfl, rfl⟩ <;> omega
    · rcases hsv with ⟨rfl, rfl⟩ | ⟨rfl, rfl⟩ <;> omega
    · unfold fz
      rw [hneg]
      congr 1
      by_cases hlow : Q < 4503599627370496
      · have hn0 : n = 1138 := by omega
        have hj0 : j = 0 := by omega
        subst hj0
        have he : fexp (Q + 0 * 4503599627370496 + s) = 0 := by
          unfold fexp
          rcases hsv with ⟨rfl, rfl⟩ | ⟨rfl, rfl⟩ <;> omega
        have hm : fman (Q + 0 * 4503599627370496 + s) = Q := by
          unfold fman
          rcases hsv with ⟨rfl, rfl⟩ | ⟨rfl, rfl⟩ <;> omega
        unfold sig pwr
        rw [if_pos he, if_pos he, hm, show ((-1074 : Int) + 2212).toNat = n by omega]
      · by_cases htop : Q < 9007199254740992
        · have he : fexp (Q + j * 4503599627370496 + s) = j + 1 := by
            unfold fexp
            rcases hsv with ⟨rfl, rfl⟩ | ⟨rfl, rfl⟩ <;> omega
          have hm : fman (Q + j * 4503599627370496 + s) = Q - 4503599627370496 := by
            unfold fman
            rcases hsv with ⟨rfl, rfl⟩ | ⟨rfl, rfl⟩ <;> omega
          unfold sig pwr
          rw [if_neg (by omega), if_neg (by omega), hm, he, show Q - 4503599627370496 + 4503599627370496 = Q by omega, show (((j + 1 : Nat) : Int) - 1075 + 2212).toNat = n by omega]
        · have hQe : Q = 9007199254740992 := by omega
          have he : fexp (Q + j * 4503599627370496 + s) = j + 2 := by
            unfold fexp
            rcases hsv with ⟨rfl, rfl⟩ | ⟨rfl, rfl⟩ <;> omega
          have hm : fman (Q + j * 4503599627370496 + s) = 0 := by
            unfold fman
            rcases hsv with ⟨rfl, rfl⟩ | ⟨rfl, rfl⟩ <;> omega
          unfold sig pwr
          rw [if_neg (by omega), if_neg (by omega), hm, he, show (((j + 2 : Nat) : Int) - 1075 + 2212).toNat = n + 1 by omega, hQe, Nat.pow_succ]
          generalize 2 ^ n = T
          omega
theorem blen_mono {a b : Nat} (h : a ≤ b) : blen a ≤ blen b := blen_le a (blen b) (Nat.lt_of_le_of_lt h (isLen_blen b).1)
theorem blen_low (Q : Nat) (h : 0 < blen Q) : 2 ^ (blen Q - 1) ≤ Q := (isLen_blen Q).2 h
/-- What is told of M, upwards and towards 0 and near. -/
theorem mag_told (neg : Bool) (M k q r : Nat) (hM : 0 < M) (hk : shiftOf M = k) (hq : M / 2 ^ k = q) (hr : M % 2 ^ k = r) :
    M = q * 2 ^ k + r ∧ r < 2 ^ k ∧ q < 9007199254740992 ∧ 1138 ≤ k ∧ (k = 1138 ∨ 4503599627370496 ≤ q) ∧
    ((finishB true neg (q + (decide (0 < r)).toNat) k = (0, false) ∧ finishB false neg q k = (numB neg 9007199254740991 3183, true) ∧ MOST ≤ M ∧
        (finishB true neg (q + (upN M k).toNat) k = (0, false) ∨ finishB true neg (q + (upN M k).toNat) k = (numB neg 9007199254740991 3183, true))) ∨
     (finishB true neg (q + (decide (0 < r)).toNat) k = (numB neg (q + (decide (0 < r)).toNat) k, true) ∧ finishB false neg q k = (numB neg q k, true) ∧ finishB true neg (q + (upN M k).toNat) k = (numB neg (q + (upN M k).toNat) k, true) ∧
        k ≤ 3183 ∧ (k = 3183 → q + (decide (0 < r)).toNat < 9007199254740992))) ∧ ((upN M k).toNat ≤ (decide (0 < r)).toNat) := by
  have hp := Nat.two_pow_pos k
  obtain ⟨hq1, hq2⟩ := quot_bounds M (blen M) k (isLen_blen M) hk.symm
  rw [hq] at hq1 hq2
  have hk0 : 1138 ≤ k := by rw [← hk]; exact Nat.le_max_right _ _
  have hMe : M = q * 2 ^ k + r := by
    have := Nat.div_add_mod M (2 ^ k)
    rw [hq, hr, Nat.mul_comm] at this
    exact this.symm
  have hrl : r < 2 ^ k := by rw [← hr]; exact Nat.mod_lt _ hp
  have hup : (upN M k).toNat ≤ (decide (0 < r)).toNat := by
    by_cases h0 : 0 < r
    · rw [decide_eq_true h0]; cases upN M k <;> decide
    · have h2 := Nat.two_pow_pos (k - 1)
      have : upN M k = false := by
        unfold upN
        rw [hr, decide_eq_false (by omega), beq_eq_false_iff_ne.2 (by omega)]
        rfl
      rw [this, decide_eq_false h0]
      decide
  refine ⟨hMe, hrl, hq1, hk0, hq2, ?_, hup⟩
  obtain ⟨c, hc, hc1⟩ : ∃ c, (decide (0 < r)).toNat = c ∧ c ≤ 1 := ⟨_, rfl, by cases decide (0 < r) <;> decide⟩
  rw [hc] at hup ⊢
  by_cases hov : 3236 < blen (q + c) + k
  · left
    rw [finish_out neg _ _ hov]
    refine ⟨rfl, ?_⟩
    by_cases hq' : 3236 < blen q + k
    · rw [finish_most neg _ _ hq']
      have hn : 3236 < blen (q + (upN M k).toNat) + k := by
        have := blen_mono (show q ≤ q + (upN M k).toNat by omega)
        omega
      rw [finish_out neg _ _ hn]
      refine ⟨rfl, ?_, Or.inl rfl⟩
      have hbl : 0 < blen q := by
        have := blen_le q 53 hq1
        rcases hq2 with h | h
        · omega
        · have := blen_ge53 q h
          omega
      have h1 := blen_low q hbl
      have h2 : 2 ^ (blen q - 1) * 2 ^ k ≤ q * 2 ^ k := Nat.mul_le_mul_right _ h1
      rw [← Nat.pow_add] at h2
      have h3 : ∀ e : Nat, e ≤ 3183 → 2 ^ 53 * 2 ^ e ≤ 2 ^ (blen q - 1 + k) := fun e he => by
        rw [← Nat.pow_add]
        exact Nat.pow_le_pow_right (by decide) (by omega)
      have h4 : ∀ e : Nat, (9007199254740991 : Nat) * 2 ^ e ≤ 2 ^ 53 * 2 ^ e := fun e => Nat.mul_le_mul_right _ (by decide)
      have h5 : MOST ≤ q * 2 ^ k := Nat.le_trans (h4 expM) (Nat.le_trans (h3 expM (Nat.le_refl _)) h2)
      omega
    · rw [finish_in false neg _ _ hq']
      have hc' : c = 1 := by
        rcases Nat.lt_or_ge c 1 with h | h
        · rw [show c = 0 by omega, Nat.add_zero] at hov
          omega
        · omega
      subst hc'
      have h54 := blen_le54 (q + 1) (by omega)
      have hk1 : k ≠ 1138 := by omega
      have hq3 : 4503599627370496 ≤ q := by omega
      have h53 := blen_ge53 q hq3
      have hbq : blen q = 53 := by have := blen_le q 53 hq1; omega
      have hkk : k = 3183 := by omega
      have hb54 : blen (q + 1) = 54 := by omega
      have hlow := blen_low (q + 1) (by omega)
      rw [hb54] at hlow
      have hqq : q = 9007199254740991 := by
        have : (2 : Nat) ^ (54 - 1) = 9007199254740992 := rfl
        omega
      subst hqq
      subst hkk
      refine ⟨rfl, ?_, ?_⟩
      · have h5 : ∀ e : Nat, e = expM → MOST ≤ 9007199254740991 * 2 ^ e := fun e he => by rw [he]; exact Nat.le_refl _
        have h6 := h5 3183 rfl
        omega
      · cases hu : upN M 3183
        · right
          rw [Bool.toNat_false, Nat.add_zero]
          exact finish_in true neg _ _ hq'
        · left
          exact finish_out neg _ _ hov
  · right
    have hq' : ¬ 3236 < blen q + k := by
      have := blen_mono (show q ≤ q + c by omega)
      omega
    have hn' : ¬ 3236 < blen (q + (upN M k).toNat) + k := by
      have := blen_mono (show q + (upN M k).toNat ≤ q + c by omega)
      omega
    obtain ⟨f1, f2⟩ := finish_ok (q + c) k (by omega) hov
    exact ⟨finish_in _ _ _ _ hov, finish_in _ _ _ _ hq', finish_in _ _ _ _ hn', f1, f2⟩
theorem shift_split (q k s : Nat) (hs : s < 2 ^ k) (hk : 1138 ≤ k) (hq : q < 9007199254740992) (h : k = 1138 ∨ 4503599627370496 ≤ q) : shiftOf (q * 2 ^ k + s) = k := by
  have hp := Nat.two_pow_pos k
  have h1 : q * 2 ^ k + s < 2 ^ (53 + k) := by
    rw [Nat.pow_add]
    have : (q + 1) * 2 ^ k ≤ 2 ^ 53 * 2 ^ k := Nat.mul_le_mul_right _ (by omega)
    rw [Nat.add_mul, Nat.one_mul] at this
    omega
  have h2 := blen_le _ _ h1
  unfold shiftOf
  rcases h with rfl | h
  · omega
  · have h3 : blen (q * 2 ^ k) = blen q + k := blen_shift q k (by omega)
    have h4 := blen_mono (show q * 2 ^ k ≤ q * 2 ^ k + s by omega)
    have h5 := blen_ge53 q h
    omega
theorem div_split (q k s : Nat) (hs : s < 2 ^ k) : (q * 2 ^ k + s) / 2 ^ k = q ∧ (q * 2 ^ k + s) % 2 ^ k = s := by
  have hp := Nat.two_pow_pos k
  constructor
  · rw [Nat.add_comm, Nat.add_mul_div_right _ _ hp, Nat.div_eq_of_lt hs, Nat.zero_add]
  · rw [Nat.add_comm, Nat.add_mul_mod_self_right, Nat.mod_eq_of_lt hs]
theorem roundS_pos (d : Int) (M : Nat) (hM : 0 < M) : roundS d (some (M : Int)) = toldB d false M := by
  show toldB d (decide ((M : Int) < 0)) (M : Int).natAbs = _
  rw [decide_eq_false (by omega), Int.natAbs_natCast]
theorem roundS_neg (d : Int) (M : Nat) (hM : 0 < M) : roundS d (some (-(M : Int))) = toldB d true M := by
  show toldB d (decide (-(M : Int) < 0)) (-(M : Int)).natAbs = _
  rw [decide_eq_true (by omega), Int.natAbs_neg, Int.natAbs_natCast]
theorem upF_true (M k : Nat) : upF true M k = decide (0 < M % 2 ^ k) := by unfold upF; rw [Bool.true_and]
theorem upF_false (M k : Nat) : upF false M k = false := by unfold upF; rw [Bool.false_and]
/-- The number that is told near, of two neighbours a below and b above. -/
def nearOf (z : Int) (a b : Nat) : Nat := if z - fz a < fz b - z then a else if fz b - z < z - fz a then b else if a % 2 = 1 then b else a
def Num1 (a : Nat) : Prop := fexp a ≠ 2047 ∧ a < B64 ∧ a ≠ 9223372036854775808
/-- What is told of z down, up, near. -/
def BetOver (z : Int) (dn up nr : Nat × Bool) : Prop := (dn = (MAXB, true) ∧ up = (0, false) ∧ fz MAXB ≤ z ∧ (nr = (0, false) ∨ nr = (MAXB, true)))
def BetUnder (z : Int) (dn up nr : Nat × Bool) : Prop := (dn = (0, false) ∧ up = (MAXB + 9223372036854775808, true) ∧ z ≤ fz (MAXB + 9223372036854775808) ∧ (nr = (0, false) ∨ nr = (MAXB + 9223372036854775808, true)))
def BetExact (z : Int) (dn up nr : Nat × Bool) : Prop := ∃ u, dn = (u, true) ∧ up = (u, true) ∧ nr = (u, true) ∧ fz u = z ∧ Num1 u
def BetIn (z : Int) (dn up nr : Nat × Bool) : Prop := ∃ a b, dn = (a, true) ∧ up = (b, true) ∧ nr = (nearOf z a b, true) ∧ fz a < z ∧ z < fz b ∧ a ≠ b ∧ Num1 a ∧ Num1 b ∧ roundS 1 (some (fz a + STEP)) = (b, true)
theorem numB_most : numB false 9007199254740991 3183 = MAXB ∧ numB true 9007199254740991 3183 = MAXB + 9223372036854775808 := by decide
theorem fz_most : fz MAXB = (MOST : Int) ∧ fz (MAXB + 9223372036854775808) = -(MOST : Int) := by
  rw [← numB_most.2, ← numB_most.1]
  have h : ∀ (e : Nat) (neg : Bool), e = 3183 → fz (numB neg 9007199254740991 e) = sgn neg (9007199254740991 * 2 ^ e) := fun e neg he => (numB_facts neg 9007199254740991 e (by decide) (by omega) (by omega) (fun _ => by decide) (Or.inr (by decide))).2.2.2.2
  have h1 := h expM false rfl
  have h2 := h expM true rfl
  exact ⟨h1, h2⟩
theorem upN_cases (M k r q : Nat) (hk : 1138 ≤ k) (hr : M % 2 ^ k = r) (hq : M / 2 ^ k = q) :
    (2 * r < 2 ^ k → upN M k = false) ∧ (2 ^ k < 2 * r → upN M k = true) ∧ (2 * r = 2 ^ k → upN M k = (q % 2 == 1)) := by
  have h2 : 2 ^ k = 2 * 2 ^ (k - 1) := by rw [← Nat.pow_succ']; congr 1; omega
  unfold upN
  rw [hr, hq, h2]
  generalize 2 ^ (k - 1) = T
  refine ⟨fun h => ?_, fun h => ?_, fun h => ?_⟩
  · rw [decide_eq_false (by omega), beq_eq_false_iff_ne.2 (by omega)]; rfl
  · rw [decide_eq_true (by omega)]; rfl
  · rw [decide_eq_false (by omega), beq_iff_eq.2 (show r = T by omega)]; rfl
theorem par_odd {q : Nat} (h : q % 2 = 1) : ¬ (q + 1) % 2 = 1 := by omega
theorem par_even {q : Nat} (h : ¬ q % 2 = 1) : (q + 1) % 2 = 1 := by omega
theorem near_pos (M X T r : Nat) (h : M = X + r) (hr : r < T) :
    (2 * r < T → (M : Int) - (X : Int) < ((X + T : Nat) : Int) - (M : Int)) ∧ (¬ 2 * r < T → ¬ (M : Int) - (X : Int) < ((X + T : Nat) : Int) - (M : Int)) ∧
    (T < 2 * r → ((X + T : Nat) : Int) - (M : Int) < (M : Int) - (X : Int)) ∧ (¬ T < 2 * r → ¬ ((X + T : Nat) : Int) - (M : Int) < (M : Int) - (X : Int)) ∧
    (0 < r → (X : Int) < (M : Int)) ∧ (M : Int) < ((X + T : Nat) : Int) ∧ ((X : Nat) : Int) ≠ ((X + T : Nat) : Int) := by
  refine ⟨fun a => ?_, fun a => ?_, fun a => ?_, fun a => ?_, fun a => ?_, ?_, ?_⟩ <;> omega
theorem near_neg (M X T r : Nat) (h : M = X + r) (hr : r < T) :
    (2 * r < T → -(X : Int) - -(M : Int) < -(M : Int) - -((X + T : Nat) : Int)) ∧ (¬ 2 * r < T → ¬ -(X : Int) - -(M : Int) < -(M : Int) - -((X + T : Nat) : Int)) ∧
    (T < 2 * r → -(M : Int) - -((X + T : Nat) : Int) < -(X : Int) - -(M : Int)) ∧ (¬ T < 2 * r → ¬ -(M : Int) - -((X + T : Nat) : Int) < -(X : Int) - -(M : Int)) ∧
    (0 < r → -(M : Int) < -(X : Int)) ∧ -((X + T : Nat) : Int) < -(M : Int) ∧ -((X : Nat) : Int) ≠ -((X + T : Nat) : Int) := by
  refine ⟨fun a => ?_, fun a => ?_, fun a => ?_, fun a => ?_, fun a => ?_, ?_, ?_⟩ <;> omega
theorem step_neg (X T st : Nat) (h : st < T) : -((X + T : Nat) : Int) + (st : Int) = -((X + (T - st) : Nat) : Int) := by omega
theorem step_pos (X st : Nat) : ((X : Nat) : Int) + (st : Int) = ((X + st : Nat) : Int) := by omega
theorem roundS_zero (d : Int) (h : ¬ (d < 0 ∨ 2 < d)) : roundS d (some 0) = (0, true) := by
  show toldB d (decide ((0 : Int) < 0)) (0 : Int).natAbs = _
  rw [show (0 : Int).natAbs = 0 from rfl]
  exact toldB_zero d _ h
theorem mul_succ_pow (q k : Nat) : (q + 1) * 2 ^ k = q * 2 ^ k + 2 ^ k := by rw [Nat.add_mul, Nat.one_mul]
theorem bet_pos (M : Nat) (hM : 0 < M) : BetOver M (roundS 2 (some (M : Int))) (roundS 1 (some (M : Int))) (roundS 0 (some (M : Int))) ∨ BetExact M (roundS 2 (some (M : Int))) (roundS 1 (some (M : Int))) (roundS 0 (some (M : Int))) ∨ BetIn M (roundS 2 (some (M : Int))) (roundS 1 (some (M : Int))) (roundS 0 (some (M : Int))) := by
  obtain ⟨k, hk⟩ : ∃ k, shiftOf M = k := ⟨_, rfl⟩
  obtain ⟨q, hq⟩ : ∃ q, M / 2 ^ k = q := ⟨_, rfl⟩
  obtain ⟨r, hr⟩ : ∃ r, M % 2 ^ k = r := ⟨_, rfl⟩
  obtain ⟨hMe, hrl, hq1, hk0, hq2, hcase, hup⟩ := mag_told false M k q r hM hk hq hr
  have hM0 : M ≠ 0 := by omega
  rw [roundS_pos _ M hM, roundS_pos _ M hM, roundS_pos _ M hM, toldB_far 2 false M hM0 (Or.inr rfl), toldB_far 1 false M hM0 (Or.inl rfl), toldB_near false M hM0, hk, hq,
    show (((2 : Int) == 1) != false) = false from rfl, show (((1 : Int) == 1) != false) = true from rfl, upF_true, upF_false, hr, Bool.toNat_false, Nat.add_zero]
  rcases hcase with ⟨c1, c2, c3, c4⟩ | ⟨c1, c2, c3, c4, c5⟩
  · left
    rw [c1, c2, numB_most.1]
    refine ⟨rfl, rfl, ?_, ?_⟩
    · rw [fz_most.1]; exact Int.ofNat_le.2 c3
    · rcases c4 with c4 | c4
      · exact Or.inl c4
      · exact Or.inr (by rw [c4, numB_most.1])
  · right
    rw [c1, c2, c3]
    by_cases h0 : 0 < r
    · right
      rw [decide_eq_true h0, Bool.toNat_true] at *
      obtain ⟨a1, a2, a3, a4, a5⟩ := numB_facts false q k (by omega) hk0 c4 (fun e => by have := c5 e; omega) hq2
      obtain ⟨b1, b2, b3, b4, b5⟩ := numB_facts false (q + 1) k (by omega) hk0 c4 c5 (by omega)
      have ha : fz (numB false q k) = ((q * 2 ^ k : Nat) : Int) := a5
      have hb : fz (numB false (q + 1) k) = ((q * 2 ^ k + 2 ^ k : Nat) : Int) := by rw [b5, mul_succ_pow]; rfl
      have hst := STEP_lt k hk0
      have hst0 := STEP_pos
      obtain ⟨n1, n2, n3, n4, n5, n6, n7⟩ := near_pos M (q * 2 ^ k) (2 ^ k) r hMe hrl
      refine ⟨numB false q k, numB false (q + 1) k, rfl, rfl, ?_, ?_, ?_, ?_, ⟨a1, a2, a3⟩, ⟨b1, b2, b3⟩, ?_⟩
      · refine congrArg (fun x => (x, true)) ?_
        obtain ⟨u1, u2, u3⟩ := upN_cases M k r q hk0 hr hq
        unfold nearOf
        rw [ha, hb]
        by_cases e1 : 2 * r < 2 ^ k
        · rw [u1 e1, if_pos (n1 e1), Bool.toNat_false, Nat.add_zero]
        · by_cases e2 : 2 ^ k < 2 * r
          · rw [u2 e2, if_neg (n2 e1), if_pos (n3 e2), Bool.toNat_true]
          · rw [u3 (Nat.le_antisymm (Nat.not_lt.1 e2) (Nat.not_lt.1 e1)), if_neg (n2 e1), if_neg (n4 e2), a4]
            by_cases e3 : q % 2 = 1
            · rw [if_pos e3, beq_iff_eq.2 e3, Bool.toNat_true]
            · rw [if_neg e3, beq_eq_false_iff_ne.2 e3, Bool.toNat_false, Nat.add_zero]
      · rw [ha]; exact n5 h0
      · rw [hb]; exact n6
      · intro e
        have := congrArg fz e
        rw [ha, hb] at this
        exact n7 this
      · rw [ha]
        have hs := shift_split q k STEP hst hk0 hq1 hq2
        obtain ⟨d1, d2⟩ := div_split q k STEP hst
        have hpos : 0 < q * 2 ^ k + STEP := Nat.add_pos_right _ hst0
        rw [step_pos, roundS_pos 1 _ hpos, toldB_far 1 false _ (Nat.pos_iff_ne_zero.1 hpos) (Or.inl rfl), hs, d1, show (((1 : Int) == 1) != false) = true from rfl, upF_true, d2, decide_eq_true hst0]
        exact c1
    · left
      have hr0 : r = 0 := by omega
      subst hr0
      rw [decide_eq_false h0, Bool.toNat_false, Nat.add_zero] at *
      obtain ⟨a1, a2, a3, a4, a5⟩ := numB_facts false q k (by omega) hk0 c4 c5 hq2
      refine ⟨numB false q k, rfl, rfl, ?_, ?_, a1, a2, a3⟩
      · rw [show (upN M k).toNat = 0 by omega, Nat.add_zero]
      · rw [a5]
        show ((q * 2 ^ k : Nat) : Int) = _
        omega
theorem bet_neg (M : Nat) (hM : 0 < M) : BetUnder (-(M : Int)) (roundS 2 (some (-(M : Int)))) (roundS 1 (some (-(M : Int)))) (roundS 0 (some (-(M : Int)))) ∨ BetExact (-(M : Int)) (roundS 2 (some (-(M : Int)))) (roundS 1 (some (-(M : Int)))) (roundS 0 (some (-(M : Int)))) ∨ BetIn (-(M : Int)) (roundS 2 (some (-(M : Int)))) (roundS 1 (some (-(M : Int)))) (roundS 0 (some (-(M : Int)))) := by
  obtain ⟨k, hk⟩ : ∃ k, shiftOf M = k := ⟨_, rfl⟩
  obtain ⟨q, hq⟩ : ∃ q, M / 2 ^ k = q := ⟨_, rfl⟩
  obtain ⟨r, hr⟩ : ∃ r, M % 2 ^ k = r := ⟨_, rfl⟩
  obtain ⟨hMe, hrl, hq1, hk0, hq2, hcase, hup⟩ := mag_told true M k q r hM hk hq hr
  have hM0 : M ≠ 0 := by omega
  rw [roundS_neg _ M hM, roundS_neg _ M hM, roundS_neg _ M hM, toldB_far 2 true M hM0 (Or.inr rfl), toldB_far 1 true M hM0 (Or.inl rfl), toldB_near true M hM0, hk, hq,
    show (((2 : Int) == 1) != true) = true from rfl, show (((1 : Int) == 1) != true) = false from rfl, upF_true, upF_false, hr, Bool.toNat_false, Nat.add_zero]
  rcases hcase with ⟨c1, c2, c3, c4⟩ | ⟨c1, c2, c3, c4, c5⟩
  · left
    rw [c1, c2, numB_most.2]
    refine ⟨rfl, rfl, ?_, ?_⟩
    · rw [fz_most.2]
      omega
    · rcases c4 with c4 | c4
      · exact Or.inl c4
      · exact Or.inr (by rw [c4, numB_most.2])
  · right
    rw [c1, c2, c3]
    by_cases h0 : 0 < r
    · right
      rw [decide_eq_true h0, Bool.toNat_true] at *
      obtain ⟨a1, a2, a3, a4, a5⟩ := numB_facts true q k (by omega) hk0 c4 (fun e => by have := c5 e; omega) hq2
      obtain ⟨b1, b2, b3, b4, b5⟩ := numB_facts true (q + 1) k (by omega) hk0 c4 c5 (by omega)
      have ha : fz (numB true q k) = -((q * 2 ^ k : Nat) : Int) := a5
      have hb : fz (numB true (q + 1) k) = -((q * 2 ^ k + 2 ^ k : Nat) : Int) := by rw [b5, mul_succ_pow]; rfl
      have hst := STEP_lt k hk0
      have hst0 := STEP_pos
      obtain ⟨n1, n2, n3, n4, n5, n6, n7⟩ := near_neg M (q * 2 ^ k) (2 ^ k) r hMe hrl
      refine ⟨numB true (q + 1) k, numB true q k, rfl, rfl, ?_, ?_, ?_, ?_, ⟨b1, b2, b3⟩, ⟨a1, a2, a3⟩, ?_⟩
      · refine congrArg (fun x => (x, true)) ?_
        obtain ⟨u1, u2, u3⟩ := upN_cases M k r q hk0 hr hq
        unfold nearOf
        rw [ha, hb]
        by_cases e1 : 2 * r < 2 ^ k
        · by_cases e2 : 2 ^ k < 2 * r
          · exact absurd e1 (Nat.lt_asymm e2)
          · rw [u1 e1, if_neg (n4 e2), if_pos (n1 e1), Bool.toNat_false, Nat.add_zero]
        · by_cases e2 : 2 ^ k < 2 * r
          · rw [u2 e2, if_pos (n3 e2), Bool.toNat_true]
          · rw [u3 (Nat.le_antisymm (Nat.not_lt.1 e2) (Nat.not_lt.1 e1)), if_neg (n4 e2), if_neg (n2 e1), b4]
            by_cases e3 : q % 2 = 1
            · rw [if_neg (par_odd e3), beq_iff_eq.2 e3, Bool.toNat_true]
            · rw [if_pos (par_even e3), beq_eq_false_iff_ne.2 e3, Bool.toNat_false, Nat.add_zero]
      · rw [hb]; exact n6
      · rw [ha]; exact n5 h0
      · intro e
        have := congrArg fz e
        rw [ha, hb] at this
        exact n7 this.symm
      · rw [hb]
        have hsub : 2 ^ k - STEP < 2 ^ k := Nat.sub_lt (Nat.two_pow_pos k) hst0
        have hsub0 : 0 < 2 ^ k - STEP := Nat.sub_pos_of_lt hst
        have hs := shift_split q k (2 ^ k - STEP) hsub hk0 hq1 hq2
        obtain ⟨d1, d2⟩ := div_split q k (2 ^ k - STEP) hsub
        have hpos : 0 < q * 2 ^ k + (2 ^ k - STEP) := Nat.add_pos_right _ hsub0
        rw [step_neg _ _ _ hst, roundS_neg 1 _ hpos, toldB_far 1 true _ (Nat.pos_iff_ne_zero.1 hpos) (Or.inl rfl), hs, d1, show (((1 : Int) == 1) != true) = false from rfl, upF_false, Bool.toNat_false, Nat.add_zero]
        exact c2
    · left
      have hr0 : r = 0 := by omega
      subst hr0
      rw [decide_eq_false h0, Bool.toNat_false, Nat.add_zero] at *
      obtain ⟨a1, a2, a3, a4, a5⟩ := numB_facts true q k (by omega) hk0 c4 c5 hq2
      refine ⟨numB true q k, rfl, rfl, ?_, ?_, a1, a2, a3⟩
      · rw [show (upN M k).toNat = 0 by omega, Nat.add_zero]
      · rw [a5]
        show -((q * 2 ^ k : Nat) : Int) = _
        omega
theorem bet_any (z : Int) : BetOver z (roundS 2 (some z)) (roundS 1 (some z)) (roundS 0 (some z)) ∨ BetUnder z (roundS 2 (some z)) (roundS 1 (some z)) (roundS 0 (some z)) ∨ BetExact z (roundS 2 (some z)) (roundS 1 (some z)) (roundS 0 (some z)) ∨ BetIn z (roundS 2 (some z)) (roundS 1 (some z)) (roundS 0 (some z)) := by
  rcases Int.lt_trichotomy z 0 with h | h | h
  · obtain ⟨M, hM⟩ : ∃ M : Nat, z = -(M : Int) := ⟨z.natAbs, by omega⟩
    subst hM
    exact Or.inr (bet_neg M (by omega))
  · subst h
    refine Or.inr (Or.inr (Or.inl ⟨0, ?_, ?_, ?_, ?_, ?_⟩))
    · exact roundS_zero 2 (by decide)
    · exact roundS_zero 1 (by decide)
    · exact roundS_zero 0 (by decide)
    · unfold fz
      rw [show sig 0 = 0 by decide, Nat.zero_mul]
      rfl
    · exact ⟨by decide, by decide, by decide⟩
  · obtain ⟨M, hM⟩ : ∃ M : Nat, z = (M : Int) := ⟨z.natAbs, by omega⟩
    subst hM
    rcases bet_pos M (by omega) with h | h | h
    · exact Or.inl h
    · exact Or.inr (Or.inr (Or.inl h))
    · exact Or.inr (Or.inr (Or.inr h))
end Go.Proofs.YtopilodakphhgaaGreatDoor
