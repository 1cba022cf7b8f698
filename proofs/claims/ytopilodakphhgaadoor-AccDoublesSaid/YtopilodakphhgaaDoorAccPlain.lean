/- Plain facts on words of 64 bits: a natural number's words, rows of cells that hold them, sums and differences word by word. No program. -/
import Derived.WalkKit
namespace Go.Proofs.YtopilodakphhgaaDoor
set_option linter.unusedVariables false
set_option linter.unusedSimpArgs false
open Go Go.RowKit
/-- 2^64. -/
def B64 : Nat := 18446744073709551616
theorem B64_pos : 0 < B64 := by decide
theorem Bpow_pos (i : Nat) : 0 < B64 ^ i := Nat.pow_pos B64_pos
/-- Word i of X. -/
def wd (X i : Nat) : Nat := X / B64 ^ i % B64
theorem wd_lt (X i : Nat) : wd X i < B64 := Nat.mod_lt _ B64_pos
theorem wd_le (X i : Nat) : wd X i ≤ 18446744073709551615 := by have := wd_lt X i; unfold B64 at this; omega
/-- The first n words of X, as cells. -/
def wordCells (n X : Nat) : List Value := (List.range n).map fun i => .int .u64 (wd X i)
theorem wordCells_length (n X : Nat) : (wordCells n X).length = n := by simp [wordCells]
theorem wordCells_get (n X i : Nat) (h : i < n) : (wordCells n X)[i]? = some (.int .u64 (wd X i)) := by simp [wordCells, h]
/-- An Acc's cells. -/
def accCells (X : Nat) (bad : Bool) : Array Value := (wordCells 76 X ++ [Value.bool bad]).toArray
def arrCells (X : Nat) : Array Value := (wordCells 76 X).toArray
theorem accCells_size (X : Nat) (bad : Bool) : (accCells X bad).size = 77 := by simp [accCells, wordCells]
theorem arrCells_size (X : Nat) : (arrCells X).size = 76 := by simp [arrCells, wordCells]
theorem accCells_get (X : Nat) (bad : Bool) (i : Nat) (h : i < 76) : (accCells X bad)[i]? = some (.int .u64 (wd X i)) := by
  simp only [accCells, List.getElem?_toArray]
  rw [List.getElem?_append_left (by rw [wordCells_length]; exact h)]
  exact wordCells_get _ _ _ h
theorem accCells_bad (X : Nat) (bad : Bool) : (accCells X bad)[76]? = some (.bool bad) := by
  simp only [accCells, List.getElem?_toArray]
  rw [List.getElem?_append_right (by rw [wordCells_length]; exact Nat.le_refl _), wordCells_length]
  rfl
theorem arrCells_get (X : Nat) (i : Nat) (h : i < 76) : (arrCells X)[i]? = some (.int .u64 (wd X i)) := by
  simp only [arrCells, List.getElem?_toArray]
  exact wordCells_get _ _ _ h
theorem wordCells_one (n X : Nat) : ∀ u ∈ wordCells n X, u.oneCell' = true := by
  intro u hu
  simp only [wordCells, List.mem_map] at hu
  obtain ⟨i, _, rfl⟩ := hu
  rfl
theorem arrCells_one (X : Nat) : (arrCells X).all (·.oneCell') = true :=
  Array.all_eq_true_iff_forall_mem.2 (fun v hv => wordCells_one 76 X v (by simpa [arrCells] using hv))
/-! ### Words, put together -/
theorem wd_add (X i : Nat) : X % B64 ^ (i + 1) = X % B64 ^ i + wd X i * B64 ^ i := by
  unfold wd
  rw [Nat.pow_succ, Nat.mod_mul, Nat.mul_comm (B64 ^ i)]
/-- The lower i words of Y, the others of X. -/
def mix (i Y X : Nat) : Nat := Y % B64 ^ i + X / B64 ^ i * B64 ^ i
theorem mix_zero (Y X : Nat) : mix 0 Y X = X := by simp [mix, Nat.mod_one]
theorem mix_all (n Y X : Nat) (h : X < B64 ^ n) : mix n Y X = Y % B64 ^ n := by simp [mix, Nat.div_eq_of_lt h]
theorem wd_mix_lt (i j Y X : Nat) (h : j < i) : wd (mix i Y X) j = wd Y j := by
  unfold wd mix
  obtain ⟨d, rfl⟩ : ∃ d, i = j + 1 + d := ⟨i - (j + 1), by omega⟩
  have e : X / B64 ^ (j + 1 + d) * B64 ^ (j + 1 + d) = B64 ^ j * (B64 * (X / B64 ^ (j + 1 + d) * B64 ^ d)) := by
    rw [Nat.pow_add, Nat.pow_succ]; ac_rfl
  have e2 : Y % B64 ^ (j + 1 + d) = Y % B64 ^ j + B64 ^ j * (Y / B64 ^ j % B64 ^ (1 + d)) := by
    rw [Nat.add_assoc, Nat.pow_add, Nat.mod_mul]
  rw [e, e2, Nat.add_assoc, ← Nat.mul_add, Nat.add_mul_div_left _ _ (Bpow_pos j), Nat.div_eq_of_lt (Nat.mod_lt _ (Bpow_pos j)), Nat.zero_add, Nat.add_mul_mod_self_left]
  rw [Nat.add_comm 1 d, Nat.pow_succ, Nat.mod_mul_left_mod]
theorem wd_mix_ge (i j Y X : Nat) (h : i ≤ j) : wd (mix i Y X) j = wd X j := by
  unfold wd mix
  obtain ⟨d, rfl⟩ : ∃ d, j = i + d := ⟨j - i, by omega⟩
  rw [Nat.pow_add, ← Nat.div_div_eq_div_mul, Nat.add_mul_div_right _ _ (Bpow_pos i), Nat.div_eq_of_lt (Nat.mod_lt _ (Bpow_pos i)), Nat.zero_add, Nat.div_div_eq_div_mul]
theorem mix_step (i Y X : Nat) (j : Nat) : wd (mix (i + 1) Y X) j = if j = i then wd Y i else wd (mix i Y X) j := by
  by_cases h : j = i
  · subst h; rw [if_pos rfl, wd_mix_lt _ _ _ _ (Nat.lt_succ_self _)]
  · rw [if_neg h]
    by_cases h2 : j < i
    · rw [wd_mix_lt _ _ _ _ h2, wd_mix_lt _ _ _ _ (by omega)]
    · rw [wd_mix_ge _ _ _ _ (by omega), wd_mix_ge _ _ _ _ (by omega)]
theorem accCells_ext {X Y : Nat} (h : ∀ j, j < 76 → wd X j = wd Y j) (b : Bool) : accCells X b = accCells Y b := by
  unfold accCells wordCells
  congr 2
  exact List.map_congr_left fun i hi => by rw [h i (List.mem_range.1 hi)]
theorem arrCells_ext {X Y : Nat} (h : ∀ j, j < 76 → wd X j = wd Y j) : arrCells X = arrCells Y := by
  unfold arrCells wordCells
  congr 1
  exact List.map_congr_left fun i hi => by rw [h i (List.mem_range.1 hi)]
theorem acc_step (i Y X : Nat) (b : Bool) (u : Nat) (hu : u = wd Y i) (hi : i < 76) : (accCells (mix i Y X) b).setIfInBounds i (.int .u64 (u : Int)) = accCells (mix (i + 1) Y X) b := by
  subst hu
  apply Array.ext_getElem?
  intro j
  rw [Array.getElem?_setIfInBounds]
  by_cases h : i = j
  · subst h
    rw [if_pos rfl, if_pos (by rw [accCells_size]; omega), accCells_get _ _ _ hi, mix_step, if_pos rfl]
  · rw [if_neg h]
    by_cases hj : j < 76
    · rw [accCells_get _ _ _ hj, accCells_get _ _ _ hj, mix_step, if_neg (fun e => h e.symm)]
    · by_cases h6 : j = 76
      · subst h6; rw [accCells_bad, accCells_bad]
      · rw [Array.getElem?_eq_none (by rw [accCells_size]; omega), Array.getElem?_eq_none (by rw [accCells_size]; omega)]
theorem arr_step (i Y X : Nat) (u : Nat) (hu : u = wd Y i) (hi : i < 76) : (arrCells (mix i Y X)).setIfInBounds i (.int .u64 (u : Int)) = arrCells (mix (i + 1) Y X) := by
  subst hu
  apply Array.ext_getElem?
  intro j
  rw [Array.getElem?_setIfInBounds]
  by_cases h : i = j
  · subst h
    rw [if_pos rfl, if_pos (by rw [arrCells_size]; omega), arrCells_get _ _ hi, mix_step, if_pos rfl]
  · rw [if_neg h]
    by_cases hj : j < 76
    · rw [arrCells_get _ _ hj, arrCells_get _ _ hj, mix_step, if_neg (fun e => h e.symm)]
    · rw [Array.getElem?_eq_none (by rw [arrCells_size]; omega), Array.getElem?_eq_none (by rw [arrCells_size]; omega)]
/-! ### Sums and differences, word by word -/
def carry (X Y i : Nat) : Nat := (X % B64 ^ i + Y % B64 ^ i) / B64 ^ i
def borrow (X Y i : Nat) : Nat := if X % B64 ^ i < Y % B64 ^ i then 1 else 0
theorem carry_zero (X Y : Nat) : carry X Y 0 = 0 := by simp [carry, Nat.mod_one]
theorem borrow_zero (X Y : Nat) : borrow X Y 0 = 0 := by simp [borrow, Nat.mod_one]
theorem carry_le (X Y i : Nat) : carry X Y i ≤ 1 := by
  unfold carry
  have h1 := Nat.mod_lt X (Bpow_pos i)
  have h2 := Nat.mod_lt Y (Bpow_pos i)
  have : (X % B64 ^ i + Y % B64 ^ i) / B64 ^ i < 2 := (Nat.div_lt_iff_lt_mul (Bpow_pos i)).2 (by omega)
  omega
theorem borrow_le (X Y i : Nat) : borrow X Y i ≤ 1 := by unfold borrow; split <;> omega
theorem add_word (X Y i : Nat) : (wd X i + wd Y i + carry X Y i) % B64 = wd (X + Y) i ∧ (wd X i + wd Y i + carry X Y i) / B64 = carry X Y (i + 1) := by
  have hp := Bpow_pos i
  have e : (X % B64 ^ (i + 1) + Y % B64 ^ (i + 1)) = (X % B64 ^ i + Y % B64 ^ i) + B64 ^ i * (wd X i + wd Y i) := by
    rw [wd_add X i, wd_add Y i, Nat.mul_add, Nat.mul_comm (B64 ^ i), Nat.mul_comm (B64 ^ i)]; omega
  have e1 : (X % B64 ^ (i + 1) + Y % B64 ^ (i + 1)) / B64 ^ i = wd X i + wd Y i + carry X Y i := by
    rw [e, Nat.add_mul_div_left _ _ hp, carry]; omega
  constructor
  · rw [← e1]
    unfold wd
    have h3 : (X + Y) % B64 ^ (i + 1) = (X % B64 ^ (i + 1) + Y % B64 ^ (i + 1)) % B64 ^ (i + 1) := Nat.add_mod _ _ _
    have h4 : ∀ Z : Nat, Z / B64 ^ i % B64 = Z % B64 ^ (i + 1) / B64 ^ i := fun Z => by
      rw [Nat.pow_succ, Nat.mod_mul_right_div_self]
    rw [h4, h4 (X + Y), h3]
  · rw [← e1, Nat.div_div_eq_div_mul, ← Nat.pow_succ]; rfl
theorem sub_word (X Y i : Nat) (n : Nat) (hn : i < n) (hX : X < B64 ^ n) (hY : Y < B64 ^ n) :
    (wd X i + B64 - wd Y i - borrow X Y i) % B64 = wd (X + B64 ^ n - Y) i ∧ (if wd X i < wd Y i + borrow X Y i then 1 else 0) = borrow X Y (i + 1) := by
  have hp := Bpow_pos i
  have eX := wd_add X i
  have eY := wd_add Y i
  have lX := wd_lt X i
  have lY := wd_lt Y i
  have mX := Nat.mod_lt X hp
  have mY := Nat.mod_lt Y hp
  have hb : borrow X Y i = if X % B64 ^ i < Y % B64 ^ i then 1 else 0 := rfl
  have hb1 : borrow X Y (i + 1) = if X % B64 ^ (i + 1) < Y % B64 ^ (i + 1) then 1 else 0 := rfl
  constructor
  · -- modulo B^(i+1)
    have h4 : ∀ Z : Nat, Z / B64 ^ i % B64 = Z % B64 ^ (i + 1) / B64 ^ i := fun Z => by
      rw [Nat.pow_succ, Nat.mod_mul_right_div_self]
    obtain ⟨d, rfl⟩ : ∃ d, n = i + 1 + d := ⟨n - (i + 1), by omega⟩
    have hN : B64 ^ (i + 1 + d) = B64 ^ (i + 1) * B64 ^ d := Nat.pow_add _ _ _
    have hZ : (X + B64 ^ (i + 1 + d) - Y) % B64 ^ (i + 1) = (X % B64 ^ (i + 1) + B64 ^ (i + 1) - Y % B64 ^ (i + 1)) % B64 ^ (i + 1) := by
      have q1 := Nat.div_add_mod X (B64 ^ (i + 1))
      have q2 := Nat.div_add_mod Y (B64 ^ (i + 1))
      have r2 := Nat.mod_lt Y (Bpow_pos (i + 1))
      generalize B64 ^ (i + 1) = M at *
      have hYd : Y / M < B64 ^ d := by
        rw [Nat.div_lt_iff_lt_mul (by omega)]; rw [Nat.mul_comm, ← hN]; exact hY
      obtain ⟨s, hs⟩ : ∃ s, B64 ^ d = Y / M + 1 + s := ⟨B64 ^ d - (Y / M + 1), by omega⟩
      have e : X + B64 ^ (i + 1 + d) - Y = (X % M + M - Y % M) + M * (X / M + s) := by
        rw [hN, hs]
        have a1 : M * (Y / M + 1 + s) = M * (Y / M) + M + M * s := by rw [Nat.mul_add, Nat.mul_add, Nat.mul_one]
        have a2 : M * (X / M + s) = M * (X / M) + M * s := Nat.mul_add _ _ _
        rw [a1, a2]
        omega
      rw [e, Nat.add_mul_mod_self_left]
    unfold wd at eX eY lX lY ⊢
    rw [h4 (X + B64 ^ (i + 1 + d) - Y), hZ]
    rw [hb]
    generalize X / B64 ^ i % B64 = x at *
    generalize Y / B64 ^ i % B64 = y at *
    rw [eX, eY, Nat.pow_succ]
    generalize X % B64 ^ i = p at *
    generalize Y % B64 ^ i = q at *
    generalize B64 ^ i = M at *
    have e : p + x * M + M * B64 - (q + y * M) = (if p < q then p + M - q else p - q) + M * (x + B64 - y - if p < q then 1 else 0) := by
      have a1 : M * B64 = M * y + M * (B64 - y) := by rw [← Nat.mul_add]; congr 1; omega
      have a2 : x * M = M * x := Nat.mul_comm _ _
      have a3 : y * M = M * y := Nat.mul_comm _ _
      by_cases h : p < q
      · rw [if_pos h, if_pos h, a1, a2, a3]
        have a4 : M * (x + B64 - y - 1) = M * x + M * (B64 - y) - M := by
          have : M ≤ M * (B64 - y) := Nat.le_mul_of_pos_right _ (by omega)
          rw [Nat.sub_sub, Nat.add_sub_assoc (by omega), show B64 - (y + 1) = B64 - y - 1 from by omega, Nat.mul_add, Nat.mul_sub_one]
          omega
        rw [a4]
        have : M ≤ M * (B64 - y) := Nat.le_mul_of_pos_right _ (by omega)
        omega
      · have a5 : M * (x + B64 - y) = M * x + M * (B64 - y) := by rw [Nat.add_sub_assoc (by omega), Nat.mul_add]
        rw [if_neg h, if_neg h, a1, a2, a3, Nat.sub_zero, a5]
        omega
    have hz : (if p < q then p + M - q else p - q) < M := by split <;> omega
    rw [e, Nat.mod_mul_right_div_self, Nat.add_mul_div_left _ _ (by omega), Nat.div_eq_of_lt hz, Nat.zero_add]
  · rw [hb1, hb, eX, eY]
    generalize wd X i = x at *
    generalize wd Y i = y at *
    generalize X % B64 ^ i = p at *
    generalize Y % B64 ^ i = q at *
    generalize B64 ^ i = M at *
    by_cases h : p < q
    · rw [if_pos h]
      by_cases hxy : x < y + 1
      · rw [if_pos hxy, if_pos]
        have : x * M ≤ y * M := Nat.mul_le_mul_right _ (by omega)
        omega
      · rw [if_neg hxy, if_neg]
        have : (y + 1) * M ≤ x * M := Nat.mul_le_mul_right _ (by omega)
        rw [Nat.add_mul, Nat.one_mul] at this
        omega
    · rw [if_neg h]
      by_cases hxy : x < y + 0
      · rw [if_pos hxy, if_pos]
        have : (x + 1) * M ≤ y * M := Nat.mul_le_mul_right _ (by omega)
        rw [Nat.add_mul, Nat.one_mul] at this
        omega
      · rw [if_neg hxy, if_neg]
        have : y * M ≤ x * M := Nat.mul_le_mul_right _ (by omega)
        omega
/-! ### An Acc's real, as two's complement -/
def TOP : Nat := B64 ^ 76
theorem TOP_pos : 0 < TOP := Bpow_pos 76
def isNeg (X : Nat) : Bool := decide (TOP ≤ 2 * X)
def absX (X : Nat) : Nat := bif isNeg X then TOP - X else X
theorem neg_word_aux (K q M r X : Nat) (hK : 0 < K) (hM : 0 < M) (h4 : M * q + r = X) (h5 : r < M) (h1 : q < K + K) : q / K = 1 ↔ M * (K + K) ≤ 2 * X := by
  have e : M * (K + K) = M * K + M * K := Nat.mul_add _ _ _
  constructor
  · intro h
    have h7 := Nat.div_mul_le_self q K
    rw [h, Nat.one_mul] at h7
    have h6 : M * K ≤ M * q := Nat.mul_le_mul_left _ h7
    omega
  · intro h
    have h8 : K ≤ q := by
      by_cases hq : q < K
      · have h6 : M * (q + 1) ≤ M * K := Nat.mul_le_mul_left _ hq
        rw [Nat.mul_add, Nat.mul_one] at h6
        omega
      · omega
    have a1 : 1 ≤ q / K := (Nat.le_div_iff_mul_le hK).2 (by omega)
    have a2 : q / K < 2 := (Nat.div_lt_iff_lt_mul hK).2 (by omega)
    omega
theorem neg_word (X : Nat) (hX : X < TOP) : ((wd X 75 : Nat) / 9223372036854775808 == 1) = isNeg X := by
  have h1 : X / B64 ^ 75 < B64 := by rw [Nat.div_lt_iff_lt_mul (Bpow_pos 75), Nat.mul_comm, ← Nat.pow_succ]; exact hX
  have h2 : wd X 75 = X / B64 ^ 75 := Nat.mod_eq_of_lt h1
  have h3 : TOP = B64 ^ 75 * (9223372036854775808 + 9223372036854775808) := Nat.pow_succ B64 75
  unfold isNeg
  rw [h2, h3, Bool.eq_iff_iff, beq_iff_eq, decide_eq_true_iff]
  exact neg_word_aux 9223372036854775808 _ _ _ X (by decide) (Bpow_pos 75) (Nat.div_add_mod X (B64 ^ 75)) (Nat.mod_lt X (Bpow_pos 75)) h1
/-! ### What is held -/
def LIM : Nat := B64 ^ 74 * 68719476736
theorem LIM_le : LIM ≤ TOP := by
  have h : TOP = B64 ^ 74 * (B64 * B64) := by unfold TOP; rw [Nat.pow_succ, Nat.pow_succ, Nat.mul_assoc]
  rw [h]
  exact Nat.mul_le_mul_left _ (by decide)
theorem absX_lt (X : Nat) (hX : X < TOP) : absX X < TOP := by
  unfold absX
  cases h : isNeg X with
  | false => exact hX
  | true =>
    have h2 := of_decide_eq_true h
    have h3 := TOP_pos
    show TOP - X < TOP
    omega
theorem fit_words (Y : Nat) (hY : Y < TOP) : Y < LIM ↔ wd Y 74 / 68719476736 = 0 ∧ wd Y 75 = 0 := by
  have h1 : Y / B64 ^ 75 < B64 := by rw [Nat.div_lt_iff_lt_mul (Bpow_pos 75), Nat.mul_comm, ← Nat.pow_succ]; exact hY
  have h2 : wd Y 75 = Y / B64 ^ 75 := Nat.mod_eq_of_lt h1
  have h3 : wd Y 74 = Y / B64 ^ 74 % B64 := rfl
  have h4 : Y / B64 ^ 75 = Y / B64 ^ 74 / B64 := by rw [Nat.div_div_eq_div_mul, ← Nat.pow_succ]
  have h5 : Y < LIM ↔ Y / B64 ^ 74 < 68719476736 := by rw [Nat.div_lt_iff_lt_mul (Bpow_pos 74), Nat.mul_comm]; rfl
  rw [h5, h2, h3, h4]
  generalize Y / B64 ^ 74 = q
  unfold B64
  omega
end Go.Proofs.YtopilodakphhgaaDoor
