/- Plain facts on words of 64 bits: a natural number's words, rows of cells that hold them, sums and differences word by word. No program. Laws on whole rows that the walks of acc use: a row stored into the block that was laid last; a range behind a new block. No program. An Acc in memory; its small methods: neg, Bad, New, size. (*Acc).size: the real without its sign, as words, by value. (*Acc).fit: too great a real is bad. -/
import Derived.WalkKit
import Derived.Deep.MidRow
import Derived.Deep.WholeRow
import Derived.BigQuiet
import Derived.Lib.Hide
import Derived.Laws.AppendOwn
import Derived.Test.YtopilodakphhgaaGreatDoorProg
import Derived.WalkSpells
import Derived.WalkLawsBesides
import Derived.Outline
namespace Go.Proofs.YtopilodakphhgaaGreatDoor
set_option linter.unusedVariables false
set_option linter.unusedSimpArgs false
open Go Go.RowKit
/-- 2^64. -/
def B64 : Nat := 18446744073709551616
theorem B64_pos : 0 < B64 := by decide
theorem Bpow_pos (i : Nat) : 0 < B64 ^ i := Nat.pow_pos B64_pos
/-- Word i of X. -/
def wd (X i : Nat) : Nat := X / B64 ^ i % B64
theorem wd_lt (X i : Nat) : wd X i < B64 := Nat.mod_lt _ B64_pos
theorem wd_le (X i : Nat) : wd X i ≤ 18446744073709551615 := by have := wd_lt X i; unfold B64 at this; omega
/-- The first n words of X, as cells. -/
def wordCells (n X : Nat) : List Value := (List.range n).map fun i => .int .u64 (wd X i)
theorem wordCells_length (n X : Nat) : (wordCells n X).length = n := by simp [wordCells]
theorem wordCells_get (n X i : Nat) (h : i < n) : (wordCells n X)[i]? = some (.int .u64 (wd X i)) := by simp [wordCells, h]
/-- An Acc's cells. -/
def accCells (X : Nat) (bad : Bool) : Array Value := (wordCells 76 X ++ [Value.bool bad]).toArray
def arrCells (X : Nat) : Array Value := (wordCells 76 X).toArray
theorem accCells_size (X : Nat) (bad : Bool) : (accCells X bad).size = 77 := by simp [accCells, wordCells]
theorem arrCells_size (X : Nat) : (arrCells X).size = 76 := by simp [arrCells, wordCells]
theorem accCells_get (X : Nat) (bad : Bool) (i : Nat) (h : i < 76) : (accCells X bad)[i]? = some (.int .u64 (wd X i)) := by
  simp only [accCells, List.getElem?_toArray]
  rw [List.getElem?_append_left (by rw [wordCells_length]; exact h)]
  exact wordCells_get _ _ _ h
theorem accCells_bad (X : Nat) (bad : Bool) : (accCells X bad)[76]? = some (.bool bad) := by
  simp only [accCells, List.getElem?_toArray]
  rw [List.getElem?_append_right (by rw [wordCells_length]; exact Nat.le_refl _), wordCells_length]
  rfl
theorem arrCells_get (X : Nat) (i : Nat) (h : i < 76) : (arrCells X)[i]? = some (.int .u64 (wd X i)) := by
  simp only [arrCells, List.getElem?_toArray]
  exact wordCells_get _ _ _ h
theorem wordCells_one (n X : Nat) : ∀ u ∈ wordCells n X, u.oneCell' = true := by
  intro u hu
  simp only [wordCells, List.mem_map] at hu
  obtain ⟨i, _, rfl⟩ := hu
  rfl
theorem arrCells_one (X : Nat) : (arrCells X).all (·.oneCell') = true :=
  Array.all_eq_true_iff_forall_mem.2 (fun v hv => wordCells_one 76 X v (by simpa [arrCells] using hv))
/-! ### Words, put together -/
theorem wd_add (X i : Nat) : X % B64 ^ (i + 1) = X % B64 ^ i + wd X i * B64 ^ i := by
  unfold wd
  rw [Nat.pow_succ, Nat.mod_mul, Nat.mul_comm (B64 ^ i)]
/-- The lower i words of Y, the others of X. -/
def mix (i Y X : Nat) : Nat := Y % B64 ^ i + X / B64 ^ i * B64 ^ i
theorem mix_zero (Y X : Nat) : mix 0 Y X = X := by simp [mix, Nat.mod_one]
theorem mix_all (n Y X : Nat) (h : X < B64 ^ n) : mix n Y X = Y % B64 ^ n := by simp [mix, Nat.div_eq_of_lt h]
theorem wd_mix_lt (i j Y X : Nat) (h : j < i) : wd (mix i Y X) j = wd Y j := by
  unfold wd mix
  obtain ⟨d, rfl⟩ : ∃ d, i = j + 1 + d := ⟨i - (j + 1), by omega⟩
  have e : X / B64 ^ (j + 1 + d) * B64 ^ (j + 1 + d) = B64 ^ j * (B64 * (X / B64 ^ (j + 1 + d) * B64 ^ d)) := by
    rw [Nat.pow_add, Nat.pow_succ]; ac_rfl
  have e2 : Y % B64 ^ (j + 1 + d) = Y % B64 ^ j + B64 ^ j * (Y / B64 ^ j % B64 ^ (1 + d)) := by
    rw [Nat.add_assoc, Nat.pow_add, Nat.mod_mul]
  rw [e, e2, Nat.add_assoc, ← Nat.mul_add, Nat.add_mul_div_left _ _ (Bpow_pos j), Nat.div_eq_of_lt (Nat.mod_lt _ (Bpow_pos j)), Nat.zero_add, Nat.add_mul_mod_self_left]
  rw [Nat.add_comm 1 d, Nat.pow_succ, Nat.mod_mul_left_mod]
theorem wd_mix_ge (i j Y X : Nat) (h : i ≤ j) : wd (mix i Y X) j = wd X j := by
  unfold wd mix
  obtain ⟨d, rfl⟩ : ∃ d, j = i + d := ⟨j - i, by omega⟩
  rw [Nat.pow_add, ← Nat.div_div_eq_div_mul, Nat.add_mul_div_right _ _ (Bpow_pos i), Nat.div_eq_of_lt (Nat.mod_lt _ (Bpow_pos i)), Nat.zero_add, Nat.div_div_eq_div_mul]
theorem mix_step (i Y X : Nat) (j : Nat) : wd (mix (i + 1) Y X) j = if j = i then wd Y i else wd (mix i Y X) j := by
  by_cases h : j = i
  · subst h; rw [if_pos rfl, wd_mix_lt _ _ _ _ (Nat.lt_succ_self _)]
  · rw [if_neg h]
    by_cases h2 : j < i
    · rw [wd_mix_lt _ _ _ _ h2, wd_mix_lt _ _ _ _ (by omega)]
    · rw [wd_mix_ge _ _ _ _ (by omega), wd_mix_ge _ _ _ _ (by omega)]
theorem accCells_ext {X Y : Nat} (h : ∀ j, j < 76 → wd X j = wd Y j) (b : Bool) : accCells X b = accCells Y b := by
  unfold accCells wordCells
  congr 2
  exact List.map_congr_left fun i hi => by rw [h i (List.mem_range.1 hi)]
theorem arrCells_ext {X Y : Nat} (h : ∀ j, j < 76 → wd X j = wd Y j) : arrCells X = arrCells Y := by
  unfold arrCells wordCells
  congr 1
  exact List.map_congr_left fun i hi => by rw [h i (List.mem_range.1 hi)]
theorem acc_step (i Y X : Nat) (b : Bool) (u : Nat) (hu : u = wd Y i) (hi : i < 76) : (accCells (mix i Y X) b).setIfInBounds i (.int .u64 (u : Int)) = accCells (mix (i + 1) Y X) b := by
  subst hu
  apply Array.ext_getElem?
  intro j
  rw [Array.getElem?_setIfInBounds]
  by_cases h : i = j
  · subst h
    rw [if_pos rfl, if_pos (by rw [accCells_size]; omega), accCells_get _ _ _ hi, mix_step, if_pos rfl]
  · rw [if_neg h]
    by_cases hj : j < 76
    · rw [accCells_get _ _ _ hj, accCells_get _ _ _ hj, mix_step, if_neg (fun e => h e.symm)]
    · by_cases h6 : j = 76
      · subst h6; rw [accCells_bad, accCells_bad]
      · rw [Array.getElem?_eq_none (by rw [accCells_size]; omega), Array.getElem?_eq_none (by rw [accCells_size]; omega)]
theorem arr_step (i Y X : Nat) (u : Nat) (hu : u = wd Y i) (hi : i < 76) : (arrCells (mix i Y X)).setIfInBounds i (.int .u64 (u : Int)) = arrCells (mix (i + 1) Y X) := by
  subst hu
  apply Array.ext_getElem?
  intro j
  rw [Array.getElem?_setIfInBounds]
  by_cases h : i = j
  · subst h
    rw [if_pos rfl, if_pos (by rw [arrCells_size]; omega), arrCells_get _ _ hi, mix_step, if_pos rfl]
  · rw [if_neg h]
    by_cases hj : j < 76
    · rw [arrCells_get _ _ hj, arrCells_get _ _ hj, mix_step, if_neg (fun e => h e.symm)]
    · rw [Array.getElem?_eq_none (by rw [arrCells_size]; omega), Array.getElem?_eq_none (by rw [arrCells_size]; omega)]
/-! ### Sums and differences, word by word -/
def carry (X Y i : Nat) : Nat := (X % B64 ^ i + Y % B64 ^ i) / B64 ^ i
def borrow (X Y i : Nat) : Nat := if X % B64 ^ i < Y % B64 ^ i then 1 else 0
theorem carry_zero (X Y : Nat) : carry X Y 0 = 0 := by simp [carry, Nat.mod_one]
theorem borrow_zero (X Y : Nat) : borrow X Y 0 = 0 := by simp [borrow, Nat.mod_one]
theorem carry_le (X Y i : Nat) : carry X Y i ≤ 1 := by
  unfold carry
  have h1 := Nat.mod_lt X (Bpow_pos i)
  have h2 := Nat.mod_lt Y (Bpow_pos i)
  have : (X % B64 ^ i + Y % B64 ^ i) / B64 ^ i < 2 := (Nat.div_lt_iff_lt_mul (Bpow_pos i)).2 (by omega)
  omega
theorem borrow_le (X Y i : Nat) : borrow X Y i ≤ 1 := by unfold borrow; split <;> omega
theorem add_word (X Y i : Nat) : (wd X i + wd Y i + carry X Y i) % B64 = wd (X + Y) i ∧ (wd X i + wd Y i + carry X Y i) / B64 = carry X Y (i + 1) := by
  have hp := Bpow_pos i
  have e : (X % B64 ^ (i + 1) + Y % B64 ^ (i + 1)) = (X % B64 ^ i + Y % B64 ^ i) + B64 ^ i * (wd X i + wd Y i) := by
    rw [wd_add X i, wd_add Y i, Nat.mul_add, Nat.mul_comm (B64 ^ i), Nat.mul_comm (B64 ^ i)]; omega
  have e1 : (X % B64 ^ (i + 1) + Y % B64 ^ (i + 1)) / B64 ^ i = wd X i + wd Y i + carry X Y i := by
    rw [e, Nat.add_mul_div_left _ _ hp, carry]; omega
  constructor
  · rw [← e1]
    unfold wd
    have h3 : (X + Y) % B64 ^ (i + 1) = (X % B64 ^ (i + 1) + Y % B64 ^ (i + 1)) % B64 ^ (i + 1) := Nat.add_mod _ _ _
    have h4 : ∀ Z : Nat, Z / B64 ^ i % B64 = Z % B64 ^ (i + 1) / B64 ^ i := fun Z => by
      rw [Nat.pow_succ, Nat.mod_mul_right_div_self]
    rw [h4, h4 (X + Y), h3]
  · rw [← e1, Nat.div_div_eq_div_mul, ← Nat.pow_succ]; rfl
theorem sub_word (X Y i : Nat) (n : Nat) (hn : i < n) (hX : X < B64 ^ n) (hY : Y < B64 ^ n) :
    (wd X i + B64 - wd Y i - borrow X Y i) % B64 = wd (X + B64 ^ n - Y) i ∧ (if wd X i < wd Y i + borrow X Y i then 1 else 0) = borrow X Y (i + 1) := by
  have hp := Bpow_pos i
  have eX := wd_add X i
  have eY := wd_add Y i
  have lX := wd_lt X i
  have lY := wd_lt Y i
  have mX := Nat.mod_lt X hp
  have mY := Nat.mod_lt Y hp
  have hb : borrow X Y i = if X % B64 ^ i < Y % B64 ^ i then 1 else 0 := rfl
  have hb1 : borrow X Y (i + 1) = if X % B64 ^ (i + 1) < Y % B64 ^ (i + 1) then 1 else 0 := rfl
  constructor
  · -- modulo B^(i+1)
    have h4 : ∀ Z : Nat, Z / B64 ^ i % B64 = Z % B64 ^ (i + 1) / B64 ^ i := fun Z => by
      rw [Nat.pow_succ, Nat.mod_mul_right_div_self]
    obtain ⟨d, rfl⟩ : ∃ d, n = i + 1 + d := ⟨n - (i + 1), by omega⟩
    have hN : B64 ^ (i + 1 + d) = B64 ^ (i + 1) * B64 ^ d := Nat.pow_add _ _ _
    have hZ : (X + B64 ^ (i + 1 + d) - Y) % B64 ^ (i + 1) = (X % B64 ^ (i + 1) + B64 ^ (i + 1) - Y % B64 ^ (i + 1)) % B64 ^ (i + 1) := by
      have q1 := Nat.div_add_mod X (B64 ^ (i + 1))
      have q2 := Nat.div_add_mod Y (B64 ^ (i + 1))
      have r2 := Nat.mod_lt Y (Bpow_pos (i + 1))
      generalize B64 ^ (i + 1) = M at *
      have hYd : Y / M < B64 ^ d := by
        rw [Nat.div_lt_iff_lt_mul (by omega)]; rw [Nat.mul_comm, ← hN]; exact hY
      obtain ⟨s, hs⟩ : ∃ s, B64 ^ d = Y / M + 1 + s := ⟨B64 ^ d - (Y / M + 1), by omega⟩
      have e : X + B64 ^ (i + 1 + d) - Y = (X % M + M - Y % M) + M * (X / M + s) := by
        rw [hN, hs]
        have a1 : M * (Y / M + 1 + s) = M * (Y / M) + M + M * s := by rw [Nat.mul_add, Nat.mul_add, Nat.mul_one]
        have a2 : M * (X / M + s) = M * (X / M) + M * s := Nat.mul_add _ _ _
        rw [a1, a2]
        omega
      rw [e, Nat.add_mul_mod_self_left]
    unfold wd at eX eY lX lY ⊢
    rw [h4 (X + B64 ^ (i + 1 + d) - Y), hZ]
    rw [hb]
    generalize X / B64 ^ i % B64 = x at *
    generalize Y / B64 ^ i % B64 = y at *
    rw [eX, eY, Nat.pow_succ]
    generalize X % B64 ^ i = p at *
    generalize Y % B64 ^ i = q at *
    generalize B64 ^ i = M at *
    have e : p + x * M + M * B64 - (q + y * M) = (if p < q then p + M - q else p - q) + M * (x + B64 - y - if p < q then 1 else 0) := by
      have a1 : M * B64 = M * y + M * (B64 - y) := by rw [← Nat.mul_add]; congr 1; omega
      have a2 : x * M = M * x := Nat.mul_comm _ _
      have a3 : y * M = M * y := Nat.mul_comm _ _
      by_cases h : p < q
      · rw [if_pos h, if_pos h, a1, a2, a3]
        have a4 : M * (x + B64 - y - 1) = M * x + M * (B64 - y) - M := by
          have : M ≤ M * (B64 - y) := Nat.le_mul_of_pos_right _ (by omega)
          rw [Nat.sub_sub, Nat.add_sub_assoc (by omega), show B64 - (y + 1) = B64 - y - 1 from by omega, Nat.mul_add, Nat.mul_sub_one]
          omega
        rw [a4]
        have : M ≤ M * (B64 - y) := Nat.le_mul_of_pos_right _ (by omega)
        omega
      · have a5 : M * (x + B64 - y) = M * x + M * (B64 - y) := by rw [Nat.add_sub_assoc (by omega), Nat.mul_add]
        rw [if_neg h, if_neg h, a1, a2, a3, Nat.sub_zero, a5]
        omega
    have hz : (if p < q then p + M - q else p - q) < M := by split <;> omega
    rw [e, Nat.mod_mul_right_div_self, Nat.add_mul_div_left _ _ (by omega), Nat.div_eq_of_lt hz, Nat.zero_add]
  · rw [hb1, hb, eX, eY]
    generalize wd X i = x at *
    generalize wd Y i = y at *
    generalize X % B64 ^ i = p at *
    generalize Y % B64 ^ i = q at *
    generalize B64 ^ i = M at *
    by_cases h : p < q
    · rw [if_pos h]
      by_cases hxy : x < y + 1
      · rw [if_pos hxy, if_pos]
        have : x * M ≤ y * M := Nat.mul_le_mul_right _ (by omega)
        omega
      · rw [if_neg hxy, if_neg]
        have : (y + 1) * M ≤ x * M := Nat.mul_le_mul_right _ (by omega)
        rw [Nat.add_mul, Nat.one_mul] at this
        omega
    · rw [if_neg h]
      by_cases hxy : x < y + 0
      · rw [if_pos hxy, if_pos]
        have : (x + 1) * M ≤ y * M := Nat.mul_le_mul_right _ (by omega)
        rw [Nat.add_mul, Nat.one_mul] at this
        omega
      · rw [if_neg hxy, if_neg]
        have : y * M ≤ x * M := Nat.mul_le_mul_right _ (by omega)
        omega
/-! ### An Acc's real, as two's complement -/
def TOP : Nat := B64 ^ 76
theorem TOP_pos : 0 < TOP := Bpow_pos 76
def isNeg (X : Nat) : Bool := decide (TOP ≤ 2 * X)
def absX (X : Nat) : Nat := bif isNeg X then TOP - X else X
theorem neg_word_aux (K q M r X : Nat) (hK : 0 < K) (hM : 0 < M) (h4 : M * q + r = X) (h5 : r < M) (h1 : q < K + K) : q / K = 1 ↔ M * (K + K) ≤ 2 * X := by
  have e : M * (K + K) = M * K + M * K := Nat.mul_add _ _ _
  constructor
  · intro h
    have h7 := Nat.div_mul_le_self q K
    rw [h, Nat.one_mul] at h7
    have h6 : M * K ≤ M * q := Nat.mul_le_mul_left _ h7
    omega
  · intro h
    have h8 : K ≤ q := by
      by_cases hq : q < K
      · have h6 : M * (q + 1) ≤ M * K := Nat.mul_le_mul_left _ hq
        rw [Nat.mul_add, Nat.mul_one] at h6
        omega
      · omega
    have a1 : 1 ≤ q / K := (Nat.le_div_iff_mul_le hK).2 (by omega)
    have a2 : q / K < 2 := (Nat.div_lt_iff_lt_mul hK).2 (by omega)
    omega
theorem neg_word (X : Nat) (hX : X < TOP) : ((wd X 75 : Nat) / 9223372036854775808 == 1) = isNeg X := by
  have h1 : X / B64 ^ 75 < B64 := by rw [Nat.div_lt_iff_lt_mul (Bpow_pos 75), Nat.mul_comm, ← Nat.pow_succ]; exact hX
  have h2 : wd X 75 = X / B64 ^ 75 := Nat.mod_eq_of_lt h1
  have h3 : TOP = B64 ^ 75 * (9223372036854775808 + 9223372036854775808) := Nat.pow_succ B64 75
  unfold isNeg
  rw [h2, h3, Bool.eq_iff_iff, beq_iff_eq, decide_eq_true_iff]
  exact neg_word_aux 9223372036854775808 _ _ _ X (by decide) (Bpow_pos 75) (Nat.div_add_mod X (B64 ^ 75)) (Nat.mod_lt X (Bpow_pos 75)) h1
/-! ### What is held -/
def LIM : Nat := B64 ^ 74 * 68719476736
theorem LIM_le : LIM ≤ TOP := by
  have h : TOP = B64 ^ 74 * (B64 * B64) := by unfold TOP; rw [Nat.pow_succ, Nat.pow_succ, Nat.mul_assoc]
  rw [h]
  exact Nat.mul_le_mul_left _ (by decide)
theorem absX_lt (X : Nat) (hX : X < TOP) : absX X < TOP := by
  unfold absX
  cases h : isNeg X with
  | false => exact hX
  | true =>
    have h2 := of_decide_eq_true h
    have h3 := TOP_pos
    show TOP - X < TOP
    omega
theorem fit_words (Y : Nat) (hY : Y < TOP) : Y < LIM ↔ wd Y 74 / 68719476736 = 0 ∧ wd Y 75 = 0 := by
  have h1 : Y / B64 ^ 75 < B64 := by rw [Nat.div_lt_iff_lt_mul (Bpow_pos 75), Nat.mul_comm, ← Nat.pow_succ]; exact hY
  have h2 : wd Y 75 = Y / B64 ^ 75 := Nat.mod_eq_of_lt h1
  have h3 : wd Y 74 = Y / B64 ^ 74 % B64 := rfl
  have h4 : Y / B64 ^ 75 = Y / B64 ^ 74 / B64 := by rw [Nat.div_div_eq_div_mul, ← Nat.pow_succ]
  have h5 : Y < LIM ↔ Y / B64 ^ 74 < 68719476736 := by rw [Nat.div_lt_iff_lt_mul (Bpow_pos 74), Nat.mul_comm]; rfl
  rw [h5, h2, h3, h4]
  generalize Y / B64 ^ 74 = q
  unfold B64
  omega
set_option linter.unusedVariables false
set_option linter.unusedSimpArgs false
open Go Go.RowKit
theorem range_alloc {w : World} {b o : Nat} {cs : List Value} (h : w.rangeAt b o cs) (ob : Obj) (hb : b < w.heap.size) : (w.alloc ob).rangeAt b o cs := fun j v hv => by
  rw [World.cell?_alloc_lt _ _ _ hb]; exact h j v hv
theorem range_heap {w w1 : World} {b o : Nat} {cs : List Value} (h : w.rangeAt b o cs) (hb : w1.heap[b]? = w.heap[b]?) : w1.rangeAt b o cs := fun j v hv => by
  rw [World.cell?_of_block (a := ⟨b, o + j, none⟩) hb]; exact h j v hv
theorem wpList_store_last {P : Program} {ops : Array Oper} {rest : List Oper} {o : Oper} {a : Act} {w : World} {Q : Exit → Act → World → Prop} (hgd : o.guard = none) (ty : TypeId) (x y : Operand) (ho : o.op = .store ty x y)
    (g : Nat) (c cells : Array Value) (hg : g = w.heap.size) (hx : a.eval x = .pointer (some ⟨g, 0, none⟩)) (hy : a.eval y = .agg cells)
    (hi : (P.info? ty).map (·.size) = some cells.size) (hold : c.size = cells.size) (h1 : cells.all (·.oneCell') = true)
    (h : wpList P ops Q rest (a.put o.dst undef) (w.alloc (.cells cells ty))) : wpList P ops Q (o :: rest) a (w.alloc (.cells c ty)) := by
  subst hg
  refine wpList_store_row hgd ty x y ho w.heap.size cells hx hy ty c (heap_alloc_last w _) hi hold h1 ?_
  rw [World.setRow_alloc_new]
  exact h
theorem wpList_load_last {P : Program} {ops : Array Oper} {rest : List Oper} {o : Oper} {a : Act} {w : World} {Q : Exit → Act → World → Prop} (hgd : o.guard = none) (ty : TypeId) (x : Operand) (ho : o.op = .load ty x)
    (g : Nat) (c : Array Value) (d : TypeDesc) (hg : g = w.heap.size) (hx : a.eval x = .pointer (some ⟨g, 0, none⟩))
    (hu : P.underlying ty = some d) (hd : (match d with | .struct _ | .array _ _ => true | _ => false) = true) (hi : (P.info? ty).map (·.size) = some c.size)
    (h : wpList P ops Q rest (a.put o.dst (.agg c)) (w.alloc (.cells c ty))) : wpList P ops Q (o :: rest) a (w.alloc (.cells c ty)) := by
  subst hg
  exact wpList_load_row hgd ty x ho w.heap.size hx ty c (0, 0) d (heap_alloc_last w _) hu hd hi h
theorem wpList_load_range {P : Program} {ops : Array Oper} {rest : List Oper} {op : Oper} {a : Act} {w : World} {Q : Exit → Act → World → Prop} (hw : Region.wanted op (yielded ops a.tmps) = true) (ty : TypeId) (x : Operand) (ho : op.op = .load ty x)
    (b o : Nat) (hx : a.eval x = .pointer (some ⟨b, o, none⟩)) (cs : List Value) (d : TypeDesc) (hc : w.rangeAt b o cs)
    (hu : P.underlying ty = some d) (hd : d.isRow = true) (hi : (P.info? ty).map (·.size) = some cs.length)
    (h : wpList P ops Q rest (a.put op.dst (.agg cs.toArray)) w) : wpList P ops Q (op :: rest) a w :=
  wpList_step fun K hK => by rw [if_pos hw]; exact wp_load_mid ty x ho b o hx cs d hc hu hd hi (hK _ _ h)
set_option linter.unusedVariables false
set_option linter.unusedSimpArgs false
open Go Go.RowKit
/-- Block b holds an Acc's cells. -/
def AccAt (w : World) (b X : Nat) (bad : Bool) : Prop := w.heap[b]? = some (.cells (accCells X bad) 63 (0, 0))
theorem AccAt.cell {w : World} {b X : Nat} {bad : Bool} (h : AccAt w b X bad) (i : Nat) (hi : i < 76) : w.cell? ⟨b, i, none⟩ = some (.int .u64 (wd X i)) := by
  rw [cell_of_row w b i _ _ _ h]; exact accCells_get X bad i hi
theorem AccAt.bad {w : World} {b X : Nat} {bad : Bool} (h : AccAt w b X bad) : w.cell? ⟨b, 76, none⟩ = some (.bool bad) := by
  rw [cell_of_row w b 76 _ _ _ h]; exact accCells_bad X bad
theorem AccAt.range {w : World} {b X : Nat} {bad : Bool} (h : AccAt w b X bad) : w.rangeAt b 0 (wordCells 76 X) := fun j v hv => by
  have hj : j < 76 := by have := (List.getElem?_eq_some_iff.1 hv).1; rwa [wordCells_length] at this
  rw [Nat.zero_add, h.cell j hj, ← hv, wordCells_get _ _ _ hj]
theorem AccAt.alloc {w : World} {b X : Nat} {bad : Bool} (h : AccAt w b X bad) (o : Obj) : AccAt (w.alloc o) b X bad := by
  have hb : b < w.heap.size := by
    by_cases hb : b < w.heap.size
    · exact hb
    · unfold AccAt at h; rw [Array.getElem?_eq_none (by omega)] at h; cases h
  unfold AccAt
  rw [heap_alloc_old w o hb]
  exact h
theorem Tryz.info60 : (Tryz.prog.info? 61).map (·.size) = some 76 := by kernel_rfl
theorem info_arr (X : Nat) : (Tryz.prog.info? 61).map (·.size) = some (arrCells X).size := by rw [arrCells_size]; exact Tryz.info60
theorem info_words (X : Nat) : (Tryz.prog.info? 61).map (·.size) = some (wordCells 76 X).length := by rw [wordCells_length]; exact Tryz.info60
theorem arr_sizes (X Y : Nat) : (arrCells X).size = (arrCells Y).size := by rw [arrCells_size, arrCells_size]
theorem Tryz.infoAcc : (Tryz.prog.info? 63).map (·.size) = some 77 := by kernel_rfl
theorem neg_any (w : World) (b X : Nat) (bad : Bool) (h : AccAt w b X bad) (hX : X < TOP) :
    Calls Tryz.prog 38 #[.pointer (some ⟨b, 0, none⟩)] w fun e w' => e = .returned (.bool (isNeg X)) ∧ w = w' := by
  have hc := h.cell 75 (by decide)
  have hl := wd_le X 75
  have hn := Lib.hid (neg_word X hX)
  clear h hX
  go_enter Tryz.func38, Tryz.ntmps38
  go_wp2
  go_ret
  refine ⟨congrArg (fun v => Ending.returned (.bool v)) ?_, rfl⟩
  rw [← hn.out, Bool.eq_iff_iff, beq_iff_eq, beq_iff_eq]
  omega
set_option maxRecDepth 100000 in
theorem new_any (w : World) :
    Calls Tryz.prog 6 #[] w fun e w' => e = .returned (.pointer (some ⟨w.heap.size, 0, none⟩)) ∧ w.alloc (.cells (accCells 0 false) 63) = w' := by
  go_enter Tryz.func6, Tryz.ntmps6
  go_wp2
  go_ret
  exact ⟨rfl, rfl⟩
theorem run_sub (x y c : Int) (d c' : Nat) (w : World) (hx : 0 ≤ x) (hy : 0 ≤ y) (h0 : 0 ≤ c) (h1 : c ≤ 1) (hd : (x.toNat + B64 - y.toNat - c.toNat) % B64 = d) (hc : (if x.toNat < y.toNat + c.toNat then 1 else 0) = c') :
    Sem.run Tryz.prog (callFunc 71 #[.int .u64 x, .int .u64 y, .int .u64 c]) w = .ok (.value (.tuple #[.int .u64 d, .int .u64 c'])) w := by
  subst hd hc
  have h01 : c = 0 ∨ c = 1 := by omega
  have key : ∀ c : Int, c = 0 ∨ c = 1 → Sem.run Tryz.prog (callFunc 71 #[.int .u64 x, .int .u64 y, .int .u64 c]) w = .ok (.value (.tuple #[.int .u64 ((x.toNat + 18446744073709551616 - y.toNat - c.toNat) % 18446744073709551616 : Nat), .int .u64 ((if x.toNat < y.toNat + c.toNat then 1 else 0) : Nat)])) w := by
    rintro c (rfl | rfl)
    · kernel_rfl
    · kernel_rfl
  exact key c h01
theorem run_add (x y c : Int) (d c' : Nat) (w : World) (hx : 0 ≤ x) (hy : 0 ≤ y) (h0 : 0 ≤ c) (h1 : c ≤ 1) (hd : (x.toNat + y.toNat + c.toNat) % B64 = d) (hc : (x.toNat + y.toNat + c.toNat) / B64 = c') :
    Sem.run Tryz.prog (callFunc 72 #[.int .u64 x, .int .u64 y, .int .u64 c]) w = .ok (.value (.tuple #[.int .u64 d, .int .u64 c'])) w := by
  subst hd hc
  have h01 : c = 0 ∨ c = 1 := by omega
  have key : ∀ c : Int, c = 0 ∨ c = 1 → Sem.run Tryz.prog (callFunc 72 #[.int .u64 x, .int .u64 y, .int .u64 c]) w = .ok (.value (.tuple #[.int .u64 ((x.toNat + y.toNat + c.toNat) % 18446744073709551616 : Nat), .int .u64 ((x.toNat + y.toNat + c.toNat) / 18446744073709551616 : Nat)])) w := by
    rintro c (rfl | rfl)
    · kernel_rfl
    · kernel_rfl
  exact key c h01
theorem wd_zero (k : Nat) : wd 0 k = 0 := by unfold wd; rw [Nat.zero_div]; rfl
theorem run_sub_nat (x y c d c' : Nat) (h1 : c ≤ 1) (hd : (x + B64 - y - c) % B64 = d) (hc : (if x < y + c then 1 else 0) = c') (w : World) :
    Sem.run Tryz.prog (callFunc 71 #[.int .u64 x, .int .u64 y, .int .u64 c]) w = .ok (.value (.tuple #[.int .u64 d, .int .u64 c'])) w :=
  run_sub x y c d c' w (by omega) (by omega) (by omega) (by omega) hd hc
theorem run_sub_zero (y c d c' : Nat) (h1 : c ≤ 1) (hd : (0 + B64 - y - c) % B64 = d) (hc : (if 0 < y + c then 1 else 0) = c') (w : World) :
    Sem.run Tryz.prog (callFunc 71 #[.int .u64 0, .int .u64 y, .int .u64 c]) w = .ok (.value (.tuple #[.int .u64 d, .int .u64 c'])) w :=
  run_sub 0 y c d c' w (by omega) (by omega) (by omega) (by omega) hd hc
theorem run_add_nat (x y c d c' : Nat) (h1 : c ≤ 1) (hd : (x + y + c) % B64 = d) (hc : (x + y + c) / B64 = c') (w : World) :
    Sem.run Tryz.prog (callFunc 72 #[.int .u64 x, .int .u64 y, .int .u64 c]) w = .ok (.value (.tuple #[.int .u64 d, .int .u64 c'])) w :=
  run_add x y c d c' w (by omega) (by omega) (by omega) (by omega) hd hc
theorem run_add_zero (x c d c' : Nat) (h1 : c ≤ 1) (hd : (x + 0 + c) % B64 = d) (hc : (x + 0 + c) / B64 = c') (w : World) :
    Sem.run Tryz.prog (callFunc 72 #[.int .u64 x, .int .u64 0, .int .u64 c]) w = .ok (.value (.tuple #[.int .u64 d, .int .u64 c'])) w :=
  run_add x 0 c d c' w (by omega) (by omega) (by omega) (by omega) hd hc
theorem run_sub_nil (x c d c' : Nat) (h1 : c ≤ 1) (hd : (x + B64 - 0 - c) % B64 = d) (hc : (if x < 0 + c then 1 else 0) = c') (w : World) :
    Sem.run Tryz.prog (callFunc 71 #[.int .u64 x, .int .u64 0, .int .u64 c]) w = .ok (.value (.tuple #[.int .u64 d, .int .u64 c'])) w :=
  run_sub x 0 c d c' w (by omega) (by omega) (by omega) (by omega) hd hc
set_option linter.unusedVariables false
set_option linter.unusedSimpArgs false
open Go Go.RowKit
set_option maxRecDepth 100000
theorem zeros76 : (Tryz.prog.info? 61).map (fun i => (i.zero, i.size)) = some (some (.agg (arrCells 0)), 76) := by kernel_rfl
theorem size_done (X : Nat) (hX : X < TOP) : arrCells (mix 76 (TOP - X) X) = arrCells (TOP - X) := by
  refine arrCells_ext fun j hj => ?_
  rw [wd_mix_lt _ _ _ _ hj]
theorem size_below (w : World) (a b c : Array Value) : Below w.heap.size w (((w.alloc (Obj.cells a 61)).alloc (Obj.cells b 61)).setRow w.heap.size c) :=
  ⟨rfl, rfl, rfl, by simp; omega, fun k hk => by rw [setRow_other _ _ _ _ (by omega), heap_alloc_old _ _ (by simp; omega), heap_alloc_old _ _ hk]⟩
set_option maxHeartbeats 1000000 in
theorem size_any (w : World) (b X : Nat) (bad : Bool) (h : AccAt w b X bad) (hX : X < TOP) (hb : b < w.heap.size) :
    Calls Tryz.prog 63 #[.pointer (some ⟨b, 0, none⟩)] w fun e w' => e = .returned (.agg (arrCells (absX X))) ∧ Below w.heap.size w w' := by
  have hr := h.range
  have hz60 := (zero_of_info zeros76).1
  go_enter Tryz.func63, Tryz.ntmps63
  go_wp2_with (first
    | (refine wpList_load_mid rfl 61 (.tmp 8) rfl b 0 rfl (wordCells 76 X) _ (range_alloc hr _ hb) Tryz.underlying61 rfl (info_words _) ?_)
    | (refine wpList_store_last rfl 61 (.tmp 3) (.tmp 9) rfl (w.heap.size + 1) (arrCells 0) (arrCells X) (by simp) rfl rfl (info_arr _) (arr_sizes _ _) (arrCells_one X) ?_))
  refine (neg_any _ b X bad ((h.alloc _).alloc _) hX).mono ?_
  rintro e w' ⟨rfl, rfl⟩
  cases hn : isNeg X with
  | false =>
    go_wp2_with (first
      | (refine wpList_load_last rfl 61 (.tmp 3) rfl (w.heap.size + 1) (arrCells X) _ (by simp) rfl Tryz.underlying61 rfl (info_arr _) ?_)
      | (refine wpList_store_row rfl 61 (.tmp 2) (.tmp 26) rfl w.heap.size (arrCells X) rfl rfl 61 (arrCells 0) (heap_alloc2_old w _ _) (info_arr _) (arr_sizes _ _) (arrCells_one X) ?_))
    refine bodyPost_ret (v := .agg (arrCells X)) (results_cell_row rfl _ _ w.heap.size 61 (arrCells X) (0, 0) _ rfl (setRow_heap _ _ (arrCells 0) _ _ _ (heap_alloc2_old w _ _)) Tryz.underlying61 rfl (info_arr _)) rfl ⟨?_, ?_⟩
    · rw [absX, hn]; rfl
    · exact size_below w _ _ _
  | true =>
    have hab : absX X = TOP - X := by rw [absX, hn]; rfl
    have Hab := Lib.hid hab
    clear hab hn
    go_wp2_with fail
    go_loopw [4, 12] (fun c i wr => ∃ k : Nat, k ≤ 76 ∧ i = .int .i64 k ∧ c = .int .u64 (borrow 0 X k : Nat) ∧ wr = (w.alloc (Obj.cells (arrCells 0) 61)).alloc (Obj.cells (arrCells (mix k (TOP - X) X)) 61)) (fun _ i _ => 76 - (intOf i).toNat)
    case atStart => exact ⟨0, by omega, rfl, by rw [borrow_zero]; rfl, by rw [mix_zero]⟩
    case round =>
      obtain ⟨k, hk, rfl, rfl, rfl⟩ := hrel
      by_cases hlt : k < 76
      · have hc : (arrCells (mix k (TOP - X) X))[k]? = some (.int .u64 (wd X k : Nat)) := by rw [arrCells_get _ _ hlt, wd_mix_ge _ _ _ _ (Nat.le_refl k)]
        have hw := sub_word 0 X k 76 hlt TOP_pos hX
        rw [wd_zero, show 0 + B64 ^ 76 - X = TOP - X from by rw [Nat.zero_add]; rfl] at hw
        have hbl := borrow_le 0 X k
        have hs := run_sub_zero (wd X k) (borrow 0 X k) _ _ hbl hw.1 hw.2
        have hstep := arr_step k (TOP - X) X _ rfl hlt
        clear hw
        go_wp2_with fail
        go_roundw
        case rel => exact ⟨k + 1, by omega, by go_num, rfl, rfl⟩
        case measure => simp [intOf]; omega
      · obtain rfl : k = 76 := by omega
        go_wp2_with (first
          | (refine wpList_load_last rfl 61 (.tmp 3) rfl (w.heap.size + 1) (arrCells (mix 76 (TOP - X) X)) _ (by simp) rfl Tryz.underlying61 rfl (info_arr _) ?_)
          | (refine wpList_store_row rfl 61 (.tmp 2) (.tmp 26) rfl w.heap.size (arrCells (mix 76 (TOP - X) X)) rfl rfl 61 (arrCells 0) (heap_alloc2_old w _ _) (info_arr _) (arr_sizes _ _) (arrCells_one _) ?_))
        refine bodyPost_ret (v := .agg (arrCells (mix 76 (TOP - X) X))) (results_cell_row rfl _ _ w.heap.size 61 (arrCells (mix 76 (TOP - X) X)) (0, 0) _ rfl (setRow_heap _ _ (arrCells 0) _ _ _ (heap_alloc2_old w _ _)) Tryz.underlying61 rfl (info_arr _)) rfl ⟨?_, ?_⟩
        · rw [Hab.out, size_done X hX]
        · exact size_below w _ _ _
set_option linter.unusedVariables false
set_option linter.unusedSimpArgs false
open Go Go.RowKit
/-- Kept, or bad. -/
def FitAt (w : World) (b X : Nat) : Prop := (absX X < LIM → AccAt w b X false) ∧ (LIM ≤ absX X → AccAt w b 0 true)
theorem AccAt.below {w w1 : World} {b X : Nat} {bad : Bool} (h : AccAt w b X bad) {B : Nat} (hb : b < B) (hw : Below B w w1) : AccAt w1 b X bad := (hw.block b hb).trans h
theorem AccAt.lt {w : World} {b X : Nat} {bad : Bool} (h : AccAt w b X bad) : b < w.heap.size := by
  by_cases hb : b < w.heap.size
  · exact hb
  · unfold AccAt at h; rw [Array.getElem?_eq_none (by omega)] at h; cases h
theorem grown_of_below {w w1 : World} {row : Option Nat} (h : Below w.heap.size w w1) : w.grownBy w1 row := ⟨h.os, h.tape, h.output, h.size, fun k hk _ => h.block k hk⟩
theorem grown_trans {w w1 w2 : World} {row : Option Nat} (h : w.grownBy w1 row) (h2 : w1.grownBy w2 row) : w.grownBy w2 row :=
  ⟨h2.os.trans h.os, h2.tape.trans h.tape, h2.output.trans h.output, Nat.le_trans h.size h2.size, fun k hk hr => (h2.block k (Nat.lt_of_lt_of_le hk h.size) hr).trans (h.block k hk hr)⟩
theorem grown_drew {w w1 : World} {row : Option Nat} (h : w.grownBy w1 row) : w.grownBy w1.drew row := ⟨h.os, h.tape, h.output, h.size, h.block⟩
theorem grown_drewN {w w1 : World} {row : Option Nat} (h : w.grownBy w1 row) (n : Nat) : w.grownBy (w1.drewN n) row := ⟨h.os, h.tape, h.output, h.size, h.block⟩
theorem grown_setRow (w : World) (g : Nat) (c : Array Value) : w.grownBy (w.setRow g c) (some g) := ⟨rfl, rfl, rfl, by simp, fun k _ hk => setRow_other _ _ _ _ (fun e => hk (by rw [e]))⟩
set_option maxRecDepth 100000
theorem acc_one (X : Nat) (b : Bool) : (accCells X b).all (·.oneCell') = true :=
  Array.all_eq_true_iff_forall_mem.2 (fun v hv => by
    have : v ∈ wordCells 76 X ∨ v = Value.bool b := by simpa [accCells] using hv
    rcases this with h | rfl
    · exact wordCells_one 76 X v h
    · rfl)
theorem info_acc (X : Nat) (b : Bool) : (Tryz.prog.info? 63).map (·.size) = some (accCells X b).size := by rw [accCells_size]; exact Tryz.infoAcc
theorem acc_sizes (X Y : Nat) (b c : Bool) : (accCells X b).size = (accCells Y c).size := by rw [accCells_size, accCells_size]
set_option maxHeartbeats 1000000 in
theorem fit_any (w : World) (b X : Nat) (h : AccAt w b X false) (hX : X < TOP) :
    Calls Tryz.prog 73 #[.pointer (some ⟨b, 0, none⟩)] w fun e w' => e = .returned (.tuple #[]) ∧ FitAt w' b X ∧ w.grownBy w' (some b) := by
  have hb := h.lt
  have hz60 := (zero_of_info zeros76).1
  have hY := absX_lt X hX
  have hfw := Lib.hid (fit_words _ hY)
  go_enter Tryz.func73, Tryz.ntmps73
  go_wp2_with fail
  refine (size_any w b X false h hX hb).mono ?_
  rintro e w1 ⟨rfl, hb1⟩
  have h1 := h.below hb hb1
  have hs1 := hb1.size
  have hg1 : w.grownBy w1 (some b) := grown_of_below hb1
  generalize hYY : absX X = Y at *
  have HYY := Lib.hid hYY
  clear hYY h hb1
  go_wp2_with (refine wpList_store_last rfl 61 (.tmp 2) (.tmp 6) rfl w1.heap.size (arrCells 0) (arrCells Y) rfl rfl rfl (info_arr _) (arr_sizes _ _) (arrCells_one Y) ?_)
  have hc4 := arrCells_get Y 74 (by decide)
  have hc5 := arrCells_get Y 75 (by decide)
  have hl4 := wd_le Y 74
  have hl5 := wd_le Y 75
  go_loop [3] (fun i => (i = .int .i64 74) ∨ (i = .int .i64 75 ∧ wd Y 74 / 68719476736 = 0) ∨ (i = .int .i64 76 ∧ wd Y 74 / 68719476736 = 0 ∧ wd Y 75 = 0)) (fun i => 76 - (intOf i).toNat)
  case atStart => exact Or.inl rfl
  case round =>
    rcases hrel with rfl | ⟨rfl, hz⟩ | ⟨rfl, hz, hz5⟩
    · by_cases hz : (wd Y 74 : Int) / 68719476736 = 0
      · have hq : ((wd Y 74 : Int) / 68719476736 != 0) = false := by rw [bne_eq_false_iff_eq]; exact hz
        have hz' : wd Y 74 / 68719476736 = 0 := by omega
        have Hz := Lib.hid hz'
        clear hz hz'
        go_wp2_with fail
        go_round
        case rel => exact Or.inr (Or.inl ⟨rfl, Hz.out⟩)
        case measure => decide
      · have hq : ((wd Y 74 : Int) / 68719476736 != 0) = true := by rw [bne_iff_ne]; exact hz
        have Hn := Lib.hid (show ¬ Y < LIM from fun hlt => hz (by have := (hfw.out.1 hlt).1; omega))
        clear hz
        go_wp2_with (refine wpList_store_row rfl 63 (.tmp 22) (.tmp 21) rfl b (accCells 0 true) rfl (by kernel_rfl) 63 (accCells X false) (h1.alloc _) (info_acc _ _) (acc_sizes _ _ _ _) (acc_one _ _) ?_)
        refine bodyPost_ret (results_none rfl _ _ _) rfl ?_
        exact ⟨rfl, ⟨fun hlt => absurd hlt (by rw [HYY.out]; exact Hn.out), fun _ => setRow_heap _ _ (accCells X false) _ _ _ (h1.alloc _)⟩, grown_trans (grown_trans hg1 (World.grownBy_alloc _ _ _)) (grown_setRow _ _ _)⟩
    · have Hz := Lib.hid hz
      clear hz
      by_cases hz : (wd Y 75 : Int) = 0
      · have hq : ((wd Y 75 : Int) != 0) = false := by rw [bne_eq_false_iff_eq]; exact hz
        have hz' : wd Y 75 = 0 := by omega
        have Hz5 := Lib.hid hz'
        clear hz hz'
        go_wp2_with fail
        go_round
        case rel => exact Or.inr (Or.inr ⟨rfl, Hz.out, Hz5.out⟩)
        case measure => decide
      · have hq : ((wd Y 75 : Int) != 0) = true := by rw [bne_iff_ne]; exact hz
        have Hn := Lib.hid (show ¬ Y < LIM from fun hlt => hz (by have := (hfw.out.1 hlt).2; omega))
        clear hz
        go_wp2_with (refine wpList_store_row rfl 63 (.tmp 22) (.tmp 21) rfl b (accCells 0 true) rfl (by kernel_rfl) 63 (accCells X false) (h1.alloc _) (info_acc _ _) (acc_sizes _ _ _ _) (acc_one _ _) ?_)
        refine bodyPost_ret (results_none rfl _ _ _) rfl ?_
        exact ⟨rfl, ⟨fun hlt => absurd hlt (by rw [HYY.out]; exact Hn.out), fun _ => setRow_heap _ _ (accCells X false) _ _ _ (h1.alloc _)⟩, grown_trans (grown_trans hg1 (World.grownBy_alloc _ _ _)) (grown_setRow _ _ _)⟩
    · have Hz := Lib.hid hz
      have Hz5 := Lib.hid hz5
      clear hz hz5
      go_wp2_with fail
      go_end0
      exact ⟨rfl, ⟨fun _ => h1.alloc _, fun hle => absurd (hfw.out.2 ⟨Hz.out, Hz5.out⟩) (by rw [← HYY.out]; exact Nat.not_lt.2 hle)⟩, grown_trans hg1 (World.grownBy_alloc _ _ _)⟩
end Go.Proofs.YtopilodakphhgaaGreatDoor
