/-
 Plain facts on words of 64 bits: a natural number's words, rows of cells that hold them, sums and differences word by word. No program. Laws on whole rows that the walks of acc use: a row stored into the block that was laid last; a range behind a new block. No program. An Acc in memory; its small methods: neg, Bad, New, size. (*Acc).size: the real without its sign, as words, by value. (*Acc).fit: too great a real is bad.
 math/big's nat: rows of words of the call's own; make, norm. math/big's nat out of bytes: bigEndianWord, setBytes. (nat).setBytes of 608 bytes, into a new row.
 math/big's rshVU (its Go twin): words shifted down. Laws on rows of words: copy, clear. (nat).rsh into a new row. math/big's lshVU (its Go twin): words shifted up. (nat).lsh, set, same, alias: into a new row.
 (nat).sub of rows of one length; bits.Sub, subVV. (nat).cmp.
-/
import Derived.WalkKit
import Derived.Deep.MidRow
import Derived.Deep.WholeRow
import Derived.BigQuiet
import Derived.Lib.Hide
import Derived.Laws.AppendOwn
import Derived.Test.YtpfbgenefjhcjaaGreatDoorProg
import Derived.WalkSpells
import Derived.WalkLawsBesides
import Derived.Outline
import Derived.Laws.MakeOwn
import Derived.Laws.BitsAllLaws
import Derived.BigRegion
import Derived.RegionTactic
import Derived.Laws.CopyOwn
import Derived.Lib.SliceRun
import Derived.Deep.QuietTactic
import Derived.StillTailTactics
namespace Go.Proofs.YtpfbgenefjhcjaaGreatDoor
set_option linter.unusedVariables false
set_option linter.unusedSimpArgs false
open Go Go.RowKit
/-- 2^64. -/
def B64 : Nat := 18446744073709551616
theorem B64_pos : 0 < B64 := by decide
theorem Bpow_pos (i : Nat) : 0 < B64 ^ i := Nat.pow_pos B64_pos
/-- Word i of X. -/
def wd (X i : Nat) : Nat := X / B64 ^ i % B64
theorem wd_lt (X i : Nat) : wd X i < B64 := Nat.mod_lt _ B64_pos
theorem wd_le (X i : Nat) : wd X i ≤ 18446744073709551615 := by have := wd_lt X i; unfold B64 at this; omega
/-- The first n words of X, as cells. -/
def wordCells (n X : Nat) : List Value := (List.range n).map fun i => .int .u64 (wd X i)
theorem wordCells_length (n X : Nat) : (wordCells n X).length = n := by simp [wordCells]
theorem wordCells_get (n X i : Nat) (h : i < n) : (wordCells n X)[i]? = some (.int .u64 (wd X i)) := by simp [wordCells, h]
/-- An Acc's cells. -/
def accCells (X : Nat) (bad : Bool) : Array Value := (wordCells 76 X ++ [Value.bool bad]).toArray
def arrCells (X : Nat) : Array Value := (wordCells 76 X).toArray
theorem accCells_size (X : Nat) (bad : Bool) : (accCells X bad).size = 77 := by simp [accCells, wordCells]
theorem arrCells_size (X : Nat) : (arrCells X).size = 76 := by simp [arrCells, wordCells]
theorem accCells_get (X : Nat) (bad : Bool) (i : Nat) (h : i < 76) : (accCells X bad)[i]? = some (.int .u64 (wd X i)) := by
 simp only [accCells, List.getElem?_toArray]
 rw [List.getElem?_append_left (by rw [wordCells_length]; exact h)]
 exact wordCells_get _ _ _ h
theorem accCells_bad (X : Nat) (bad : Bool) : (accCells X bad)[76]? = some (.bool bad) := by
 simp only [accCells, List.getElem?_toArray]
 rw [List.getElem?_append_right (by rw [wordCells_length]; exact Nat.le_refl _), wordCells_length]
 rfl
theorem arrCells_get (X : Nat) (i : Nat) (h : i < 76) : (arrCells X)[i]? = some (.int .u64 (wd X i)) := by
 simp only [arrCells, List.getElem?_toArray]
 exact wordCells_get _ _ _ h
theorem wordCells_one (n X : Nat) : ∀ u ∈ wordCells n X, u.oneCell' = true := by
 intro u hu
 simp only [wordCells, List.mem_map] at hu
 obtain ⟨i, _, rfl⟩ := hu
 rfl
theorem arrCells_one (X : Nat) : (arrCells X).all (·.oneCell') = true :=
 Array.all_eq_true_iff_forall_mem.2 (fun v hv => wordCells_one 76 X v (by simpa [arrCells] using hv))
/-! ### Words, put together -/
theorem wd_add (X i : Nat) : X % B64 ^ (i + 1) = X % B64 ^ i + wd X i * B64 ^ i := by
 unfold wd
 rw [Nat.pow_succ, Nat.mod_mul, Nat.mul_comm (B64 ^ i)]
/-- The lower i words of Y, the others of X. -/
def mix (i Y X : Nat) : Nat := Y % B64 ^ i + X / B64 ^ i * B64 ^ i
theorem mix_zero (Y X : Nat) : mix 0 Y X = X := by simp [mix, Nat.mod_one]
theorem mix_all (n Y X : Nat) (h : X < B64 ^ n) : mix n Y X = Y % B64 ^ n := by simp [mix, Nat.div_eq_of_lt h]
theorem wd_mix_lt (i j Y X : Nat) (h : j < i) : wd (mix i Y X) j = wd Y j := by
 unfold wd mix
 obtain ⟨d, rfl⟩ : ∃ d, i = j + 1 + d := ⟨i - (j + 1), by omega⟩
 have e : X / B64 ^ (j + 1 + d) * B64 ^ (j + 1 + d) = B64 ^ j * (B64 * (X / B64 ^ (j + 1 + d) * B64 ^ d)) := by
  rw [Nat.pow_add, Nat.pow_succ]; ac_rfl
 have e2 : Y % B64 ^ (j + 1 + d) = Y % B64 ^ j + B64 ^ j * (Y / B64 ^ j % B64 ^ (1 + d)) := by
  rw [Nat.add_assoc, Nat.pow_add, Nat.mod_mul]
 rw [e, e2, Nat.add_assoc, ← Nat.mul_add, Nat.add_mul_div_left _ _ (Bpow_pos j), Nat.div_eq_of_lt (Nat.mod_lt _ (Bpow_pos j)), Nat.zero_add, Nat.add_mul_mod_self_left]
 rw [Nat.add_comm 1 d, Nat.pow_succ, Nat.mod_mul_left_mod]
theorem wd_mix_ge (i j Y X : Nat) (h : i ≤ j) : wd (mix i Y X) j = wd X j := by
 unfold wd mix
 obtain ⟨d, rfl⟩ : ∃ d, j = i + d := ⟨j - i, by omega⟩
 rw [Nat.pow_add, ← Nat.div_div_eq_div_mul, Nat.add_mul_div_right _ _ (Bpow_pos i), Nat.div_eq_of_lt (Nat.mod_lt _ (Bpow_pos i)), Nat.zero_add, Nat.div_div_eq_div_mul]
theorem mix_step (i Y X : Nat) (j : Nat) : wd (mix (i + 1) Y X) j = if j = i then wd Y i else wd (mix i Y X) j := by
 by_cases h : j = i
 ·subst h; rw [if_pos rfl, wd_mix_lt _ _ _ _ (Nat.lt_succ_self _)]
 ·rw [if_neg h]
  by_cases h2 : j < i
  ·rw [wd_mix_lt _ _ _ _ h2, wd_mix_lt _ _ _ _ (by omega)]
  ·rw [wd_mix_ge _ _ _ _ (by omega), wd_mix_ge _ _ _ _ (by omega)]
theorem accCells_ext {X Y : Nat} (h : ∀ j, j < 76 → wd X j = wd Y j) (b : Bool) : accCells X b = accCells Y b := by
 unfold accCells wordCells
 congr 2
 exact List.map_congr_left fun i hi => by rw [h i (List.mem_range.1 hi)]
theorem arrCells_ext {X Y : Nat} (h : ∀ j, j < 76 → wd X j = wd Y j) : arrCells X = arrCells Y := by
 unfold arrCells wordCells
 congr 1
 exact List.map_congr_left fun i hi => by rw [h i (List.mem_range.1 hi)]
theorem acc_step (i Y X : Nat) (b : Bool) (u : Nat) (hu : u = wd Y i) (hi : i < 76) : (accCells (mix i Y X) b).setIfInBounds i (.int .u64 (u : Int)) = accCells (mix (i + 1) Y X) b := by
 subst hu
 apply Array.ext_getElem?
 intro j
 rw [Array.getElem?_setIfInBounds]
 by_cases h : i = j
 ·subst h
  rw [if_pos rfl, if_pos (by rw [accCells_size]; omega), accCells_get _ _ _ hi, mix_step, if_pos rfl]
 ·rw [if_neg h]
  by_cases hj : j < 76
  ·rw [accCells_get _ _ _ hj, accCells_get _ _ _ hj, mix_step, if_neg (fun e => h e.symm)]
  ·by_cases h6 : j = 76
   ·subst h6; rw [accCells_bad, accCells_bad]
   ·rw [Array.getElem?_eq_none (by rw [accCells_size]; omega), Array.getElem?_eq_none (by rw [accCells_size]; omega)]
theorem arr_step (i Y X : Nat) (u : Nat) (hu : u = wd Y i) (hi : i < 76) : (arrCells (mix i Y X)).setIfInBounds i (.int .u64 (u : Int)) = arrCells (mix (i + 1) Y X) := by
 subst hu
 apply Array.ext_getElem?
 intro j
 rw [Array.getElem?_setIfInBounds]
 by_cases h : i = j
 ·subst h
  rw [if_pos rfl, if_pos (by rw [arrCells_size]; omega), arrCells_get _ _ hi, mix_step, if_pos rfl]
 ·rw [if_neg h]
  by_cases hj : j < 76
  ·rw [arrCells_get _ _ hj, arrCells_get _ _ hj, mix_step, if_neg (fun e => h e.symm)]
  ·rw [Array.getElem?_eq_none (by rw [arrCells_size]; omega), Array.getElem?_eq_none (by rw [arrCells_size]; omega)]
/-! ### Sums and differences, word by word -/
def carry (X Y i : Nat) : Nat := (X % B64 ^ i + Y % B64 ^ i) / B64 ^ i
def borrow (X Y i : Nat) : Nat := if X % B64 ^ i < Y % B64 ^ i then 1 else 0
theorem carry_zero (X Y : Nat) : carry X Y 0 = 0 := by simp [carry, Nat.mod_one]
theorem borrow_zero (X Y : Nat) : borrow X Y 0 = 0 := by simp [borrow, Nat.mod_one]
theorem carry_le (X Y i : Nat) : carry X Y i ≤ 1 := by
 unfold carry
 have h1 := Nat.mod_lt X (Bpow_pos i)
 have h2 := Nat.mod_lt Y (Bpow_pos i)
 have : (X % B64 ^ i + Y % B64 ^ i) / B64 ^ i < 2 := (Nat.div_lt_iff_lt_mul (Bpow_pos i)).2 (by omega)
 omega
theorem borrow_le (X Y i : Nat) : borrow X Y i ≤ 1 := by unfold borrow; split <;> omega
theorem add_word (X Y i : Nat) : (wd X i + wd Y i + carry X Y i) % B64 = wd (X + Y) i ∧ (wd X i + wd Y i + carry X Y i) / B64 = carry X Y (i + 1) := by
 have hp := Bpow_pos i
 have e : (X % B64 ^ (i + 1) + Y % B64 ^ (i + 1)) = (X % B64 ^ i + Y % B64 ^ i) + B64 ^ i * (wd X i + wd Y i) := by
  rw [wd_add X i, wd_add Y i, Nat.mul_add, Nat.mul_comm (B64 ^ i), Nat.mul_comm (B64 ^ i)]; omega
 have e1 : (X % B64 ^ (i + 1) + Y % B64 ^ (i + 1)) / B64 ^ i = wd X i + wd Y i + carry X Y i := by
  rw [e, Nat.add_mul_div_left _ _ hp, carry]; omega
 constructor
 ·rw [← e1]
  unfold wd
  have h3 : (X + Y) % B64 ^ (i + 1) = (X % B64 ^ (i + 1) + Y % B64 ^ (i + 1)) % B64 ^ (i + 1) := Nat.add_mod _ _ _
  have h4 : ∀ Z : Nat, Z / B64 ^ i % B64 = Z % B64 ^ (i + 1) / B64 ^ i := fun Z => by
   rw [Nat.pow_succ, Nat.mod_mul_right_div_self]
  rw [h4, h4 (X + Y), h3]
 ·rw [← e1, Nat.div_div_eq_div_mul, ← Nat.pow_succ]; rfl
theorem sub_word (X Y i : Nat) (n : Nat) (hn : i < n) (hX : X < B64 ^ n) (hY : Y < B64 ^ n) :
  (wd X i + B64 - wd Y i - borrow X Y i) % B64 = wd (X + B64 ^ n - Y) i ∧ (if wd X i < wd Y i + borrow X Y i then 1 else 0) = borrow X Y (i + 1) := by
 have hp := Bpow_pos i
 have eX := wd_add X i
 have eY := wd_add Y i
 have lX := wd_lt X i
 have lY := wd_lt Y i
 have mX := Nat.mod_lt X hp
 have mY := Nat.mod_lt Y hp
 have hb : borrow X Y i = if X % B64 ^ i < Y % B64 ^ i then 1 else 0 := rfl
 have hb1 : borrow X Y (i + 1) = if X % B64 ^ (i + 1) < Y % B64 ^ (i + 1) then 1 else 0 := rfl
 constructor
 ·-- modulo B^(i+1)
  have h4 : ∀ Z : Nat, Z / B64 ^ i % B64 = Z % B64 ^ (i + 1) / B64 ^ i := fun Z => by
   rw [Nat.pow_succ, Nat.mod_mul_right_div_self]
  obtain ⟨d, rfl⟩ : ∃ d, n = i + 1 + d := ⟨n - (i + 1), by omega⟩
  have hN : B64 ^ (i + 1 + d) = B64 ^ (i + 1) * B64 ^ d := Nat.pow_add _ _ _
  have hZ : (X + B64 ^ (i + 1 + d) - Y) % B64 ^ (i + 1) = (X % B64 ^ (i + 1) + B64 ^ (i + 1) - Y % B64 ^ (i + 1)) % B64 ^ (i + 1) := by
   have q1 := Nat.div_add_mod X (B64 ^ (i + 1))
   have q2 := Nat.div_add_mod Y (B64 ^ (i + 1))
   have r2 := Nat.mod_lt Y (Bpow_pos (i + 1))
   generalize B64 ^ (i + 1) = M at *
   have hYd : Y / M < B64 ^ d := by
    rw [Nat.div_lt_iff_lt_mul (by omega)]; rw [Nat.mul_comm, ← hN]; exact hY
   obtain ⟨s, hs⟩ : ∃ s, B64 ^ d = Y / M + 1 + s := ⟨B64 ^ d - (Y / M + 1), by omega⟩
   have e : X + B64 ^ (i + 1 + d) - Y = (X % M + M - Y % M) + M * (X / M + s) := by
    rw [hN, hs]
    have a1 : M * (Y / M + 1 + s) = M * (Y / M) + M + M * s := by rw [Nat.mul_add, Nat.mul_add, Nat.mul_one]
    have a2 : M * (X / M + s) = M * (X / M) + M * s := Nat.mul_add _ _ _
    rw [a1, a2]
    omega
   rw [e, Nat.add_mul_mod_self_left]
  unfold wd at eX eY lX lY ⊢
  rw [h4 (X + B64 ^ (i + 1 + d) - Y), hZ]
  rw [hb]
  generalize X / B64 ^ i % B64 = x at *
  generalize Y / B64 ^ i % B64 = y at *
  rw [eX, eY, Nat.pow_succ]
  generalize X % B64 ^ i = p at *
  generalize Y % B64 ^ i = q at *
  generalize B64 ^ i = M at *
  have e : p + x * M + M * B64 - (q + y * M) = (if p < q then p + M - q else p - q) + M * (x + B64 - y - if p < q then 1 else 0) := by
   have a1 : M * B64 = M * y + M * (B64 - y) := by rw [← Nat.mul_add]; congr 1; omega
   have a2 : x * M = M * x := Nat.mul_comm _ _
   have a3 : y * M = M * y := Nat.mul_comm _ _
   by_cases h : p < q
   ·rw [if_pos h, if_pos h, a1, a2, a3]
    have a4 : M * (x + B64 - y - 1) = M * x + M * (B64 - y) - M := by
     have : M ≤ M * (B64 - y) := Nat.le_mul_of_pos_right _ (by omega)
     rw [Nat.sub_sub, Nat.add_sub_assoc (by omega), show B64 - (y + 1) = B64 - y - 1 from by omega, Nat.mul_add, Nat.mul_sub_one]
     omega
    rw [a4]
    have : M ≤ M * (B64 - y) := Nat.le_mul_of_pos_right _ (by omega)
    omega
   ·have a5 : M * (x + B64 - y) = M * x + M * (B64 - y) := by rw [Nat.add_sub_assoc (by omega), Nat.mul_add]
    rw [if_neg h, if_neg h, a1, a2, a3, Nat.sub_zero, a5]
    omega
  have hz : (if p < q then p + M - q else p - q) < M := by split <;> omega
  rw [e, Nat.mod_mul_right_div_self, Nat.add_mul_div_left _ _ (by omega), Nat.div_eq_of_lt hz, Nat.zero_add]
 ·rw [hb1, hb, eX, eY]
  generalize wd X i = x at *
  generalize wd Y i = y at *
  generalize X % B64 ^ i = p at *
  generalize Y % B64 ^ i = q at *
  generalize B64 ^ i = M at *
  by_cases h : p < q
  ·rw [if_pos h]
   by_cases hxy : x < y + 1
   ·rw [if_pos hxy, if_pos]
    have : x * M ≤ y * M := Nat.mul_le_mul_right _ (by omega)
    omega
   ·rw [if_neg hxy, if_neg]
    have : (y + 1) * M ≤ x * M := Nat.mul_le_mul_right _ (by omega)
    rw [Nat.add_mul, Nat.one_mul] at this
    omega
  ·rw [if_neg h]
   by_cases hxy : x < y + 0
   ·rw [if_pos hxy, if_pos]
    have : (x + 1) * M ≤ y * M := Nat.mul_le_mul_right _ (by omega)
    rw [Nat.add_mul, Nat.one_mul] at this
    omega
   ·rw [if_neg hxy, if_neg]
    have : y * M ≤ x * M := Nat.mul_le_mul_right _ (by omega)
    omega
/-! ### An Acc's real, as two's complement -/
def TOP : Nat := B64 ^ 76
theorem TOP_pos : 0 < TOP := Bpow_pos 76
def isNeg (X : Nat) : Bool := decide (TOP ≤ 2 * X)
def absX (X : Nat) : Nat := bif isNeg X then TOP - X else X
theorem neg_word_aux (K q M r X : Nat) (hK : 0 < K) (hM : 0 < M) (h4 : M * q + r = X) (h5 : r < M) (h1 : q < K + K) : q / K = 1 ↔ M * (K + K) ≤ 2 * X := by
 have e : M * (K + K) = M * K + M * K := Nat.mul_add _ _ _
 constructor
 ·intro h
  have h7 := Nat.div_mul_le_self q K
  rw [h, Nat.one_mul] at h7
  have h6 : M * K ≤ M * q := Nat.mul_le_mul_left _ h7
  omega
 ·intro h
  have h8 : K ≤ q := by
   by_cases hq : q < K
   ·have h6 : M * (q + 1) ≤ M * K := Nat.mul_le_mul_left _ hq
    rw [Nat.mul_add, Nat.mul_one] at h6
    omega
   ·omega
  have a1 : 1 ≤ q / K := (Nat.le_div_iff_mul_le hK).2 (by omega)
  have a2 : q / K < 2 := (Nat.div_lt_iff_lt_mul hK).2 (by omega)
  omega
theorem neg_word (X : Nat) (hX : X < TOP) : ((wd X 75 : Nat) / 9223372036854775808 == 1) = isNeg X := by
 have h1 : X / B64 ^ 75 < B64 := by rw [Nat.div_lt_iff_lt_mul (Bpow_pos 75), Nat.mul_comm, ← Nat.pow_succ]; exact hX
 have h2 : wd X 75 = X / B64 ^ 75 := Nat.mod_eq_of_lt h1
 have h3 : TOP = B64 ^ 75 * (9223372036854775808 + 9223372036854775808) := Nat.pow_succ B64 75
 unfold isNeg
 rw [h2, h3, Bool.eq_iff_iff, beq_iff_eq, decide_eq_true_iff]
 exact neg_word_aux 9223372036854775808 _ _ _ X (by decide) (Bpow_pos 75) (Nat.div_add_mod X (B64 ^ 75)) (Nat.mod_lt X (Bpow_pos 75)) h1
/-! ### What is held -/
def LIM : Nat := B64 ^ 74 * 68719476736
theorem absX_lt (X : Nat) (hX : X < TOP) : absX X < TOP := by
 unfold absX
 cases h : isNeg X with
 | false => exact hX
 | true =>
  have h2 := of_decide_eq_true h
  have h3 := TOP_pos
  show TOP - X < TOP
  omega
theorem fit_words (Y : Nat) (hY : Y < TOP) : Y < LIM ↔ wd Y 74 / 68719476736 = 0 ∧ wd Y 75 = 0 := by
 have h1 : Y / B64 ^ 75 < B64 := by rw [Nat.div_lt_iff_lt_mul (Bpow_pos 75), Nat.mul_comm, ← Nat.pow_succ]; exact hY
 have h2 : wd Y 75 = Y / B64 ^ 75 := Nat.mod_eq_of_lt h1
 have h3 : wd Y 74 = Y / B64 ^ 74 % B64 := rfl
 have h4 : Y / B64 ^ 75 = Y / B64 ^ 74 / B64 := by rw [Nat.div_div_eq_div_mul, ← Nat.pow_succ]
 have h5 : Y < LIM ↔ Y / B64 ^ 74 < 68719476736 := by rw [Nat.div_lt_iff_lt_mul (Bpow_pos 74), Nat.mul_comm]; rfl
 rw [h5, h2, h3, h4]
 generalize Y / B64 ^ 74 = q
 unfold B64
 omega
set_option linter.unusedVariables false
set_option linter.unusedSimpArgs false
open Go Go.RowKit
theorem range_alloc {w : World} {b o : Nat} {cs : List Value} (h : w.rangeAt b o cs) (ob : Obj) (hb : b < w.heap.size) : (w.alloc ob).rangeAt b o cs := fun j v hv => by
 rw [World.cell?_alloc_lt _ _ _ hb]; exact h j v hv
theorem wpList_store_last {P : Program} {ops : Array Oper} {rest : List Oper} {o : Oper} {a : Act} {w : World} {Q : Exit → Act → World → Prop} (hgd : o.guard = none) (ty : TypeId) (x y : Operand) (ho : o.op = .store ty x y)
  (g : Nat) (c cells : Array Value) (hg : g = w.heap.size) (hx : a.eval x = .pointer (some ⟨g, 0, none⟩)) (hy : a.eval y = .agg cells)
  (hi : (P.info? ty).map (·.size) = some cells.size) (hold : c.size = cells.size) (h1 : cells.all (·.oneCell') = true)
  (h : wpList P ops Q rest (a.put o.dst undef) (w.alloc (.cells cells ty))) : wpList P ops Q (o :: rest) a (w.alloc (.cells c ty)) := by
 subst hg
 refine wpList_store_row hgd ty x y ho w.heap.size cells hx hy ty c (heap_alloc_last w _) hi hold h1 ?_
 rw [World.setRow_alloc_new]
 exact h
theorem wpList_load_last {P : Program} {ops : Array Oper} {rest : List Oper} {o : Oper} {a : Act} {w : World} {Q : Exit → Act → World → Prop} (hgd : o.guard = none) (ty : TypeId) (x : Operand) (ho : o.op = .load ty x)
  (g : Nat) (c : Array Value) (d : TypeDesc) (hg : g = w.heap.size) (hx : a.eval x = .pointer (some ⟨g, 0, none⟩))
  (hu : P.underlying ty = some d) (hd : (match d with | .struct _ | .array _ _ => true | _ => false) = true) (hi : (P.info? ty).map (·.size) = some c.size)
  (h : wpList P ops Q rest (a.put o.dst (.agg c)) (w.alloc (.cells c ty))) : wpList P ops Q (o :: rest) a (w.alloc (.cells c ty)) := by
 subst hg
 exact wpList_load_row hgd ty x ho w.heap.size hx ty c (0, 0) d (heap_alloc_last w _) hu hd hi h
set_option linter.unusedVariables false
set_option linter.unusedSimpArgs false
open Go Go.RowKit
/-- Block b holds an Acc's cells. -/
def AccAt (w : World) (b X : Nat) (bad : Bool) : Prop := w.heap[b]? = some (.cells (accCells X bad) 163 (0, 0))
theorem AccAt.cell {w : World} {b X : Nat} {bad : Bool} (h : AccAt w b X bad) (i : Nat) (hi : i < 76) : w.cell? ⟨b, i, none⟩ = some (.int .u64 (wd X i)) := by
 rw [cell_of_row w b i _ _ _ h]; exact accCells_get X bad i hi
theorem AccAt.bad {w : World} {b X : Nat} {bad : Bool} (h : AccAt w b X bad) : w.cell? ⟨b, 76, none⟩ = some (.bool bad) := by
 rw [cell_of_row w b 76 _ _ _ h]; exact accCells_bad X bad
theorem AccAt.range {w : World} {b X : Nat} {bad : Bool} (h : AccAt w b X bad) : w.rangeAt b 0 (wordCells 76 X) := fun j v hv => by
 have hj : j < 76 := by have := (List.getElem?_eq_some_iff.1 hv).1; rwa [wordCells_length] at this
 rw [Nat.zero_add, h.cell j hj, ← hv, wordCells_get _ _ _ hj]
theorem AccAt.alloc {w : World} {b X : Nat} {bad : Bool} (h : AccAt w b X bad) (o : Obj) : AccAt (w.alloc o) b X bad := by
 have hb : b < w.heap.size := by
  by_cases hb : b < w.heap.size
  ·exact hb
  ·unfold AccAt at h; rw [Array.getElem?_eq_none (by omega)] at h; cases h
 unfold AccAt
 rw [heap_alloc_old w o hb]
 exact h
theorem Tryz.info60 : (Tryz.prog.info? 161).map (·.size) = some 76 := by kernel_rfl
theorem info_arr (X : Nat) : (Tryz.prog.info? 161).map (·.size) = some (arrCells X).size := by rw [arrCells_size]; exact Tryz.info60
theorem info_words (X : Nat) : (Tryz.prog.info? 161).map (·.size) = some (wordCells 76 X).length := by rw [wordCells_length]; exact Tryz.info60
theorem arr_sizes (X Y : Nat) : (arrCells X).size = (arrCells Y).size := by rw [arrCells_size, arrCells_size]
theorem Tryz.infoAcc : (Tryz.prog.info? 163).map (·.size) = some 77 := by kernel_rfl
theorem neg_any (w : World) (b X : Nat) (bad : Bool) (h : AccAt w b X bad) (hX : X < TOP) :
  Calls Tryz.prog 113 #[.pointer (some ⟨b, 0, none⟩)] w fun e w' => e = .returned (.bool (isNeg X)) ∧ w = w' := by
 have hc := h.cell 75 (by decide)
 have hl := wd_le X 75
 have hn := Lib.hid (neg_word X hX)
 clear h hX
 go_enter Tryz.func113, Tryz.ntmps113
 go_wp2
 go_ret
 refine ⟨congrArg (fun v => Ending.returned (.bool v)) ?_, rfl⟩
 rw [← hn.out, Bool.eq_iff_iff, beq_iff_eq, beq_iff_eq]
 omega
set_option maxRecDepth 100000 in
theorem new_any (w : World) :
  Calls Tryz.prog 66 #[] w fun e w' => e = .returned (.pointer (some ⟨w.heap.size, 0, none⟩)) ∧ w.alloc (.cells (accCells 0 false) 163) = w' := by
 go_enter Tryz.func66, Tryz.ntmps66
 go_wp2
 go_ret
 exact ⟨rfl, rfl⟩
theorem run_sub (x y c : Int) (d c' : Nat) (w : World) (hx : 0 ≤ x) (hy : 0 ≤ y) (h0 : 0 ≤ c) (h1 : c ≤ 1) (hd : (x.toNat + B64 - y.toNat - c.toNat) % B64 = d) (hc : (if x.toNat < y.toNat + c.toNat then 1 else 0) = c') :
  Sem.run Tryz.prog (callFunc 109 #[.int .u64 x, .int .u64 y, .int .u64 c]) w = .ok (.value (.tuple #[.int .u64 d, .int .u64 c'])) w := by
 subst hd hc
 have h01 : c = 0 ∨ c = 1 := by omega
 have key : ∀ c : Int, c = 0 ∨ c = 1 → Sem.run Tryz.prog (callFunc 109 #[.int .u64 x, .int .u64 y, .int .u64 c]) w = .ok (.value (.tuple #[.int .u64 ((x.toNat + 18446744073709551616 - y.toNat - c.toNat) % 18446744073709551616 : Nat), .int .u64 ((if x.toNat < y.toNat + c.toNat then 1 else 0) : Nat)])) w := by
  rintro c (rfl | rfl)
  ·kernel_rfl
  ·kernel_rfl
 exact key c h01
theorem run_add (x y c : Int) (d c' : Nat) (w : World) (hx : 0 ≤ x) (hy : 0 ≤ y) (h0 : 0 ≤ c) (h1 : c ≤ 1) (hd : (x.toNat + y.toNat + c.toNat) % B64 = d) (hc : (x.toNat + y.toNat + c.toNat) / B64 = c') :
  Sem.run Tryz.prog (callFunc 110 #[.int .u64 x, .int .u64 y, .int .u64 c]) w = .ok (.value (.tuple #[.int .u64 d, .int .u64 c'])) w := by
 subst hd hc
 have h01 : c = 0 ∨ c = 1 := by omega
 have key : ∀ c : Int, c = 0 ∨ c = 1 → Sem.run Tryz.prog (callFunc 110 #[.int .u64 x, .int .u64 y, .int .u64 c]) w = .ok (.value (.tuple #[.int .u64 ((x.toNat + y.toNat + c.toNat) % 18446744073709551616 : Nat), .int .u64 ((x.toNat + y.toNat + c.toNat) / 18446744073709551616 : Nat)])) w := by
  rintro c (rfl | rfl)
  ·kernel_rfl
  ·kernel_rfl
 exact key c h01
theorem wd_zero (k : Nat) : wd 0 k = 0 := by unfold wd; rw [Nat.zero_div]; rfl
theorem run_sub_nat (x y c d c' : Nat) (h1 : c ≤ 1) (hd : (x + B64 - y - c) % B64 = d) (hc : (if x < y + c then 1 else 0) = c') (w : World) :
  Sem.run Tryz.prog (callFunc 109 #[.int .u64 x, .int .u64 y, .int .u64 c]) w = .ok (.value (.tuple #[.int .u64 d, .int .u64 c'])) w :=
 run_sub x y c d c' w (by omega) (by omega) (by omega) (by omega) hd hc
theorem run_sub_zero (y c d c' : Nat) (h1 : c ≤ 1) (hd : (0 + B64 - y - c) % B64 = d) (hc : (if 0 < y + c then 1 else 0) = c') (w : World) :
  Sem.run Tryz.prog (callFunc 109 #[.int .u64 0, .int .u64 y, .int .u64 c]) w = .ok (.value (.tuple #[.int .u64 d, .int .u64 c'])) w :=
 run_sub 0 y c d c' w (by omega) (by omega) (by omega) (by omega) hd hc
theorem run_add_nat (x y c d c' : Nat) (h1 : c ≤ 1) (hd : (x + y + c) % B64 = d) (hc : (x + y + c) / B64 = c') (w : World) :
  Sem.run Tryz.prog (callFunc 110 #[.int .u64 x, .int .u64 y, .int .u64 c]) w = .ok (.value (.tuple #[.int .u64 d, .int .u64 c'])) w :=
 run_add x y c d c' w (by omega) (by omega) (by omega) (by omega) hd hc
theorem run_add_zero (x c d c' : Nat) (h1 : c ≤ 1) (hd : (x + 0 + c) % B64 = d) (hc : (x + 0 + c) / B64 = c') (w : World) :
  Sem.run Tryz.prog (callFunc 110 #[.int .u64 x, .int .u64 0, .int .u64 c]) w = .ok (.value (.tuple #[.int .u64 d, .int .u64 c'])) w :=
 run_add x 0 c d c' w (by omega) (by omega) (by omega) (by omega) hd hc
theorem run_sub_nil (x c d c' : Nat) (h1 : c ≤ 1) (hd : (x + B64 - 0 - c) % B64 = d) (hc : (if x < 0 + c then 1 else 0) = c') (w : World) :
  Sem.run Tryz.prog (callFunc 109 #[.int .u64 x, .int .u64 0, .int .u64 c]) w = .ok (.value (.tuple #[.int .u64 d, .int .u64 c'])) w :=
 run_sub x 0 c d c' w (by omega) (by omega) (by omega) (by omega) hd hc
set_option linter.unusedVariables false
set_option linter.unusedSimpArgs false
open Go Go.RowKit
set_option maxRecDepth 100000
theorem zeros76 : (Tryz.prog.info? 161).map (fun i => (i.zero, i.size)) = some (some (.agg (arrCells 0)), 76) := by kernel_rfl
theorem size_done (X : Nat) (hX : X < TOP) : arrCells (mix 76 (TOP - X) X) = arrCells (TOP - X) := by
 refine arrCells_ext fun j hj => ?_
 rw [wd_mix_lt _ _ _ _ hj]
theorem size_below (w : World) (a b c : Array Value) : Below w.heap.size w (((w.alloc (Obj.cells a 161)).alloc (Obj.cells b 161)).setRow w.heap.size c) :=
 ⟨rfl, rfl, rfl, by simp; omega, fun k hk => by rw [setRow_other _ _ _ _ (by omega), heap_alloc_old _ _ (by simp; omega), heap_alloc_old _ _ hk]⟩
set_option maxHeartbeats 1000000 in
theorem size_any (w : World) (b X : Nat) (bad : Bool) (h : AccAt w b X bad) (hX : X < TOP) (hb : b < w.heap.size) :
  Calls Tryz.prog 117 #[.pointer (some ⟨b, 0, none⟩)] w fun e w' => e = .returned (.agg (arrCells (absX X))) ∧ Below w.heap.size w w' := by
 have hr := h.range
 have hz60 := (zero_of_info zeros76).1
 go_enter Tryz.func117, Tryz.ntmps117
 go_wp2_with (first
  | (refine wpList_load_mid rfl 161 (.tmp 8) rfl b 0 rfl (wordCells 76 X) _ (range_alloc hr _ hb) Tryz.underlying161 rfl (info_words _) ?_)
  | (refine wpList_store_last rfl 161 (.tmp 3) (.tmp 9) rfl (w.heap.size + 1) (arrCells 0) (arrCells X) (by simp) rfl rfl (info_arr _) (arr_sizes _ _) (arrCells_one X) ?_))
 refine (neg_any _ b X bad ((h.alloc _).alloc _) hX).mono ?_
 rintro e w' ⟨rfl, rfl⟩
 cases hn : isNeg X with
 | false =>
  go_wp2_with (first
   | (refine wpList_load_last rfl 161 (.tmp 3) rfl (w.heap.size + 1) (arrCells X) _ (by simp) rfl Tryz.underlying161 rfl (info_arr _) ?_)
   | (refine wpList_store_row rfl 161 (.tmp 2) (.tmp 26) rfl w.heap.size (arrCells X) rfl rfl 161 (arrCells 0) (heap_alloc2_old w _ _) (info_arr _) (arr_sizes _ _) (arrCells_one X) ?_))
  refine bodyPost_ret (v := .agg (arrCells X)) (results_cell_row rfl _ _ w.heap.size 161 (arrCells X) (0, 0) _ rfl (setRow_heap _ _ (arrCells 0) _ _ _ (heap_alloc2_old w _ _)) Tryz.underlying161 rfl (info_arr _)) rfl ⟨?_, ?_⟩
  ·rw [absX, hn]; rfl
  ·exact size_below w _ _ _
 | true =>
  have hab : absX X = TOP - X := by rw [absX, hn]; rfl
  have Hab := Lib.hid hab
  clear hab hn
  go_wp2_with fail
  go_loopw [4, 12] (fun c i wr => ∃ k : Nat, k ≤ 76 ∧ i = .int .i64 k ∧ c = .int .u64 (borrow 0 X k : Nat) ∧ wr = (w.alloc (Obj.cells (arrCells 0) 161)).alloc (Obj.cells (arrCells (mix k (TOP - X) X)) 161)) (fun _ i _ => 76 - (intOf i).toNat)
  case atStart => exact ⟨0, by omega, rfl, by rw [borrow_zero]; rfl, by rw [mix_zero]⟩
  case round =>
   obtain ⟨k, hk, rfl, rfl, rfl⟩ := hrel
   by_cases hlt : k < 76
   ·have hc : (arrCells (mix k (TOP - X) X))[k]? = some (.int .u64 (wd X k : Nat)) := by rw [arrCells_get _ _ hlt, wd_mix_ge _ _ _ _ (Nat.le_refl k)]
    have hw := sub_word 0 X k 76 hlt TOP_pos hX
    rw [wd_zero, show 0 + B64 ^ 76 - X = TOP - X from by rw [Nat.zero_add]; rfl] at hw
    have hbl := borrow_le 0 X k
    have hs := run_sub_zero (wd X k) (borrow 0 X k) _ _ hbl hw.1 hw.2
    have hstep := arr_step k (TOP - X) X _ rfl hlt
    clear hw
    go_wp2_with fail
    go_roundw
    case rel => exact ⟨k + 1, by omega, by go_num, rfl, rfl⟩
    case measure => simp [intOf]; omega
   ·obtain rfl : k = 76 := by omega
    go_wp2_with (first
     | (refine wpList_load_last rfl 161 (.tmp 3) rfl (w.heap.size + 1) (arrCells (mix 76 (TOP - X) X)) _ (by simp) rfl Tryz.underlying161 rfl (info_arr _) ?_)
     | (refine wpList_store_row rfl 161 (.tmp 2) (.tmp 26) rfl w.heap.size (arrCells (mix 76 (TOP - X) X)) rfl rfl 161 (arrCells 0) (heap_alloc2_old w _ _) (info_arr _) (arr_sizes _ _) (arrCells_one _) ?_))
    refine bodyPost_ret (v := .agg (arrCells (mix 76 (TOP - X) X))) (results_cell_row rfl _ _ w.heap.size 161 (arrCells (mix 76 (TOP - X) X)) (0, 0) _ rfl (setRow_heap _ _ (arrCells 0) _ _ _ (heap_alloc2_old w _ _)) Tryz.underlying161 rfl (info_arr _)) rfl ⟨?_, ?_⟩
    ·rw [Hab.out, size_done X hX]
    ·exact size_below w _ _ _
set_option linter.unusedVariables false
set_option linter.unusedSimpArgs false
open Go Go.RowKit
/-- Kept, or bad. -/
def FitAt (w : World) (b X : Nat) : Prop := (absX X < LIM → AccAt w b X false) ∧ (LIM ≤ absX X → AccAt w b 0 true)
theorem AccAt.below {w w1 : World} {b X : Nat} {bad : Bool} (h : AccAt w b X bad) {B : Nat} (hb : b < B) (hw : Below B w w1) : AccAt w1 b X bad := (hw.block b hb).trans h
theorem AccAt.lt {w : World} {b X : Nat} {bad : Bool} (h : AccAt w b X bad) : b < w.heap.size := by
 by_cases hb : b < w.heap.size
 ·exact hb
 ·unfold AccAt at h; rw [Array.getElem?_eq_none (by omega)] at h; cases h
theorem grown_of_below {w w1 : World} {row : Option Nat} (h : Below w.heap.size w w1) : w.grownBy w1 row := ⟨h.os, h.tape, h.output, h.size, fun k hk _ => h.block k hk⟩
theorem grown_trans {w w1 w2 : World} {row : Option Nat} (h : w.grownBy w1 row) (h2 : w1.grownBy w2 row) : w.grownBy w2 row :=
 ⟨h2.os.trans h.os, h2.tape.trans h.tape, h2.output.trans h.output, Nat.le_trans h.size h2.size, fun k hk hr => (h2.block k (Nat.lt_of_lt_of_le hk h.size) hr).trans (h.block k hk hr)⟩
theorem grown_drew {w w1 : World} {row : Option Nat} (h : w.grownBy w1 row) : w.grownBy w1.drew row := ⟨h.os, h.tape, h.output, h.size, h.block⟩
theorem grown_drewN {w w1 : World} {row : Option Nat} (h : w.grownBy w1 row) (n : Nat) : w.grownBy (w1.drewN n) row := ⟨h.os, h.tape, h.output, h.size, h.block⟩
theorem grown_setRow (w : World) (g : Nat) (c : Array Value) : w.grownBy (w.setRow g c) (some g) := ⟨rfl, rfl, rfl, by simp, fun k _ hk => setRow_other _ _ _ _ (fun e => hk (by rw [e]))⟩
set_option maxRecDepth 100000
theorem acc_one (X : Nat) (b : Bool) : (accCells X b).all (·.oneCell') = true :=
 Array.all_eq_true_iff_forall_mem.2 (fun v hv => by
  have : v ∈ wordCells 76 X ∨ v = Value.bool b := by simpa [accCells] using hv
  rcases this with h | rfl
  ·exact wordCells_one 76 X v h
  ·rfl)
theorem info_acc (X : Nat) (b : Bool) : (Tryz.prog.info? 163).map (·.size) = some (accCells X b).size := by rw [accCells_size]; exact Tryz.infoAcc
theorem acc_sizes (X Y : Nat) (b c : Bool) : (accCells X b).size = (accCells Y c).size := by rw [accCells_size, accCells_size]
set_option maxHeartbeats 1000000 in
theorem fit_any (w : World) (b X : Nat) (h : AccAt w b X false) (hX : X < TOP) :
  Calls Tryz.prog 111 #[.pointer (some ⟨b, 0, none⟩)] w fun e w' => e = .returned (.tuple #[]) ∧ FitAt w' b X ∧ w.grownBy w' (some b) := by
 have hb := h.lt
 have hz60 := (zero_of_info zeros76).1
 have hY := absX_lt X hX
 have hfw := Lib.hid (fit_words _ hY)
 go_enter Tryz.func111, Tryz.ntmps111
 go_wp2_with fail
 refine (size_any w b X false h hX hb).mono ?_
 rintro e w1 ⟨rfl, hb1⟩
 have h1 := h.below hb hb1
 have hs1 := hb1.size
 have hg1 : w.grownBy w1 (some b) := grown_of_below hb1
 generalize hYY : absX X = Y at *
 have HYY := Lib.hid hYY
 clear hYY h hb1
 go_wp2_with (refine wpList_store_last rfl 161 (.tmp 2) (.tmp 6) rfl w1.heap.size (arrCells 0) (arrCells Y) rfl rfl rfl (info_arr _) (arr_sizes _ _) (arrCells_one Y) ?_)
 have hc4 := arrCells_get Y 74 (by decide)
 have hc5 := arrCells_get Y 75 (by decide)
 have hl4 := wd_le Y 74
 have hl5 := wd_le Y 75
 go_loop [3] (fun i => (i = .int .i64 74) ∨ (i = .int .i64 75 ∧ wd Y 74 / 68719476736 = 0) ∨ (i = .int .i64 76 ∧ wd Y 74 / 68719476736 = 0 ∧ wd Y 75 = 0)) (fun i => 76 - (intOf i).toNat)
 case atStart => exact Or.inl rfl
 case round =>
  rcases hrel with rfl | ⟨rfl, hz⟩ | ⟨rfl, hz, hz5⟩
  ·by_cases hz : (wd Y 74 : Int) / 68719476736 = 0
   ·have hq : ((wd Y 74 : Int) / 68719476736 != 0) = false := by rw [bne_eq_false_iff_eq]; exact hz
    have hz' : wd Y 74 / 68719476736 = 0 := by omega
    have Hz := Lib.hid hz'
    clear hz hz'
    go_wp2_with fail
    go_round
    case rel => exact Or.inr (Or.inl ⟨rfl, Hz.out⟩)
    case measure => decide
   ·have hq : ((wd Y 74 : Int) / 68719476736 != 0) = true := by rw [bne_iff_ne]; exact hz
    have Hn := Lib.hid (show ¬ Y < LIM from fun hlt => hz (by have := (hfw.out.1 hlt).1; omega))
    clear hz
    go_wp2_with (refine wpList_store_row rfl 163 (.tmp 22) (.tmp 21) rfl b (accCells 0 true) rfl (by kernel_rfl) 163 (accCells X false) (h1.alloc _) (info_acc _ _) (acc_sizes _ _ _ _) (acc_one _ _) ?_)
    refine bodyPost_ret (results_none rfl _ _ _) rfl ?_
    exact ⟨rfl, ⟨fun hlt => absurd hlt (by rw [HYY.out]; exact Hn.out), fun _ => setRow_heap _ _ (accCells X false) _ _ _ (h1.alloc _)⟩, grown_trans (grown_trans hg1 (World.grownBy_alloc _ _ _)) (grown_setRow _ _ _)⟩
  ·have Hz := Lib.hid hz
   clear hz
   by_cases hz : (wd Y 75 : Int) = 0
   ·have hq : ((wd Y 75 : Int) != 0) = false := by rw [bne_eq_false_iff_eq]; exact hz
    have hz' : wd Y 75 = 0 := by omega
    have Hz5 := Lib.hid hz'
    clear hz hz'
    go_wp2_with fail
    go_round
    case rel => exact Or.inr (Or.inr ⟨rfl, Hz.out, Hz5.out⟩)
    case measure => decide
   ·have hq : ((wd Y 75 : Int) != 0) = true := by rw [bne_iff_ne]; exact hz
    have Hn := Lib.hid (show ¬ Y < LIM from fun hlt => hz (by have := (hfw.out.1 hlt).2; omega))
    clear hz
    go_wp2_with (refine wpList_store_row rfl 163 (.tmp 22) (.tmp 21) rfl b (accCells 0 true) rfl (by kernel_rfl) 163 (accCells X false) (h1.alloc _) (info_acc _ _) (acc_sizes _ _ _ _) (acc_one _ _) ?_)
    refine bodyPost_ret (results_none rfl _ _ _) rfl ?_
    exact ⟨rfl, ⟨fun hlt => absurd hlt (by rw [HYY.out]; exact Hn.out), fun _ => setRow_heap _ _ (accCells X false) _ _ _ (h1.alloc _)⟩, grown_trans (grown_trans hg1 (World.grownBy_alloc _ _ _)) (grown_setRow _ _ _)⟩
  ·have Hz := Lib.hid hz
   have Hz5 := Lib.hid hz5
   clear hz hz5
   go_wp2_with fail
   go_end0
   exact ⟨rfl, ⟨fun _ => h1.alloc _, fun hle => absurd (hfw.out.2 ⟨Hz.out, Hz5.out⟩) (by rw [← HYY.out]; exact Nat.not_lt.2 hle)⟩, grown_trans hg1 (World.grownBy_alloc _ _ _)⟩
end Go.Proofs.YtpfbgenefjhcjaaGreatDoor
namespace Go.Proofs.YtpfbgenefjhcjaaGreatDoor
set_option linter.unusedVariables false
set_option linter.unusedSimpArgs false
open Go Go.RowKit
set_option maxRecDepth 100000
/-- Block g is a row of cap words, of which those from lo on, below hi, are F's. -/
def Vec (w : World) (g cap lo hi : Nat) (F : Nat → Nat) : Prop :=
 ∃ cur, w.heap[g]? = some (.cells cur 203 (0, 0)) ∧ cur.size = cap ∧ ∀ j, lo ≤ j → j < hi → cur[j]? = some (.int .u64 (F j : Nat))
theorem Vec.cell {w : World} {g cap lo hi : Nat} {F : Nat → Nat} (h : Vec w g cap lo hi F) (j : Nat) (h1 : lo ≤ j) (h2 : j < hi) : w.cell? ⟨g, j, none⟩ = some (.int .u64 (F j : Nat)) := by
 obtain ⟨cur, hc, _, hv⟩ := h
 rw [cell_of_row w g j _ _ _ hc]
 exact hv j h1 h2
theorem Vec.some {w : World} {g cap lo hi : Nat} {F : Nat → Nat} (h : Vec w g cap lo hi F) (j : Nat) (hj : j < cap) : ∃ v, w.cell? ⟨g, j, none⟩ = some v := by
 obtain ⟨cur, hc, hs, _⟩ := h
 rw [cell_of_row w g j _ _ _ hc]
 exact ⟨cur[j]'(by omega), Array.getElem?_eq_getElem _⟩
theorem Vec.free {w : World} {g cap lo hi : Nat} {F : Nat → Nat} (h : Vec w g cap lo hi F) (j : Nat) : w.frozen? ⟨g, j, none⟩ = false := by
 obtain ⟨cur, hc, _, _⟩ := h
 exact frozen_of_row w g j _ _ hc
theorem Vec.lt {w : World} {g cap lo hi : Nat} {F : Nat → Nat} (h : Vec w g cap lo hi F) : g < w.heap.size := by
 obtain ⟨cur, hc, _, _⟩ := h
 exact (Array.getElem?_eq_some_iff.1 hc).1
theorem Vec.heap {w w1 : World} {g cap lo hi : Nat} {F : Nat → Nat} (h : Vec w g cap lo hi F) (hb : w1.heap[g]? = w.heap[g]?) : Vec w1 g cap lo hi F := by
 obtain ⟨cur, hc, hs, hv⟩ := h
 exact ⟨cur, hb.trans hc, hs, hv⟩
theorem Vec.below {w w1 : World} {g cap lo hi : Nat} {F : Nat → Nat} (h : Vec w g cap lo hi F) (hb : Below w.heap.size w w1) : Vec w1 g cap lo hi F := h.heap (hb.block g h.lt)
theorem Vec.grown {w w1 : World} {g cap lo hi : Nat} {F : Nat → Nat} {row : Option Nat} (h : Vec w g cap lo hi F) (hg : w.grownBy w1 row) (hr : Option.some g ≠ row) : Vec w1 g cap lo hi F := h.heap (hg.block g h.lt hr)
theorem Vec.weaken {w : World} {g cap lo hi lo' hi' : Nat} {F F' : Nat → Nat} (h : Vec w g cap lo hi F) (h1 : lo ≤ lo') (h2 : hi' ≤ hi) (h3 : ∀ j, lo' ≤ j → j < hi' → F j = F' j) : Vec w g cap lo' hi' F' := by
 obtain ⟨cur, hc, hs, hv⟩ := h
 exact ⟨cur, hc, hs, fun j a b => by rw [hv j (by omega) (by omega), h3 j a b]⟩
theorem Vec.weaken' {w : World} {g cap lo hi lo' hi' : Nat} {F F' : Nat → Nat} (h : Vec w g cap lo hi F) (h3 : ∀ j, lo' ≤ j → j < hi' → lo ≤ j ∧ j < hi ∧ F j = F' j) : Vec w g cap lo' hi' F' := by
 obtain ⟨cur, hc, hs, hv⟩ := h
 exact ⟨cur, hc, hs, fun j a b => by obtain ⟨c1, c2, c3⟩ := h3 j a b; rw [hv j c1 c2, c3]⟩
/-- A store: the cells that are known, and the one that is stored. -/
theorem Vec.set {w : World} {g cap lo hi lo' hi' : Nat} {F F' : Nat → Nat} (h : Vec w g cap lo hi F) (k u : Nat) (hk : k < cap) (hu : u = F' k) (hF : ∀ j, lo' ≤ j → j < hi' → j ≠ k → lo ≤ j ∧ j < hi ∧ F j = F' j) :
  Vec (w.setCell ⟨g, k, none⟩ (.int .u64 (u : Nat))) g cap lo' hi' F' := by
 obtain ⟨cur, hc, hs, hv⟩ := h
 refine ⟨cur.setIfInBounds k (.int .u64 (u : Nat)), heap_setCell_same w g k _ _ _ hc, by simpa using hs, fun j a b => ?_⟩
 rw [Array.getElem?_setIfInBounds]
 by_cases hj : k = j
 ·subst hj
  rw [if_pos rfl, if_pos (by omega), hu]
 ·rw [if_neg hj]
  obtain ⟨c1, c2, c3⟩ := hF j a b (fun e => hj e.symm)
  rw [hv j c1 c2, c3]
theorem grown_set {w wr : World} {g : Nat} (h : w.grownBy wr (Option.some g)) (k : Nat) (v : Value) : w.grownBy (wr.setCell ⟨g, k, none⟩ v) (Option.some g) :=
 ⟨h.os, h.tape, h.output, by
  have := h.size
  rw [show (wr.setCell ⟨g, k, none⟩ v).heap.size = wr.heap.size by simp [World.setCell]]
  exact this, fun j hj hr => (heap_setCell_other wr ⟨g, k, none⟩ j _ (fun e => hr (by rw [e]))).trans (h.block j hj hr)⟩
theorem grown_refl (w : World) (row : Option Nat) : w.grownBy w row := ⟨rfl, rfl, rfl, Nat.le_refl _, fun _ _ _ => rfl⟩
/-- What was made behind w's blocks, and written there alone. -/
theorem below_of_grown {w w1 : World} {g : Nat} (h : w.grownBy w1 (Option.some g)) (hg : w.heap.size ≤ g) : Below w.heap.size w w1 :=
 ⟨h.os, h.tape, h.output, h.size, fun k hk => h.block k hk (fun e => by injection e with e; omega)⟩
/-- c words, all 0. -/
def zeroWords (c : Nat) : Array Value := madeCells (Value.int .u64 0).cells (c * 1)
theorem zeroWords_size (c : Nat) : (zeroWords c).size = c := by unfold zeroWords; rw [size_madeCells, Nat.mul_one]
theorem zeroWords_get (c j : Nat) (h : j < c) : (zeroWords c)[j]? = Option.some (.int .u64 (0 : Nat)) := by
 unfold zeroWords madeCells
 simp [Value.cells, h, Nat.mod_one]
theorem Vec.made (w : World) (c : Nat) : Vec (w.alloc (.cells (zeroWords c) 203)) w.heap.size c 0 c (fun _ => 0) :=
 ⟨_, heap_alloc_new w _, zeroWords_size c, fun j _ hj => zeroWords_get c j hj⟩
theorem infoW : (Tryz.prog.info? 203).map (fun i => (i.zero, i.size, i.bytes)) = Option.some (Option.some (.int .u64 0), 1, 8) := by kernel_rfl
theorem run_make_nat (n c : Int) (h0 : 0 ≤ n) (h1 : n ≤ c) (h2 : c ≤ 1000000) (w : World) :
  (Instr.makeSlice 188 (.int .i64 n) (.int .i64 c)).run Tryz.prog w = .ok (.slice (Option.some ⟨w.heap.size, 0, none⟩) n.toNat c.toNat) (w.alloc (.cells (zeroWords c.toNat) 203)) := by
 obtain ⟨i0, hi, hz0, hz1, hz2⟩ := info_parts infoW
 have := run_make (P := Tryz.prog) w 188 203 i0 _ Tryz.underlying188 hi hz0 .i64 .i64 n c h0 h1 (by rw [hz2]; omega) (by omega)
 rw [hz1] at this
 exact this
theorem make_nil (n : Nat) (h0 : 0 < n) (h1 : n ≤ 100000) (w : World) :
  Calls Tryz.prog 162 #[.slice none 0 0, .int .i64 (n : Nat)] w fun e w' => ∃ cap, n ≤ cap ∧ cap ≤ n + 4 ∧ e = .returned (.slice (Option.some ⟨w.heap.size, 0, none⟩) n cap) ∧ w.alloc (.cells (zeroWords cap) 203) = w' := by
 have hq : decide ((n : Int) ≤ 0) = false := by simp; omega
 by_cases hn : n = 1
 ·subst hn
  have hm := run_make_nat 1 1 (by decide) (by decide) (by decide)
  go_enter Tryz.func162, Tryz.ntmps162
  go_wp2
  go_ret
  exact ⟨1, Nat.le_refl _, by omega, rfl, rfl⟩
 ·have hn' : ((n : Int) == 1) = false := by rw [beq_eq_false_iff_ne]; omega
  have hm := run_make_nat (n : Int) ((n : Int) + 4) (by omega) (by omega) (by omega)
  rw [show ((n : Int) + 4).toNat = n + 4 by omega, show ((n : Int)).toNat = n by omega] at hm
  go_enter Tryz.func162, Tryz.ntmps162
  go_wp2
  go_ret
  exact ⟨n + 4, by omega, Nat.le_refl _, rfl, rfl⟩
/-- How many words M has. -/
def NormLen (n M : Nat) : Prop := M < B64 ^ n ∧ (0 < n → B64 ^ (n - 1) ≤ M)
theorem norm_step (k M : Nat) (h : M < B64 ^ (k + 1)) (hz : wd M k = 0) : M < B64 ^ k := by
 have h1 := wd_add M k
 rw [hz, Nat.zero_mul, Nat.add_zero, Nat.mod_eq_of_lt h] at h1
 rw [h1]
 exact Nat.mod_lt _ (Bpow_pos k)
theorem norm_stop (k M : Nat) (hz : wd M k ≠ 0) : B64 ^ k ≤ M := by
 by_cases h : B64 ^ k ≤ M
 ·exact h
 ·exfalso
  apply hz
  unfold wd
  rw [Nat.div_eq_of_lt (by omega)]
  rfl
set_option maxHeartbeats 1000000 in
theorem norm_row (w : World) (g n cap M : Nat) (h : Vec w g cap 0 n (wd M)) (hM : M < B64 ^ n) (hn : n ≤ cap) (hc : cap ≤ 1000000) :
  Calls Tryz.prog 165 #[.slice (Option.some ⟨g, 0, none⟩) n cap] w fun e w' => (∃ k, k ≤ n ∧ NormLen k M ∧ e = .returned (.slice (Option.some ⟨g, 0, none⟩) k cap)) ∧ w = w' := by
 go_enter Tryz.func165, Tryz.ntmps165
 go_wp2_with fail
 go_loop [3] (fun i => ∃ k : Nat, k ≤ n ∧ M < B64 ^ k ∧ i = .int .i64 k) (fun i => (intOf i).toNat)
 case atStart => exact ⟨n, Nat.le_refl _, hM, rfl⟩
 case round =>
  obtain ⟨k, hk, hMk, rfl⟩ := hrel
  have HM := Lib.hid hMk
  clear hMk
  by_cases h0 : k = 0
  ·subst h0
   go_wp2_with fail
   go_ret
   exact ⟨⟨0, hk, ⟨HM.out, fun h => absurd h (Nat.lt_irrefl 0)⟩, rfl⟩, rfl⟩
  ·obtain ⟨j, rfl⟩ : ∃ j, k = j + 1 := ⟨k - 1, by omega⟩
   have hcell := h.cell j (Nat.zero_le _) (by omega)
   by_cases hz : wd M j = 0
   ·have hz' : (((wd M j : Nat) : Int) == 0) = true := by rw [beq_iff_eq]; omega
    have Hz := Lib.hid hz
    clear hz
    go_wp2_with fail
    go_round
    case rel => exact ⟨j, by omega, norm_step j M HM.out Hz.out, by go_num⟩
    case measure => simp [intOf]
   ·have hz' : (((wd M j : Nat) : Int) == 0) = false := by rw [beq_eq_false_iff_ne]; omega
    have Hz := Lib.hid hz
    clear hz
    go_wp2_with fail
    go_ret
    exact ⟨⟨j + 1, hk, ⟨HM.out, fun _ => norm_stop j M Hz.out⟩, rfl⟩, rfl⟩
set_option linter.unusedVariables false
set_option linter.unusedSimpArgs false
open Go Go.RowKit
set_option maxRecDepth 100000
/-- Byte j of X. -/
def bt8 (X j : Nat) : Nat := X / 256 ^ j % 256
theorem bt8_lt (X j : Nat) : bt8 X j < 256 := Nat.mod_lt _ (by decide)
/-- The low j bytes of word k of X. -/
def lowB (X k j : Nat) : Nat := wd X k % 256 ^ j
theorem B64_256 : B64 = 256 ^ 8 := rfl
theorem lowB_step (X k j : Nat) (hj : j < 8) : lowB X k (j + 1) = lowB X k j + 256 ^ j * bt8 X (8 * k + j) := by
 unfold lowB bt8 wd
 rw [Nat.pow_succ 256 j, Nat.mod_mul]
 congr 2
 rw [B64_256, ← Nat.pow_mul]
 obtain ⟨d, hd⟩ : ∃ d, 8 = j + 1 + d := ⟨8 - (j + 1), by omega⟩
 rw [Nat.pow_add 256 (8 * k) j, ← Nat.div_div_eq_div_mul]
 generalize X / 256 ^ (8 * k) = q
 have h8 : 256 ^ 8 = 256 ^ j * (256 * 256 ^ d) := by
  rw [hd, Nat.pow_add, Nat.pow_succ, Nat.mul_assoc]
 rw [h8, Nat.mod_mul_right_div_self, Nat.mod_mul_right_mod]
theorem lowB_zero (X k : Nat) : lowB X k 0 = 0 := by unfold lowB; rw [Nat.pow_zero, Nat.mod_one]
theorem lowB_one (X k : Nat) : lowB X k 1 = bt8 X (8 * k) := by
 have := lowB_step X k 0 (by decide)
 rw [lowB_zero, Nat.pow_zero, Nat.one_mul, Nat.zero_add, Nat.zero_add] at this
 exact this
theorem lowB_all (X k : Nat) : lowB X k 8 = wd X k := by
 unfold lowB
 rw [← B64_256, Nat.mod_eq_of_lt (wd_lt X k)]
theorem lowB_lt (X k j : Nat) : lowB X k j < 256 ^ j := Nat.mod_lt _ (Nat.pow_pos (by decide))
/-- One byte more, by 'or', as the code does. -/
theorem or_byte (X k j p : Nat) (hj : j < 8) (hp : 256 ^ j = p) : bits .or .u64 (lowB X k j : Int) ((bt8 X (8 * k + j) : Int) * (p : Nat)) = (lowB X k (j + 1) : Nat) := by
 have hb := bt8_lt X (8 * k + j)
 have hl := lowB_lt X k j
 have hp8 : 256 ^ (j + 1) ≤ 256 ^ 8 := Nat.pow_le_pow_right (by decide) (by omega)
 have h1 : bt8 X (8 * k + j) * 256 ^ j + 256 ^ j ≤ 256 ^ (j + 1) := by
  rw [Nat.pow_succ, Nat.mul_comm, ← Nat.mul_succ]
  exact Nat.mul_le_mul_left _ hb
 have h256 : 0 < 256 ^ j := Nat.pow_pos (by decide)
 have hlt : bt8 X (8 * k + j) * 256 ^ j < 256 ^ 8 := by omega
 rw [← hp, ← Int.natCast_mul, u64_or_nat _ _ (show lowB X k j < 256 ^ 8 by omega) hlt, lowB_step X k j hj]
 congr 1
 have h2 : (256 : Nat) ^ j = 2 ^ (8 * j) := by rw [show (256 : Nat) = 2 ^ 8 from rfl, ← Nat.pow_mul]
 rw [h2] at hl ⊢
 rw [Nat.or_comm, Nat.mul_comm (bt8 _ _), ← Nat.two_pow_add_eq_or_of_lt hl, Nat.add_comm]
theorem or_all (X k : Nat) : bits .or .u64 (bits .or .u64 (bits .or .u64 (bits .or .u64 (bits .or .u64 (bits .or .u64 (bits .or .u64 (bt8 X (8 * k) : Int) ((bt8 X (8 * k + 1) : Int) * 256)) ((bt8 X (8 * k + 2) : Int) * 65536)) ((bt8 X (8 * k + 3) : Int) * 16777216)) ((bt8 X (8 * k + 4) : Int) * 4294967296)) ((bt8 X (8 * k + 5) : Int) * 1099511627776)) ((bt8 X (8 * k + 6) : Int) * 281474976710656)) ((bt8 X (8 * k + 7) : Int) * 72057594037927936) = (wd X k : Nat) := by
 have s1 := or_byte X k 1 256 (by decide) rfl
 have s2 := or_byte X k 2 65536 (by decide) rfl
 have s3 := or_byte X k 3 16777216 (by decide) rfl
 have s4 := or_byte X k 4 4294967296 (by decide) rfl
 have s5 := or_byte X k 5 1099511627776 (by decide) rfl
 have s6 := or_byte X k 6 281474976710656 (by decide) rfl
 have s7 := or_byte X k 7 72057594037927936 (by decide) rfl
 rw [lowB_one] at s1
 rw [lowB_all] at s7
 exact (congrArg (fun t => bits .or .u64 (bits .or .u64 (bits .or .u64 (bits .or .u64 (bits .or .u64 (bits .or .u64 t _) _) _) _) _) _) s1).trans ((congrArg (fun t => bits .or .u64 (bits .or .u64 (bits .or .u64 (bits .or .u64 (bits .or .u64 t _) _) _) _) _) s2).trans ((congrArg (fun t => bits .or .u64 (bits .or .u64 (bits .or .u64 (bits .or .u64 t _) _) _) _) s3).trans ((congrArg (fun t => bits .or .u64 (bits .or .u64 (bits .or .u64 t _) _) _) s4).trans ((congrArg (fun t => bits .or .u64 (bits .or .u64 t _) _) s5).trans ((congrArg (fun t => bits .or .u64 t _) s6).trans s7)))))
/-- Block g is a row of 608 bytes: those of X, the highest first. -/
def ByteRow (w : World) (g : Nat) (X : Nat) : Prop := ∃ cur, w.heap[g]? = Option.some (.cells cur 5 (0, 0)) ∧ ∀ j, j < 608 → cur[607 - j]? = Option.some (.int .u8 (bt8 X j : Nat))
theorem ByteRow.cell {w : World} {g X : Nat} (h : ByteRow w g X) (j : Nat) (hj : j < 608) : w.cell? ⟨g, 607 - j, none⟩ = Option.some (.int .u8 (bt8 X j : Nat)) := by
 obtain ⟨cur, hc, hv⟩ := h
 rw [cell_of_row w g _ _ _ _ hc]
 exact hv j hj
set_option maxHeartbeats 2000000 in
theorem be64 (w : World) (g X k o cap : Nat) (h : ByteRow w g X) (hk : k < 76) (ho : o = 600 - 8 * k) :
  Calls Tryz.prog 181 #[.slice (Option.some ⟨g, o, none⟩) 8 cap] w fun e w' => e = .returned (.int .u64 (wd X k : Nat)) ∧ Below w.heap.size w w' := by
 have c0 := h.cell (8 * k) (by omega)
 have c1 := h.cell (8 * k + 1) (by omega)
 have c2 := h.cell (8 * k + 2) (by omega)
 have c3 := h.cell (8 * k + 3) (by omega)
 have c4 := h.cell (8 * k + 4) (by omega)
 have c5 := h.cell (8 * k + 5) (by omega)
 have c6 := h.cell (8 * k + 6) (by omega)
 have c7 := h.cell (8 * k + 7) (by omega)
 rw [show 607 - (8 * k) = o + 7 by omega] at c0
 rw [show 607 - (8 * k + 1) = o + 6 by omega] at c1
 rw [show 607 - (8 * k + 2) = o + 5 by omega] at c2
 rw [show 607 - (8 * k + 3) = o + 4 by omega] at c3
 rw [show 607 - (8 * k + 4) = o + 3 by omega] at c4
 rw [show 607 - (8 * k + 5) = o + 2 by omega] at c5
 rw [show 607 - (8 * k + 6) = o + 1 by omega] at c6
 rw [show 607 - (8 * k + 7) = o by omega] at c7
 have l0 := bt8_lt X (8 * k)
 have l1 := bt8_lt X (8 * k + 1)
 have l2 := bt8_lt X (8 * k + 2)
 have l3 := bt8_lt X (8 * k + 3)
 have l4 := bt8_lt X (8 * k + 4)
 have l5 := bt8_lt X (8 * k + 5)
 have l6 := bt8_lt X (8 * k + 6)
 have l7 := bt8_lt X (8 * k + 7)
 clear h ho
 go_enter Tryz.func181, Tryz.ntmps181
 go_wp2_with fail
 go_quiet (fail)
 go_wp2_with fail
 go_ret
 exact ⟨congrArg (fun n => Ending.returned (.int .u64 n)) (or_all X k), ⟨rfl, rfl, rfl, Nat.le_refl _, fun _ _ => rfl⟩⟩
theorem bew (w : World) (g X k o cap : Nat) (h : ByteRow w g X) (hk : k < 76) (ho : o = 600 - 8 * k) :
  Calls Tryz.prog 176 #[.slice (Option.some ⟨g, o, none⟩) 8 cap] w fun e w' => e = .returned (.int .u64 (wd X k : Nat)) ∧ Below w.heap.size w w' := by
 have HO := Lib.hid ho
 clear ho
 go_enter Tryz.func176, Tryz.ntmps176
 go_wp2_with fail
 refine (be64 _ g X k o cap h hk HO.out).mono ?_
 rintro e w1 ⟨rfl, hb⟩
 go_wp2_with fail
 go_ret
 exact ⟨rfl, hb⟩
set_option linter.unusedVariables false
set_option linter.unusedSimpArgs false
open Go Go.RowKit
set_option maxRecDepth 100000
theorem ByteRow.below {w w1 : World} {g X B : Nat} (h : ByteRow w g X) (hg : g < B) (hb : Below B w w1) : ByteRow w1 g X := by
 obtain ⟨cur, hc, hv⟩ := h
 exact ⟨cur, (hb.block g hg).trans hc, hv⟩
/-- A nat in memory, the value '.slice A n cap': nil, or a row of n words; M is its value, n just so many as M has. -/
def NatIs (w : World) (A : Option Addr) (n cap M : Nat) : Prop :=
 NormLen n M ∧ ((n = 0 ∧ A = none ∧ cap = 0) ∨ ∃ g, A = Option.some ⟨g, 0, none⟩ ∧ n ≤ cap ∧ cap ≤ 1000000 ∧ Vec w g cap 0 n (wd M))
theorem NatIs.below {w w1 : World} {A : Option Addr} {n cap M : Nat} (h : NatIs w A n cap M) (hb : Below w.heap.size w w1) : NatIs w1 A n cap M := by
 refine ⟨h.1, ?_⟩
 rcases h.2 with h | ⟨g, h1, h2, h3, h4⟩
 ·exact Or.inl h
 ·exact Or.inr ⟨g, h1, h2, h3, h4.below hb⟩
/-- A big.Int in memory: not below 0. -/
def IntIs (w : World) (p M : Nat) : Prop := ∃ A n cap, w.heap[p]? = Option.some (.cells #[.bool false, .slice A n cap] 190 (0, 0)) ∧ NatIs w A n cap M
theorem Vec.ne_int {w : World} {g cap lo hi p : Nat} {F : Nat → Nat} {cs : Array Value} (h : Vec w g cap lo hi F) (hp : w.heap[p]? = Option.some (.cells cs 190 (0, 0))) : g ≠ p := by
 rintro rfl
 obtain ⟨cur, hc, _⟩ := h
 rw [hc] at hp
 injection hp with hp
 injection hp with _ hp
 cases hp
theorem NatIs.other {w w1 : World} {A : Option Addr} {n cap M p : Nat} {cs : Array Value} (h : NatIs w A n cap M) (hp : w.heap[p]? = Option.some (.cells cs 190 (0, 0))) (hb : ∀ k, k < w.heap.size → k ≠ p → w1.heap[k]? = w.heap[k]?) : NatIs w1 A n cap M := by
 refine ⟨h.1, ?_⟩
 rcases h.2 with h | ⟨g, h1, h2, h3, h4⟩
 ·exact Or.inl h
 ·exact Or.inr ⟨g, h1, h2, h3, h4.heap (hb g h4.lt (h4.ne_int hp))⟩
theorem IntIs.below {w w1 : World} {p M : Nat} (h : IntIs w p M) (hb : Below w.heap.size w w1) : IntIs w1 p M := by
 obtain ⟨A, n, cap, hp, hn⟩ := h
 exact ⟨A, n, cap, (hb.block p (Array.getElem?_eq_some_iff.1 hp).1).trans hp, hn.below hb⟩
theorem IntIs.lt {w : World} {p M : Nat} (h : IntIs w p M) : p < w.heap.size := by
 obtain ⟨A, n, cap, hp, hn⟩ := h
 exact (Array.getElem?_eq_some_iff.1 hp).1
/-- Another big.Int's cells are written. -/
theorem IntIs.grown {w w1 : World} {p q M : Nat} {cs : Array Value} (h : IntIs w p M) (hq : w.heap[q]? = Option.some (.cells cs 190 (0, 0))) (hg : w.grownBy w1 (Option.some q)) (hpq : p ≠ q) : IntIs w1 p M := by
 obtain ⟨A, n, cap, hp, hn⟩ := h
 exact ⟨A, n, cap, (hg.block p (Array.getElem?_eq_some_iff.1 hp).1 (fun e => hpq (by injection e))).trans hp, hn.other hq (fun k hk hne => hg.block k hk (fun e => hne (by injection e)))⟩
set_option maxHeartbeats 2000000 in
theorem setBytes_nil (w : World) (g X : Nat) (h : ByteRow w g X) (hX : X < TOP) (hg : g < w.heap.size) :
  Calls Tryz.prog 159 #[.slice none 0 0, .slice (Option.some ⟨g, 0, none⟩) 608 608] w fun e w' => (∃ A n cap, e = .returned (.slice A n cap) ∧ NatIs w' A n cap X) ∧ Below w.heap.size w w' := by
 go_enter Tryz.func159, Tryz.ntmps159
 go_wp2_with fail
 refine (make_nil 76 (by decide) (by decide) _).mono ?_
 rintro e w1 ⟨cap, hc1, hc2, rfl, rfl⟩
 go_wp2_with fail
 go_loopw [5, 6] (fun i kk wr => ∃ k : Nat, k ≤ 76 ∧ kk = .int .i64 k ∧ i = .int .i64 (608 - 8 * (k : Int)) ∧ Vec wr w.heap.size cap 0 k (wd X) ∧ Below w.heap.size w wr ∧ w.heap.size < wr.heap.size) (fun _ kk _ => 76 - (intOf kk).toNat)
 case atStart => exact ⟨0, by omega, rfl, rfl, (Vec.made w cap).weaken (Nat.le_refl _) (Nat.zero_le _) (fun j _ hj => absurd hj (Nat.not_lt_zero j)), (Below.refl _ _).alloc (Nat.le_refl _) _, by simp⟩
 case round =>
  obtain ⟨k, hk, rfl, rfl, hv, hb, hsz⟩ := hrel
  by_cases hlt : k < 76
  ·obtain ⟨v0, hcell⟩ := hv.some k (by omega)
   have hfz := hv.free k
   have hB := h.below hg hb
   have ho : (608 - 8 * (k : Int) - 8).toNat = 600 - 8 * k := by omega
   go_wp2_with fail
   rw [show 608 - 8 * k - (600 - 8 * k) = 8 by omega]
   refine (bew _ g X k (600 - 8 * k) _ hB hlt rfl).mono ?_
   rintro e w2 ⟨rfl, hb2⟩
   have hv2 := hv.below hb2
   obtain ⟨v1, hcell2⟩ := hv2.some k (by omega)
   have hfz2 := hv2.free k
   have hstep : Vec (w2.setCell ⟨w.heap.size, k, none⟩ (.int .u64 (wd X k : Nat))) w.heap.size cap 0 (k + 1) (wd X) :=
    hv2.set k (wd X k) (by omega) rfl (fun j _ hj hne => ⟨Nat.zero_le _, by omega, rfl⟩)
   have hbelow : Below w.heap.size w (w2.setCell ⟨w.heap.size, k, none⟩ (.int .u64 (wd X k : Nat))) :=
    below_of_grown (grown_set (grown_of_below (hb.trans (hb2.mono hb.size))) k _) (Nat.le_refl _)
   have hs2 := hb2.size
   have hsz2 : w.heap.size < (w2.setCell ⟨w.heap.size, k, none⟩ (.int .u64 (wd X k : Nat))).heap.size := by
    rw [show (w2.setCell ⟨w.heap.size, k, none⟩ (.int .u64 (wd X k : Nat))).heap.size = w2.heap.size by simp [World.setCell]]; omega
   have HB := Lib.hid hbelow
   have HS := Lib.hid hsz2
   clear hcell hfz hbelow hsz2 hs2 hb hb2 hsz
   go_wp2_with fail
   go_roundw
   case rel => exact ⟨k + 1, by omega, by go_num, by go_num, hstep, HB.out, HS.out⟩
   case measure => simp [intOf]; omega
  ·obtain rfl : k = 76 := by omega
   go_wp2_with fail
   refine (norm_row _ w.heap.size 76 cap X hv hX hc1 (by omega)).mono ?_
   rintro e w2 ⟨⟨n, hn, hnorm, rfl⟩, rfl⟩
   go_wp2_with fail
   go_ret
   exact ⟨⟨_, n, cap, rfl, hnorm, Or.inr ⟨w.heap.size, rfl, by omega, by omega, hv.weaken (Nat.le_refl _) hn (fun _ _ _ => rfl)⟩⟩, hb⟩
theorem int_cells {w : World} {p : Nat} {a b : Value} (h : w.heap[p]? = Option.some (.cells #[a, b] 190 (0, 0))) : w.cell? ⟨p, 0, none⟩ = Option.some a ∧ w.cell? ⟨p, 1, none⟩ = Option.some b ∧ w.frozen? ⟨p, 0, none⟩ = false ∧ w.frozen? ⟨p, 1, none⟩ = false := by
 refine ⟨?_, ?_, frozen_of_row w p 0 _ _ h, frozen_of_row w p 1 _ _ h⟩
 ·rw [cell_of_row w p 0 _ _ _ h]; rfl
 ·rw [cell_of_row w p 1 _ _ _ h]; rfl
/-- The end of a method that sets z: abs, then neg. -/
theorem int_set {w w2 : World} {p M n cap : Nat} {A : Option Addr} {v : Value} (h : w.heap[p]? = Option.some (.cells #[.bool false, v] 190 (0, 0))) (hb : Below w.heap.size w w2) (hn : NatIs w2 A n cap M) :
  IntIs ((w2.setCell ⟨p, 1, none⟩ (.slice A n cap)).setCell ⟨p, 0, none⟩ (.bool false)) p M ∧ w.grownBy ((w2.setCell ⟨p, 1, none⟩ (.slice A n cap)).setCell ⟨p, 0, none⟩ (.bool false)) (Option.some p) := by
 have hp2 : w2.heap[p]? = Option.some (.cells #[.bool false, v] 190 (0, 0)) := (hb.block p (Array.getElem?_eq_some_iff.1 h).1).trans h
 have h1 := heap_setCell_same w2 p 1 _ _ (.slice A n cap) hp2
 have h2 := heap_setCell_same _ p 0 _ _ (.bool false) h1
 refine ⟨⟨A, n, cap, h2, hn.other hp2 (fun k hk hne => ?_)⟩, grown_set (grown_set (grown_of_below hb) 1 _) 0 _⟩
 rw [heap_setCell_other _ ⟨p, 0, none⟩ k _ hne, heap_setCell_other _ ⟨p, 1, none⟩ k _ hne]
set_option maxHeartbeats 1000000 in
theorem int_setBytes (w : World) (p g X : Nat) (hp : w.heap[p]? = Option.some (.cells #[.bool false, .slice none 0 0] 190 (0, 0))) (h : ByteRow w g X) (hX : X < TOP) (hg : g < w.heap.size) :
  Calls Tryz.prog 140 #[.pointer (Option.some ⟨p, 0, none⟩), .slice (Option.some ⟨g, 0, none⟩) 608 608] w fun e w' => e = .returned (.pointer (Option.some ⟨p, 0, none⟩)) ∧ IntIs w' p X ∧ w.grownBy w' (Option.some p) := by
 obtain ⟨c0, c1, f0, f1⟩ := int_cells hp
 go_enter Tryz.func140, Tryz.ntmps140
 go_wp2_with fail
 refine (setBytes_nil _ g X h hX hg).mono ?_
 rintro e w2 ⟨⟨A, n, cap, rfl, hn⟩, hb⟩
 obtain ⟨d0, d1, e0, e1⟩ := int_cells ((hb.block p (Array.getElem?_eq_some_iff.1 hp).1).trans hp)
 have fin := Lib.hid (int_set hp hb hn)
 clear c0 c1 f0 f1 hb hn
 go_wp2_with fail
 go_ret
 exact ⟨rfl, fin.out⟩
end Go.Proofs.YtpfbgenefjhcjaaGreatDoor
namespace Go.Proofs.YtpfbgenefjhcjaaGreatDoor
set_option linter.unusedVariables false
set_option linter.unusedSimpArgs false
open Go Go.RowKit
set_option maxRecDepth 100000
theorem B64_two : B64 = 2 ^ 64 := rfl
theorem wd_shr (M q s j : Nat) (hs1 : 1 ≤ s) (hs : s ≤ 63) : wd (M / 2 ^ (64 * q + s)) j = (wd M (q + j) / 2 ^ s ||| wd M (q + j + 1) * 2 ^ (64 - s) % B64) := by
 have e1 : M / 2 ^ (64 * q + s) / B64 ^ j = M / B64 ^ (q + j) / 2 ^ s := by
  rw [B64_two, ← Nat.pow_mul, ← Nat.pow_mul, Nat.div_div_eq_div_mul, Nat.div_div_eq_div_mul, ← Nat.pow_add, ← Nat.pow_add]
  congr 2
  rw [Nat.mul_add]; omega
 have e2 : M / B64 ^ (q + j + 1) = M / B64 ^ (q + j) / B64 := by rw [Nat.pow_succ, Nat.div_div_eq_div_mul]
 unfold wd
 rw [e1, e2]
 generalize M / B64 ^ (q + j) = N
 have hB : B64 = 2 ^ s * 2 ^ (64 - s) := by rw [← Nat.pow_add, show s + (64 - s) = 64 by omega]; rfl
 have h1 : 0 < 2 ^ s := Nat.two_pow_pos s
 have h2 : 0 < 2 ^ (64 - s) := Nat.two_pow_pos _
 have h3 : N % B64 / 2 ^ s = N / 2 ^ s % 2 ^ (64 - s) := by rw [hB, Nat.mod_mul_right_div_self]
 have h4 : N / B64 % B64 * 2 ^ (64 - s) % B64 = 2 ^ (64 - s) * (N / B64 % 2 ^ s) := by
  rw [Nat.mod_mul_mod, Nat.mul_comm (N / B64)]
  conv => lhs; rw [hB, Nat.mul_comm (2 ^ s)]
  rw [Nat.mul_mod_mul_left, hB, Nat.mul_comm (2 ^ (64 - s)) (2 ^ s)]
 have h5 : N / 2 ^ s % B64 = N / 2 ^ s % 2 ^ (64 - s) + 2 ^ (64 - s) * (N / B64 % 2 ^ s) := by
  conv => lhs; rw [hB, Nat.mul_comm (2 ^ s), Nat.mod_mul]
  rw [Nat.div_div_eq_div_mul, ← hB]
 rw [h5, h3, h4, Nat.or_comm, ← Nat.two_pow_add_eq_or_of_lt (Nat.mod_lt _ h2), Nat.add_comm]
/-- The highest word: nothing comes from above. -/
theorem wd_shr_top (M q s n : Nat) (hs1 : 1 ≤ s) (hs : s ≤ 63) (h0 : 0 < n) (hM : M < B64 ^ (q + n)) : wd (M / 2 ^ (64 * q + s)) (n - 1) = wd M (q + n - 1) / 2 ^ s := by
 have h := wd_shr M q s (n - 1) hs1 hs
 have hz : wd M (q + (n - 1) + 1) = 0 := by
  unfold wd
  rw [show q + (n - 1) + 1 = q + n by omega, Nat.div_eq_of_lt hM]
  rfl
 rw [hz, Nat.zero_mul, Nat.zero_mod, Nat.or_zero, show q + (n - 1) = q + n - 1 by omega] at h
 exact h
theorem shr_val (M q s k : Nat) (hs1 : 1 ≤ s) (hs : s ≤ 63) : bits BinOp.or IntKind.u64 (((wd M (q + k) : Nat) : Int) / 2 ^ s) (IntKind.u64.wrap (((wd M (q + (k + 1)) : Nat) : Int) * 2 ^ (64 - s))) = (wd (M / 2 ^ (64 * q + s)) k : Nat) := by
 have e1 : (((wd M (q + k) : Nat) : Int) / 2 ^ s) = ((wd M (q + k) / 2 ^ s : Nat) : Int) := by rw [Int.natCast_ediv, Int.natCast_pow]; rfl
 have e2 : IntKind.u64.wrap (((wd M (q + (k + 1)) : Nat) : Int) * 2 ^ (64 - s)) = ((wd M (q + k + 1) * 2 ^ (64 - s) % B64 : Nat) : Int) := by
  rw [IntKind.wrap_u64, Int.natCast_emod, Int.natCast_mul, Int.natCast_pow]; rfl
 rw [e1, e2, u64_or_nat (wd M (q + k) / 2 ^ s) (wd M (q + k + 1) * 2 ^ (64 - s) % B64) (Nat.lt_of_le_of_lt (Nat.div_le_self _ _) (wd_lt M (q + k))) (show _ < B64 from Nat.mod_lt _ B64_pos), wd_shr M q s k hs1 hs]
theorem run_rshVU (args : Array Value) (w : World) : (callFunc 169 args).run Tryz.prog w = .ok (.enter 146 args) w := by kernel_rfl
theorem and63 (s : Nat) (hs : s ≤ 63) : bits .and .u64 (s : Int) 63 = (s : Nat) := by
 have h := u64_and_nat s 63 (by omega) (by decide)
 rw [show s &&& 63 = s % 64 from Nat.and_two_pow_sub_one_eq_mod _ 6, Nat.mod_eq_of_lt (by omega)] at h
 exact h
set_option maxHeartbeats 2000000 in
theorem rshVU_any (w : World) (g cap n h caph M q s cz cx lo hi : Nat) (F : Nat → Nat) (hz : Vec w g cap lo hi F) (hx : Vec w h caph 0 (q + n) (wd M)) (hM : M < B64 ^ (q + n)) (hne : h ≠ g) (h0 : 0 < n) (hn : n ≤ cap) (hcap : cap ≤ 1000000) (hq : q ≤ 1000000) (hs1 : 1 ≤ s) (hs : s ≤ 63) :
  Calls Tryz.prog 146 #[.slice (Option.some ⟨g, 0, none⟩) n cz, .slice (Option.some ⟨h, q, none⟩) n cx, .int .u64 (s : Nat)] w fun e w' => (∃ c : Int, e = .returned (.int .u64 c)) ∧ Vec w' g cap 0 n (wd (M / 2 ^ (64 * q + s))) ∧ w.grownBy w' (Option.some g) := by
 have hs0 : (((s : Nat) : Int) == 0) = false := by rw [beq_eq_false_iff_ne]; omega
 have hn0 : (((n : Nat) : Int) == 0) = false := by rw [beq_eq_false_iff_ne]; omega
 have ha := and63 s hs
 have hb := and63 (64 - s) (by omega)
 have hsub : ((64 - s : Nat) : Int) = 64 - (s : Int) := by omega
 rw [hsub] at hb
 have hx0 := hx.cell q (Nat.zero_le _) (by omega)
 have hl0 := wd_le M q
 go_enter Tryz.func146, Tryz.ntmps146
 go_wp2_with fail
 clear hx0 hl0
 go_loopw [8] (fun kk wr => ∃ k : Nat, k + 1 ≤ n ∧ kk = .int .i64 ((k : Int) + 1) ∧ Vec wr g cap 0 k (wd (M / 2 ^ (64 * q + s))) ∧ w.grownBy wr (Option.some g)) (fun kk _ => n + 1 - (intOf kk).toNat)
 case atStart => exact ⟨0, by omega, rfl, (by obtain ⟨cur, a1, a2, _⟩ := hz; exact ⟨cur, a1, a2, fun j _ hj => absurd hj (Nat.not_lt_zero j)⟩), grown_refl _ _⟩
 case round =>
  obtain ⟨k, hk, rfl, hv, hg⟩ := hrel
  have hxr := hx.grown hg (fun e => hne (by injection e))
  obtain ⟨v, hc⟩ := hv.some k (by omega)
  have hf := hv.free k
  have hstep : Vec (wr.setCell ⟨g, k, none⟩ (.int .u64 (wd (M / 2 ^ (64 * q + s)) k : Nat))) g cap 0 (k + 1) (wd (M / 2 ^ (64 * q + s))) :=
   hv.set k _ (by omega) rfl (fun j _ hj hne => ⟨Nat.zero_le _, by omega, rfl⟩)
  have hgs := grown_set hg k (.int .u64 (wd (M / 2 ^ (64 * q + s)) k : Nat))
  by_cases hlt : k + 1 < n
  ·have hx1 := hxr.cell (q + k) (Nat.zero_le _) (by omega)
   have hx2 := hxr.cell (q + (k + 1)) (Nat.zero_le _) (by omega)
   have hl1 := wd_le M (q + k)
   have hl2 := wd_le M (q + (k + 1))
   go_wp2_with fail
   go_region
   go_wp2_with fail
   rw [shr_val M q s k hs1 hs]
   go_roundw
   case rel => exact ⟨k + 1, by omega, by go_num, hstep, grown_drew hgs⟩
   case measure => simp [intOf]; omega
  ·obtain rfl : n = k + 1 := by omega
   have hx1 := hxr.cell (q + k) (Nat.zero_le _) (by omega)
   have hl1 := wd_le M (q + k)
   have hlast : (((wd M (q + k) : Nat) : Int) / 2 ^ s) = (wd (M / 2 ^ (64 * q + s)) k : Nat) := by
    have h := wd_shr_top M q s (k + 1) hs1 hs (by omega) hM
    rw [show k + 1 - 1 = k by omega, show q + (k + 1) - 1 = q + k by omega] at h
    rw [h, Int.natCast_ediv, Int.natCast_pow]; rfl
   have HL := Lib.hid hlast
   clear hlast
   go_wp2_with fail
   go_ret
   rw [HL.out]
   exact ⟨⟨_, rfl⟩, hstep, hgs⟩
set_option linter.unusedVariables false
set_option linter.unusedSimpArgs false
open Go Go.RowKit
set_option maxRecDepth 100000
theorem size_W : (Tryz.prog.info? 203).map (·.size) = Option.some 1 := by kernel_rfl
/-- n words from place q on. -/
def fromWords (G : Nat → Nat) (q n : Nat) : List Value := (List.range n).map fun i => .int .u64 (G (q + i) : Nat)
theorem fromWords_length (G : Nat → Nat) (q n : Nat) : (fromWords G q n).length = n := by simp [fromWords]
theorem fromWords_get (G : Nat → Nat) (q n i : Nat) (h : i < n) : (fromWords G q n)[i]? = Option.some (.int .u64 (G (q + i) : Nat)) := by simp [fromWords, h]
theorem fromWords_one (G : Nat → Nat) (q n : Nat) : ∀ v ∈ fromWords G q n, v.oneCell' = true := by
 intro v hv
 simp only [fromWords, List.mem_map] at hv
 obtain ⟨i, _, rfl⟩ := hv
 rfl
/-- Words laid over a row, from place o on. -/
theorem Vec.lay {w : World} {g cap lo hi lo' hi' : Nat} {F F' G : Nat → Nat} (h : Vec w g cap lo hi F) (o q n : Nat) (hfit : o + n ≤ cap)
  (hF : ∀ j, lo' ≤ j → j < hi' → (o ≤ j ∧ j < o + n ∧ F' j = G (q + (j - o))) ∨ ((j < o ∨ o + n ≤ j) ∧ lo ≤ j ∧ j < hi ∧ F' j = F j)) :
  ∃ cur, w.heap[g]? = Option.some (.cells cur 203 (0, 0)) ∧ cur.size = cap ∧ Vec (w.setRow g (cur.toList.take o ++ (fromWords G q n ++ cur.toList.drop (o + n))).toArray) g cap lo' hi' F' := by
 obtain ⟨cur, hc, hs, hv⟩ := h
 refine ⟨cur, hc, hs, _, setRow_heap w g cur _ _ _ hc, ?_, fun j a b => ?_⟩
 ·simp only [List.size_toArray, List.length_append, List.length_take, List.length_drop, Array.length_toList, fromWords_length]
  omega
 ·have hlt : (cur.toList.take o).length = o := by simp only [List.length_take, Array.length_toList]; omega
  rw [List.getElem?_toArray]
  rcases hF j a b with ⟨h1, h2, h3⟩ | ⟨h1, h2, h3, h4⟩
  ·rw [List.getElem?_append_right (by omega), hlt, List.getElem?_append_left (by rw [fromWords_length]; omega), fromWords_get _ _ _ _ (by omega), h3]
  ·rw [h4, ← hv j h2 h3]
   rcases h1 with h1 | h1
   ·rw [List.getElem?_append_left (by omega), List.getElem?_take_of_lt h1, Array.getElem?_toList]
   ·rw [List.getElem?_append_right (by omega), hlt, List.getElem?_append_right (by rw [fromWords_length]; omega), fromWords_length, List.getElem?_drop, Array.getElem?_toList]
    congr 1
    omega
theorem wpList_copy_vec {w : World} {ops : Array Oper} {rest : List Oper} {op : Oper} {a : Act} {Q : Exit → Act → World → Prop} (hgd : op.guard = none) (d s : Operand) (dT sT : TypeId)
  (ho : op.op = .call { callee := .builtin .copy, args := #[d, s], argTypes := #[dT, sT] }) (hu : Tryz.prog.underlying dT = Option.some (.slice 203))
  (g o h q n dcap scap cap caph lo hi lo' hi' : Nat) (F F' G : Nat → Nat) (hd : a.eval d = .slice (Option.some ⟨g, o, none⟩) n dcap) (hs : a.eval s = .slice (Option.some ⟨h, q, none⟩) n scap)
  (hz : Vec w g cap lo hi F) (hx : Vec w h caph q (q + n) G) (hfit : o + n ≤ cap)
  (hF : ∀ j, lo' ≤ j → j < hi' → (o ≤ j ∧ j < o + n ∧ F' j = G (q + (j - o))) ∨ ((j < o ∨ o + n ≤ j) ∧ lo ≤ j ∧ j < hi ∧ F' j = F j))
  (K : ∀ w', Vec w' g cap lo' hi' F' → w.grownBy w' (Option.some g) → wpList Tryz.prog ops Q rest (a.put op.dst (goInt n)) w') : wpList Tryz.prog ops Q (op :: rest) a w := by
 obtain ⟨cur, hc, hsz, hv⟩ := hz.lay o q n hfit hF
 refine wpList_copy_own hgd d s dT sT ho 203 hu size_W g o n dcap ⟨h, q, none⟩ n scap hd hs cur 203 hc (fromWords G q n) (by rw [fromWords_length]; exact (Nat.min_self n).symm) (fun j v hj => ?_) (by rw [fromWords_length]; omega) (fromWords_one _ _ _) ?_
 ·have hjn : j < n := by have := (List.getElem?_eq_some_iff.1 hj).1; rwa [fromWords_length] at this
  rw [Addr.add_mid, hx.cell (q + j) (by omega) (by omega), ← hj, fromWords_get _ _ _ _ hjn]
 ·rw [fromWords_length]
  exact K _ hv (grown_setRow _ _ _)
theorem zeroW (w : World) : (zeroValue 203).run Tryz.prog w = .ok (.int .u64 0) w := by kernel_rfl
theorem fromWords_zero (n : Nat) : (Builtin.zeroCells (Value.int .u64 0).cells n).toList = fromWords (fun _ => 0) 0 n := by
 apply List.ext_getElem?
 intro i
 by_cases h : i < n
 ·rw [fromWords_get _ _ _ _ h]
  simp [Builtin.zeroCells, Value.cells, h, Nat.mod_one]
 ·rw [List.getElem?_eq_none (by simp [Builtin.zeroCells, Value.cells]; omega), List.getElem?_eq_none (by rw [fromWords_length]; omega)]
theorem run_clear_row (w : World) (t ty : TypeId) (g o n c : Nat) (cur : Array Value) (ht : Tryz.prog.underlying t = Option.some (.slice 203)) (hc : w.heap[g]? = Option.some (.cells cur 203 (0, 0))) (hfit : o + (n + 1) ≤ cur.size) :
  (Builtin.clear_ #[t] ty #[.slice (Option.some ⟨g, o, none⟩) (n + 1) c]).run Tryz.prog w = .ok (.tuple #[]) (w.setRow g (cur.toList.take o ++ (fromWords (fun _ => 0) 0 (n + 1) ++ cur.toList.drop (o + (n + 1)))).toArray) := by
 have hst := run_storeCells_at Tryz.prog g o 203 (fromWords (fun _ => 0) 0 (n + 1)) 0 cur w hc (by rw [fromWords_length]; exact hfit) (fromWords_one _ _ _)
 rw [fromWords_length, Nat.add_zero, List.append_assoc] at hst
 simp [Builtin.clear_, run_underlying ht, zeroW, fromWords_zero, hst]
theorem wpList_clear_vec {w : World} {ops : Array Oper} {rest : List Oper} {op : Oper} {a : Act} {Q : Exit → Act → World → Prop} (hgd : op.guard = none) (d : Operand) (dT : TypeId)
  (ho : op.op = .call { callee := .builtin .clear, args := #[d], argTypes := #[dT] }) (hu : Tryz.prog.underlying dT = Option.some (.slice 203))
  (g n dcap cap lo hi lo' hi' : Nat) (F F' : Nat → Nat) (hd : a.eval d = .slice (Option.some ⟨g, 0, none⟩) n dcap)
  (hz : Vec w g cap lo hi F) (hfit : n ≤ cap) (hF : ∀ j, lo' ≤ j → j < hi' → (j < n ∧ F' j = 0) ∨ (n ≤ j ∧ lo ≤ j ∧ j < hi ∧ F' j = F j))
  (K : ∀ w', Vec w' g cap lo' hi' F' → w.grownBy w' (Option.some g) → wpList Tryz.prog ops Q rest (a.put op.dst (.tuple #[])) w') : wpList Tryz.prog ops Q (op :: rest) a w := by
 refine wpList_plain hgd fun K' hK' => ?_
 cases n with
 | zero =>
  unfold Oper.wp
  simp [execOp, ho, resolve, invoke, builtin, hd, Builtin.clear_, run_underlying hu, Result.andThen]
  exact hK' _ _ (K w (hz.weaken' (fun j a b => by
   rcases hF j a b with ⟨h, _⟩ | ⟨_, h1, h2, h3⟩
   ·omega
   ·exact ⟨h1, h2, h3.symm⟩)) (grown_refl _ _))
 | succ n =>
  obtain ⟨cur, hc, hsz, hv⟩ := hz.lay (G := fun _ => 0) (lo' := lo') (hi' := hi') (F' := F') 0 0 (n + 1) (by omega) (fun j a b => by
   rcases hF j a b with ⟨h1, h2⟩ | ⟨h0, h1, h2, h3⟩
   ·exact Or.inl ⟨Nat.zero_le _, by omega, h2⟩
   ·exact Or.inr ⟨Or.inr (by omega), h1, h2, h3⟩)
  have hrun := run_clear_row w dT op.type g 0 n dcap cur hu hc (by omega)
  unfold Oper.wp
  simp only [execOp, ho, resolve, invoke, builtin, hd, Sem.run_bind, Sem.run_pure, Result.andThen_ok, List.map_toArray, List.map_cons, List.map_nil, hrun]
  exact hK' _ _ (K _ hv (grown_setRow _ _ _))
set_option linter.unusedVariables false
set_option linter.unusedSimpArgs false
open Go Go.RowKit
set_option maxRecDepth 100000
/-- A row made behind w's blocks, or none. -/
def NewRow (w : World) (B : Option Addr) : Prop := ∀ a, B = Option.some a → w.heap.size ≤ a.block
theorem natIs_zero (w : World) : NatIs w none 0 0 0 := ⟨⟨by rw [Nat.pow_zero]; omega, fun h => absurd h (Nat.lt_irrefl 0)⟩, Or.inl ⟨rfl, rfl, rfl⟩⟩
theorem B64_pow (m : Nat) : B64 ^ m = 2 ^ (64 * m) := by rw [B64_two, ← Nat.pow_mul]
theorem shr_zero (M m s : Nat) (h : M < B64 ^ m) (hq : m ≤ s / 64) : M / 2 ^ s = 0 := by
 rw [B64_pow] at h
 exact Nat.div_eq_of_lt (Nat.lt_of_lt_of_le h (Nat.pow_le_pow_right (by omega) (by omega)))
theorem shr_lt (M m s k : Nat) (h : M < B64 ^ m) (hk : m = s / 64 + k) : M / 2 ^ s < B64 ^ k := by
 rw [B64_pow] at *
 rw [Nat.div_lt_iff_lt_mul (Nat.two_pow_pos s), ← Nat.pow_add]
 exact Nat.lt_of_lt_of_le h (Nat.pow_le_pow_right (by omega) (by omega))
theorem wd_shr_whole (M q j : Nat) : wd (M / 2 ^ (64 * q)) j = wd M (q + j) := by
 unfold wd
 rw [Nat.div_div_eq_div_mul, B64_two, ← Nat.pow_mul, ← Nat.pow_mul, ← Nat.pow_add]
 congr 3
 rw [Nat.mul_add]
set_option maxHeartbeats 2000000 in
theorem rsh_nil (w : World) (A : Option Addr) (m cx M s : Nat) (h : NatIs w A m cx M) (hs1 : 1 ≤ s) (hs : s ≤ 50000) (hm : m ≤ 50000) :
  Calls Tryz.prog 151 #[.slice none 0 0, .slice A m cx, .int .u64 (s : Nat)] w fun e w' => (∃ B n cap, e = .returned (.slice B n cap) ∧ NatIs w' B n cap (M / 2 ^ s) ∧ NewRow w B) ∧ Below w.heap.size w w' := by
 have hs0 : (((s : Nat) : Int) == 0) = false := by rw [beq_eq_false_iff_ne]; omega
 obtain ⟨q, hq⟩ : ∃ q, s / 64 = q := ⟨_, rfl⟩
 obtain ⟨r, hr⟩ : ∃ r, s % 64 = r := ⟨_, rfl⟩
 have hqi : ((s : Nat) : Int) / 64 = (q : Nat) := by omega
 have hri : ((s : Nat) : Int) % 64 = (r : Nat) := by omega
 have hq1 : q ≤ 1000 := by omega
 have hr1 : r ≤ 63 := by omega
 have HQ := Lib.hid hq
 have HR := Lib.hid hr
 have hlt := h.1.1
 have hrow := h.2
 clear h hq hr
 by_cases hk : m ≤ q
 ·have hd : decide ((m : Int) - (q : Int) ≤ 0) = true := by simp; omega
  have hz := Lib.hid (shr_zero M m s hlt (by rw [HQ.out]; exact hk))
  clear hrow
  go_enter Tryz.func151, Tryz.ntmps151
  go_wp2_with fail
  go_ret
  exact ⟨⟨none, 0, 0, rfl, by rw [hz.out]; exact natIs_zero _, fun _ h => by cases h⟩, Below.refl _ _⟩
 ·have hd : decide ((m : Int) - (q : Int) ≤ 0) = false := by simp; omega
  obtain ⟨h0, hA, _⟩ | ⟨g, rfl, hc1, hc2, hv⟩ := hrow
  ·exfalso; omega
  ·obtain ⟨k, hkm⟩ : ∃ k, m = q + k := ⟨m - q, by omega⟩
   have hk0 : 0 < k := by omega
   have hqk : (m : Int) - (q : Int) = (k : Nat) := by omega
   have hmk : (m : Int) - (k : Int) = (q : Nat) := by omega
   have hkl : k ≤ 50000 := by omega
   have hqm : (q : Int) ≤ (m : Int) := by omega
   have HKM := Lib.hid hkm
   have hgl := hv.lt
   have hML := Lib.hid (shr_lt M m s k hlt (by rw [HQ.out]; exact hkm))
   clear hkm hk
   go_enter Tryz.func151, Tryz.ntmps151
   go_wp2_with fail
   refine (make_nil k hk0 (by omega) _).mono ?_
   rintro e w1 ⟨cap, hc1', hc2', rfl, rfl⟩
   have hv1 := hv.below ((Below.refl w.heap.size w).alloc (Nat.le_refl _) (Obj.cells (zeroWords cap) 203))
   have hz1 := Vec.made w cap
   have hb1 : Below w.heap.size w (w.alloc (Obj.cells (zeroWords cap) 203)) := (Below.refl _ _).alloc (Nat.le_refl _) _
   generalize hW : w.alloc (Obj.cells (zeroWords cap) 203) = W at *
   clear hW
   have hmq : m - q = k := by omega
   have hvq : Vec W g cx q (q + k) (wd M) := hv1.weaken (Nat.zero_le _) (by omega) (fun _ _ _ => rfl)
   have hgv : g ≠ w.heap.size := by omega
   by_cases hr0 : r = 0
   ·subst hr0
    have HF : ∀ j, 0 ≤ j → j < k → (0 ≤ j ∧ j < 0 + k ∧ wd (M / 2 ^ s) j = wd M (q + (j - 0))) ∨ ((j < 0 ∨ 0 + k ≤ j) ∧ 0 ≤ j ∧ j < cap ∧ wd (M / 2 ^ s) j = 0) := fun j _ hj =>
     Or.inl ⟨Nat.zero_le _, by omega, by
      have hs64 : s = 64 * q := by have := HQ.out; have := HR.out; omega
      rw [hs64, wd_shr_whole, Nat.sub_zero]⟩
    have HFF := Lib.hid HF
    clear HF
    go_wp2_with (refine wpList_copy_vec rfl (.tmp 40) (.tmp 45) 188 188 rfl Tryz.underlying188 w.heap.size 0 g q k cap (cx - q) cap cx 0 cap 0 k (fun _ => 0) (wd (M / 2 ^ s)) (wd M) rfl rfl hz1 hvq (by omega) HFF.out ?_; intro w2 hv2 hg2)
    have hb2 := below_of_grown (grown_trans (grown_of_below hb1) hg2) (Nat.le_refl _)
    clear hg2 hb1 hz1 hvq hv1
    refine (norm_row _ w.heap.size k cap (M / 2 ^ s) hv2 hML.out hc1' (by omega)).mono ?_
    rintro e w3 ⟨⟨n, hn, hnorm, rfl⟩, rfl⟩
    go_wp2_with fail
    go_ret
    exact ⟨⟨_, n, cap, rfl, ⟨hnorm, Or.inr ⟨w.heap.size, rfl, by omega, by omega, hv2.weaken (Nat.le_refl _) hn (fun _ _ _ => rfl)⟩⟩, fun a h => by injection h with h; rw [← h]; exact Nat.le_refl _⟩, hb2⟩
   ·have hr0' : (((r : Nat) : Int) == 0) = false := by rw [beq_eq_false_iff_ne]; omega
    have hrv := run_rshVU
    have hs64 := Lib.hid (show 64 * q + r = s by have := HQ.out; have := HR.out; omega)
    go_wp2_with fail
    refine (rshVU_any _ w.heap.size cap k g cx M q r cap (cx - q) 0 cap (fun _ => 0) hz1 (by rw [← HKM.out]; exact hv1) (by rw [← HKM.out]; exact hlt) hgv hk0 hc1' (by omega) (by omega) (by omega) hr1).mono ?_
    rw [hs64.out]
    rintro e w2 ⟨⟨c, rfl⟩, hv2, hg2⟩
    have hb2 := below_of_grown (grown_trans (grown_of_below hb1) hg2) (Nat.le_refl _)
    clear hg2 hb1 hz1 hvq hv1
    go_wp2_with fail
    refine (norm_row _ w.heap.size k cap (M / 2 ^ s) hv2 hML.out hc1' (by omega)).mono ?_
    rintro e w3 ⟨⟨n, hn, hnorm, rfl⟩, rfl⟩
    go_wp2_with fail
    go_ret
    exact ⟨⟨_, n, cap, rfl, ⟨hnorm, Or.inr ⟨w.heap.size, rfl, by omega, by omega, hv2.weaken (Nat.le_refl _) hn (fun _ _ _ => rfl)⟩⟩, fun a h => by injection h with h; rw [← h]; exact Nat.le_refl _⟩, hb2⟩
set_option linter.unusedVariables false
set_option linter.unusedSimpArgs false
open Go Go.RowKit
set_option maxRecDepth 100000
theorem wd_shl_zero (M s : Nat) : wd (M * 2 ^ s) 0 = wd M 0 * 2 ^ s % B64 := by
 unfold wd
 rw [Nat.pow_zero, Nat.div_one, Nat.div_one, Nat.mod_mul_mod]
theorem wd_shl (M s j : Nat) (hs1 : 1 ≤ s) (hs : s ≤ 63) : wd (M * 2 ^ s) (j + 1) = (wd M (j + 1) * 2 ^ s % B64 ||| wd M j / 2 ^ (64 - s)) := by
 have e2 : M / B64 ^ (j + 1) = M / B64 ^ j / B64 := by rw [Nat.pow_succ, Nat.div_div_eq_div_mul]
 have hB : B64 = 2 ^ s * 2 ^ (64 - s) := by rw [← Nat.pow_add, show s + (64 - s) = 64 by omega]; rfl
 have h1 : 0 < 2 ^ s := Nat.two_pow_pos s
 have h2 : 0 < 2 ^ (64 - s) := Nat.two_pow_pos _
 have e1 : M * 2 ^ s / B64 ^ (j + 1) = M / B64 ^ j / 2 ^ (64 - s) := by
  rw [Nat.pow_succ, Nat.div_div_eq_div_mul]
  conv => lhs; rw [hB]
  rw [show (2 ^ s * 2 ^ (64 - s)) ^ j * (2 ^ s * 2 ^ (64 - s)) = 2 ^ s * ((2 ^ s * 2 ^ (64 - s)) ^ j * 2 ^ (64 - s)) by ac_rfl, Nat.mul_comm M, Nat.mul_div_mul_left _ _ h1, ← hB]
 unfold wd
 rw [e1, e2]
 generalize M / B64 ^ j = N
 have h3 : N % B64 / 2 ^ (64 - s) = N / 2 ^ (64 - s) % 2 ^ s := by
  conv => lhs; rw [hB, Nat.mul_comm (2 ^ s)]
  rw [Nat.mod_mul_right_div_self]
 have h4 : N / B64 % B64 * 2 ^ s % B64 = 2 ^ s * (N / B64 % 2 ^ (64 - s)) := by
  rw [Nat.mod_mul_mod, Nat.mul_comm (N / B64)]
  conv => lhs; rw [hB]
  rw [Nat.mul_mod_mul_left, hB]
 have h5 : N / 2 ^ (64 - s) % B64 = N / 2 ^ (64 - s) % 2 ^ s + 2 ^ s * (N / B64 % 2 ^ (64 - s)) := by
  conv => lhs; rw [hB, Nat.mod_mul]
  rw [Nat.div_div_eq_div_mul, Nat.mul_comm (2 ^ (64 - s)), ← hB]
 rw [h5, h3, h4, ← Nat.two_pow_add_eq_or_of_lt (Nat.mod_lt _ h1), Nat.add_comm]
/-- The word that goes out above. -/
theorem wd_shl_top (M s m : Nat) (hs1 : 1 ≤ s) (hs : s ≤ 63) (h0 : 0 < m) (hM : M < B64 ^ m) : wd (M * 2 ^ s) m = wd M (m - 1) / 2 ^ (64 - s) := by
 obtain ⟨j, rfl⟩ : ∃ j, m = j + 1 := ⟨m - 1, by omega⟩
 have h := wd_shl M s j hs1 hs
 have hz : wd M (j + 1) = 0 := by unfold wd; rw [Nat.div_eq_of_lt hM]; rfl
 rw [hz, Nat.zero_mul, Nat.zero_mod, Nat.zero_or] at h
 exact h
theorem shl_val (M s k : Nat) (hs1 : 1 ≤ s) (hs : s ≤ 63) : bits BinOp.or IntKind.u64 (IntKind.u64.wrap (((wd M (k + 1) : Nat) : Int) * 2 ^ s)) (((wd M k : Nat) : Int) / 2 ^ (64 - s)) = (wd (M * 2 ^ s) (k + 1) : Nat) := by
 have e1 : (((wd M k : Nat) : Int) / 2 ^ (64 - s)) = ((wd M k / 2 ^ (64 - s) : Nat) : Int) := by rw [Int.natCast_ediv, Int.natCast_pow]; rfl
 have e2 : IntKind.u64.wrap (((wd M (k + 1) : Nat) : Int) * 2 ^ s) = ((wd M (k + 1) * 2 ^ s % B64 : Nat) : Int) := by
  rw [IntKind.wrap_u64, Int.natCast_emod, Int.natCast_mul, Int.natCast_pow]; rfl
 rw [e1, e2, u64_or_nat (wd M (k + 1) * 2 ^ s % B64) (wd M k / 2 ^ (64 - s)) (show _ < B64 from Nat.mod_lt _ B64_pos) (Nat.lt_of_le_of_lt (Nat.div_le_self _ _) (wd_lt M k)), wd_shl M s k hs1 hs]
theorem run_lshVU (args : Array Value) (w : World) : (callFunc 173 args).run Tryz.prog w = .ok (.enter 145 args) w := by kernel_rfl
set_option maxHeartbeats 2000000 in
theorem lshVU_any (w : World) (g cap d m h caph M s cz cx lo hi : Nat) (F : Nat → Nat) (hz : Vec w g cap lo hi F) (hx : Vec w h caph 0 m (wd M)) (hM : M < B64 ^ m) (hne : h ≠ g) (h0 : 0 < m) (hn : d + m ≤ cap) (hcap : cap ≤ 1000000) (hs1 : 1 ≤ s) (hs : s ≤ 63) :
  Calls Tryz.prog 145 #[.slice (Option.some ⟨g, d, none⟩) m cz, .slice (Option.some ⟨h, 0, none⟩) m cx, .int .u64 (s : Nat)] w fun e w' => e = .returned (.int .u64 (wd (M * 2 ^ s) m : Nat)) ∧ Vec w' g cap d (d + m) (fun j => wd (M * 2 ^ s) (j - d)) ∧ w.grownBy w' (Option.some g) := by
 have hs0 : (((s : Nat) : Int) == 0) = false := by rw [beq_eq_false_iff_ne]; omega
 have hn0 : (((m : Nat) : Int) == 0) = false := by rw [beq_eq_false_iff_ne]; omega
 have ha := and63 s hs
 have hb := and63 (64 - s) (by omega)
 have hsub : ((64 - s : Nat) : Int) = 64 - (s : Int) := by omega
 rw [hsub] at hb
 have hx0 := hx.cell (m - 1) (Nat.zero_le _) (by omega)
 have hm1 : ((m : Int) - 1).toNat = m - 1 := by omega
 have hl0 := wd_le M (m - 1)
 have htop := wd_shl_top M s m hs1 hs h0 hM
 have htop' : (wd (M * 2 ^ s) m : Int) = ((wd M (m - 1) : Nat) : Int) / 2 ^ (64 - s) := by rw [htop, Int.natCast_ediv, Int.natCast_pow]; rfl
 have HT := Lib.hid htop'
 clear htop htop'
 go_enter Tryz.func145, Tryz.ntmps145
 go_wp2_with fail
 clear hx0 hl0
 go_loopw [8] (fun kk wr => ∃ k : Nat, k < m ∧ kk = .int .i64 k ∧ Vec wr g cap (d + k + 1) (d + m) (fun j => wd (M * 2 ^ s) (j - d)) ∧ w.grownBy wr (Option.some g)) (fun kk _ => (intOf kk).toNat)
 case atStart => exact ⟨m - 1, by omega, congrArg _ (by omega), hz.weaken' (fun j a b => by omega), grown_refl _ _⟩
 case round =>
  obtain ⟨k, hk, rfl, hv, hg⟩ := hrel
  have hxr := hx.grown hg (fun e => hne (by injection e))
  obtain ⟨v, hc⟩ := hv.some (d + k) (by omega)
  have hf := hv.free (d + k)
  have hstep : Vec (wr.setCell ⟨g, d + k, none⟩ (.int .u64 (wd (M * 2 ^ s) k : Nat))) g cap (d + k) (d + m) (fun j => wd (M * 2 ^ s) (j - d)) :=
   hv.set (d + k) _ (by omega) (by rw [show d + k - d = k by omega]) (fun j a b hne => ⟨by omega, b, rfl⟩)
  have hgs := grown_set hg (d + k) (.int .u64 (wd (M * 2 ^ s) k : Nat))
  have hx1 := hxr.cell k (Nat.zero_le _) (by omega)
  have hl1 := wd_le M k
  by_cases hlt : 0 < k
  ·obtain ⟨i, rfl⟩ : ∃ i, k = i + 1 := ⟨k - 1, by omega⟩
   have hx2 := hxr.cell i (Nat.zero_le _) (by omega)
   have hl2 := wd_le M i
   go_wp2_with fail
   go_region
   go_wp2_with fail
   rw [shl_val M s i hs1 hs]
   go_roundw
   case rel => exact ⟨i, by omega, by go_num, hstep, grown_drew hgs⟩
   case measure => simp [intOf]
  ·obtain rfl : k = 0 := by omega
   have hw0 : IntKind.u64.wrap (((wd M 0 : Nat) : Int) * 2 ^ s) = (wd (M * 2 ^ s) 0 : Nat) := by
    rw [wd_shl_zero, IntKind.wrap_u64, Int.natCast_emod, Int.natCast_mul, Int.natCast_pow]; rfl
   simp only [Nat.add_zero] at hc hf hstep hgs
   go_wp2_with fail
   go_ret
   exact ⟨congrArg (fun n => Ending.returned (.int .u64 n)) HT.out.symm, hstep, hgs⟩
set_option linter.unusedVariables false
set_option linter.unusedSimpArgs false
open Go Go.RowKit
set_option maxRecDepth 100000
theorem below_drewN (w : World) (n : Nat) : Below w.heap.size w (w.drewN n) := ⟨rfl, rfl, rfl, Nat.le_refl _, fun _ _ => rfl⟩
theorem same_nil (w : World) (A : Option Addr) (m cx : Nat) :
  Calls Tryz.prog 167 #[.slice none 0 0, .slice A m cx] w fun e w' => e = .returned (.bool false) ∧ Below w.heap.size w w' := by
 by_cases h : m = 0
 ·subst h
  go_enter Tryz.func167, Tryz.ntmps167
  go_wp2_with fail
  go_quiet (fail)
  go_wp2_with fail
  go_ret
  exact ⟨rfl, below_drewN w _⟩
 ·have h' : ((0 : Int) == (m : Nat)) = false := by rw [beq_eq_false_iff_ne]; omega
  go_enter Tryz.func167, Tryz.ntmps167
  go_wp2_with fail
  go_quiet (fail)
  go_wp2_with fail
  go_ret
  exact ⟨rfl, below_drewN w _⟩
theorem alias_nil (w : World) (A : Option Addr) (m cx : Nat) :
  Calls Tryz.prog 168 #[.slice none 0 0, .slice A m cx] w fun e w' => e = .returned (.bool false) ∧ Below w.heap.size w w' := by
 go_enter Tryz.func168, Tryz.ntmps168
 go_wp2_with fail
 go_quiet (fail)
 go_wp2_with fail
 go_ret
 exact ⟨rfl, below_drewN w _⟩
set_option maxHeartbeats 2000000 in
theorem set_nil (w : World) (A : Option Addr) (m cx M : Nat) (h : NatIs w A m cx M) (h0 : 0 < m) (hm : m ≤ 50000) :
  Calls Tryz.prog 161 #[.slice none 0 0, .slice A m cx] w fun e w' => (∃ B n cap, e = .returned (.slice B n cap) ∧ NatIs w' B n cap M) ∧ Below w.heap.size w w' := by
 have hnorm := Lib.hid h.1
 obtain ⟨h1, _⟩ | ⟨g, rfl, hc1, hc2, hv⟩ := h.2
 ·omega
 ·have hgl := hv.lt
  clear h
  go_enter Tryz.func161, Tryz.ntmps161
  go_wp2_with fail
  refine (make_nil m h0 (by omega) _).mono ?_
  rintro e w1 ⟨cap, hc1', hc2', rfl, rfl⟩
  have hv1 := hv.below ((Below.refl w.heap.size w).alloc (Nat.le_refl _) (Obj.cells (zeroWords cap) 203))
  have hz1 := Vec.made w cap
  have hb1 : Below w.heap.size w (w.alloc (Obj.cells (zeroWords cap) 203)) := (Below.refl _ _).alloc (Nat.le_refl _) _
  generalize hW : w.alloc (Obj.cells (zeroWords cap) 203) = W at *
  clear hW
  have hvq : Vec W g cx 0 (0 + m) (wd M) := hv1.weaken (Nat.le_refl _) (by omega) (fun _ _ _ => rfl)
  have HF : ∀ j, 0 ≤ j → j < m → (0 ≤ j ∧ j < 0 + m ∧ wd M j = wd M (0 + (j - 0))) ∨ ((j < 0 ∨ 0 + m ≤ j) ∧ 0 ≤ j ∧ j < cap ∧ wd M j = 0) := fun j _ hj =>
   Or.inl ⟨Nat.zero_le _, by omega, by rw [Nat.sub_zero, Nat.zero_add]⟩
  have HFF := Lib.hid HF
  clear HF
  go_wp2_with (refine wpList_copy_vec rfl (.tmp 9) (.tmp 10) 188 188 rfl Tryz.underlying188 w.heap.size 0 g 0 m cap cx cap cx 0 cap 0 m (fun _ => 0) (wd M) (wd M) rfl rfl hz1 hvq (by omega) HFF.out ?_; intro w2 hv2 hg2)
  have hb2 := below_of_grown (grown_trans (grown_of_below hb1) hg2) (Nat.le_refl _)
  go_ret
  exact ⟨⟨_, m, cap, rfl, hnorm.out, Or.inr ⟨w.heap.size, rfl, by omega, by omega, hv2⟩⟩, hb2⟩
/-- What lsh makes of M's words, M 2^r B64^d: the lower d words are 0. -/
theorem wd_up_low (T d j : Nat) (h : j < d) : wd (T * B64 ^ d) j = 0 := by
 unfold wd
 obtain ⟨e, rfl⟩ : ∃ e, d = j + 1 + e := ⟨d - (j + 1), by omega⟩
 rw [show T * B64 ^ (j + 1 + e) = B64 ^ j * (B64 * (T * B64 ^ e)) by rw [Nat.pow_add, Nat.pow_succ]; ac_rfl, Nat.mul_div_cancel_left _ (Bpow_pos j), Nat.mul_mod_right]
theorem wd_up (T d j : Nat) (h : d ≤ j) : wd (T * B64 ^ d) j = wd T (j - d) := by
 obtain ⟨e, rfl⟩ : ∃ e, j = d + e := ⟨j - d, by omega⟩
 rw [Nat.add_sub_cancel_left]
 unfold wd
 rw [Nat.pow_add, ← Nat.div_div_eq_div_mul, Nat.mul_div_cancel _ (Bpow_pos d)]
theorem shl_all (M s q r : Nat) (hq : s / 64 = q) (hr : s % 64 = r) : M * 2 ^ r * B64 ^ q = M * 2 ^ s := by
 rw [B64_pow, Nat.mul_assoc, ← Nat.pow_add]
 congr 2
 omega
theorem shl_lt (M m s n : Nat) (h : M < B64 ^ m) (hn : n = m + s / 64) : M * 2 ^ s < B64 ^ (n + 1) := by
 rw [B64_pow] at *
 have h2 : M * 2 ^ s < 2 ^ (64 * m) * 2 ^ s := Nat.mul_lt_mul_of_pos_right h (Nat.two_pow_pos s)
 rw [← Nat.pow_add] at h2
 exact Nat.lt_of_lt_of_le h2 (Nat.pow_le_pow_right (by omega) (by omega))
set_option maxHeartbeats 4000000 in
theorem lsh_nil (w : World) (A : Option Addr) (m cx M s : Nat) (h : NatIs w A m cx M) (hs : s ≤ 50000) (hm : m ≤ 50000) (h0 : s = 0 → 0 < m) :
  Calls Tryz.prog 154 #[.slice none 0 0, .slice A m cx, .int .u64 (s : Nat)] w fun e w' => (∃ B n cap, e = .returned (.slice B n cap) ∧ NatIs w' B n cap (M * 2 ^ s)) ∧ Below w.heap.size w w' := by
 by_cases hs0 : s = 0
 ·have hm0 := h0 hs0
  subst hs0
  have HP := Lib.hid (show M * 2 ^ 0 = M by rw [Nat.pow_zero, Nat.mul_one])
  go_enter Tryz.func154, Tryz.ntmps154
  go_wp2_with fail
  refine (same_nil _ A m cx).mono ?_
  rintro e w1 ⟨rfl, hb1⟩
  have hn1 := h.below hb1
  go_wp2_with fail
  refine (alias_nil _ A m cx).mono ?_
  rintro e w2 ⟨rfl, hb2⟩
  have hn2 := hn1.below hb2
  go_wp2_with fail
  refine (set_nil _ A m cx M hn2 hm0 hm).mono ?_
  rintro e w3 ⟨⟨B, n, cap, rfl, hn3⟩, hb3⟩
  go_wp2_with fail
  go_ret
  exact ⟨⟨B, n, cap, rfl, by rw [HP.out]; exact hn3⟩, (hb1.trans (hb2.mono hb1.size)).trans (hb3.mono (Nat.le_trans hb1.size hb2.size))⟩
 ·have hs0' : (((s : Nat) : Int) == 0) = false := by rw [beq_eq_false_iff_ne]; omega
  by_cases hm0 : m = 0
  ·subst hm0
   have hz := Lib.hid (show M * 2 ^ s = 0 by
    have := h.1.1
    rw [Nat.pow_zero] at this
    rw [show M = 0 by omega, Nat.zero_mul])
   go_enter Tryz.func154, Tryz.ntmps154
   go_wp2_with fail
   go_ret
   exact ⟨⟨none, 0, 0, rfl, by rw [hz.out]; exact natIs_zero _⟩, Below.refl _ _⟩
  ·have hm0' : (((m : Nat) : Int) == 0) = false := by rw [beq_eq_false_iff_ne]; omega
   obtain ⟨q, hq⟩ : ∃ q, s / 64 = q := ⟨_, rfl⟩
   obtain ⟨r, hr⟩ : ∃ r, s % 64 = r := ⟨_, rfl⟩
   obtain ⟨n, hn⟩ : ∃ n, m + q = n := ⟨_, rfl⟩
   have hqi : ((s : Nat) : Int) / 64 = (q : Nat) := by omega
   have hri : ((s : Nat) : Int) % 64 = (r : Nat) := by omega
   have hni : ((m : Nat) : Int) + (q : Nat) = (n : Nat) := by omega
   have hnm : ((n : Nat) : Int) - (m : Nat) = (q : Nat) := by omega
   have hq1 : q ≤ 1000 := by omega
   have hr1 : r ≤ 63 := by omega
   have hn1 : n ≤ 51000 := by omega
   have hqn : (q : Int) ≤ (n : Int) := by omega
   have HQ := Lib.hid hq
   have HR := Lib.hid hr
   have HN := Lib.hid hn
   have HML := Lib.hid (shl_lt M m s n h.1.1 (by rw [hq]; exact hn.symm))
   have HAL := Lib.hid (shl_all M s q r hq hr)
   have hlt := h.1.1
   have hrow := h.2
   clear h hq hr h0 hn hs0
   obtain ⟨h0, hA, _⟩ | ⟨g, rfl, hc1, hc2, hv⟩ := hrow
   ·exfalso; omega
   ·have hgl := hv.lt
    have hn1i : ((n : Int) + 1) = ((n + 1 : Nat) : Int) := by omega
    have HNI := Lib.hid hn1i
    clear hn1i
    go_enter Tryz.func154, Tryz.ntmps154
    go_wp2_with fail
    rw [HNI.out]
    refine (make_nil (n + 1) (by omega) (by omega) _).mono ?_
    rintro e w1 ⟨cap, hc1', hc2', rfl, rfl⟩
    have hv1 := hv.below ((Below.refl w.heap.size w).alloc (Nat.le_refl _) (Obj.cells (zeroWords cap) 203))
    have hz1 := Vec.made w cap
    have hb1 : Below w.heap.size w (w.alloc (Obj.cells (zeroWords cap) 203)) := (Below.refl _ _).alloc (Nat.le_refl _) _
    generalize hW : w.alloc (Obj.cells (zeroWords cap) 203) = W at *
    clear hW
    have hmq : n - q = m := by have := HN.out; omega
    have hvq : Vec W g cx 0 (0 + m) (wd M) := hv1.weaken (Nat.le_refl _) (by omega) (fun _ _ _ => rfl)
    have hgv : g ≠ w.heap.size := by omega
    have hn0 := HN.out
    have hlowF : ∀ j, j < q → wd (M * 2 ^ s) j = 0 := fun j hj => by rw [← HAL.out]; exact wd_up_low _ q j hj
    have hupF : ∀ j, q ≤ j → wd (M * 2 ^ s) j = wd (M * 2 ^ r) (j - q) := fun j hj => by rw [← HAL.out]; exact wd_up _ q j hj
    have HLF := Lib.hid hlowF
    have HUF := Lib.hid hupF
    clear hlowF hupF
    have fin : ∀ w4 : World, Vec w4 w.heap.size cap 0 (n + 1) (wd (M * 2 ^ s)) → Below w.heap.size w w4 → ∀ k, k ≤ n + 1 → NormLen k (M * 2 ^ s) → (∃ B n' cap', Ending.returned (.slice (Option.some ⟨w.heap.size, 0, none⟩) k cap) = Ending.returned (.slice B n' cap') ∧ NatIs w4 B n' cap' (M * 2 ^ s)) ∧ Below w.heap.size w w4 :=
     fun w4 h4 hb4 k hk hnorm => ⟨⟨_, k, cap, rfl, hnorm, Or.inr ⟨w.heap.size, rfl, by omega, by omega, h4.weaken (Nat.le_refl _) hk (fun _ _ _ => rfl)⟩⟩, hb4⟩
    have FIN := Lib.hid fin
    clear fin
    by_cases hr0 : r = 0
    ·subst hr0
     have hw0 : ∀ j, wd (M * 2 ^ 0) j = wd M j := fun j => by rw [Nat.pow_zero, Nat.mul_one]
     have HCF := Lib.hid (show ∀ j, q ≤ j → j < n → (q ≤ j ∧ j < q + m ∧ wd (M * 2 ^ s) j = wd M (0 + (j - q))) ∨ ((j < q ∨ q + m ≤ j) ∧ 0 ≤ j ∧ j < cap ∧ wd (M * 2 ^ s) j = 0) from fun j a b => Or.inl ⟨a, by omega, by rw [HUF.out j a, hw0, Nat.zero_add]⟩)
     have hzn : wd (M * 2 ^ s) n = 0 := by
      rw [HUF.out n (by omega), hw0, show n - q = m by omega]
      unfold wd
      rw [Nat.div_eq_of_lt hlt]; rfl
     have HZN := Lib.hid hzn
     clear hzn hw0
     go_wp2_with (first
      | (refine wpList_copy_vec rfl (.tmp 46) (.tmp 47) 188 188 rfl Tryz.underlying188 w.heap.size q g 0 m (cap - q) cx cap cx 0 cap q n (fun _ => 0) (wd (M * 2 ^ s)) (wd M) rfl rfl hz1 hvq (by omega) HCF.out ?_; intro w2 hv2 hg2; obtain ⟨v0, hcv⟩ := hv2.some n (by omega); have hfv := hv2.free n; have hv3 : Vec (w2.setCell ⟨w.heap.size, n, none⟩ (.int .u64 (0 : Nat))) w.heap.size cap q (n + 1) (wd (M * 2 ^ s)) := (hv2.set n 0 (by omega) HZN.out.symm (fun j a b hne => ⟨a, by omega, rfl⟩)); have hg3 := grown_set hg2 n (.int .u64 (0 : Nat)); have HV3 := Lib.hid hv3; have HG3 := Lib.hid hg3; clear hv3 hg3 hv2 hg2)
      | (refine wpList_clear_vec rfl (.tmp 68) 188 rfl Tryz.underlying188 w.heap.size q cap cap q (n + 1) 0 (n + 1) (wd (M * 2 ^ s)) (wd (M * 2 ^ s)) rfl HV3.out (by omega) (fun j a b => if hj : j < q then Or.inl ⟨hj, HLF.out j hj⟩ else Or.inr ⟨by omega, by omega, b, rfl⟩) ?_; intro w4 hv4 hg4; have hb4 := Lib.hid (below_of_grown (grown_trans (grown_trans (grown_of_below hb1) HG3.out) hg4) (Nat.le_refl _)); clear hg4))
     refine (norm_row _ w.heap.size (n + 1) cap (M * 2 ^ s) hv4 HML.out hc1' (by omega)).mono ?_
     rintro e w5 ⟨⟨k, hk, hnorm, rfl⟩, rfl⟩
     go_wp2_with fail
     go_ret
     exact FIN.out _ hv4 hb4.out k hk hnorm
    ·have hr0' : (((r : Nat) : Int) == 0) = false := by rw [beq_eq_false_iff_ne]; omega
     have hlv := run_lshVU
     go_wp2_with fail
     refine (lshVU_any _ w.heap.size cap q m g cx M r (cap - q) cx 0 cap (fun _ => 0) hz1 hv1 hlt hgv (by omega) (by omega) (by omega) (by omega) hr1).mono ?_
     rintro e w2 ⟨rfl, hv2, hg2⟩
     obtain ⟨v0, hcv⟩ := hv2.some n (by omega)
     have hfv := hv2.free n
     have hv3 : Vec (w2.setCell ⟨w.heap.size, n, none⟩ (.int .u64 (wd (M * 2 ^ r) m : Nat))) w.heap.size cap q (n + 1) (wd (M * 2 ^ s)) :=
      hv2.set n (wd (M * 2 ^ r) m) (by omega) (by rw [HUF.out n (by omega), show n - q = m by omega]) (fun j a b hne => ⟨a, by omega, (HUF.out j a).symm⟩)
     have hg3 := grown_set hg2 n (.int .u64 (wd (M * 2 ^ r) m : Nat))
     have HV3 := Lib.hid hv3
     have HG3 := Lib.hid hg3
     clear hv3 hg3 hv2 hg2
     go_wp2_with (refine wpList_clear_vec rfl (.tmp 68) 188 rfl Tryz.underlying188 w.heap.size q cap cap q (n + 1) 0 (n + 1) (wd (M * 2 ^ s)) (wd (M * 2 ^ s)) rfl HV3.out (by omega) (fun j a b => if hj : j < q then Or.inl ⟨hj, HLF.out j hj⟩ else Or.inr ⟨by omega, by omega, b, rfl⟩) ?_; intro w4 hv4 hg4; have hb4 := Lib.hid (below_of_grown (grown_trans (grown_trans (grown_of_below hb1) HG3.out) hg4) (Nat.le_refl _)); clear hg4)
     refine (norm_row _ w.heap.size (n + 1) cap (M * 2 ^ s) hv4 HML.out hc1' (by omega)).mono ?_
     rintro e w5 ⟨⟨k, hk, hnorm, rfl⟩, rfl⟩
     go_wp2_with fail
     go_ret
     exact FIN.out _ hv4 hb4.out k hk hnorm
end Go.Proofs.YtpfbgenefjhcjaaGreatDoor
namespace Go.Proofs.YtpfbgenefjhcjaaGreatDoor
set_option linter.unusedVariables false
set_option linter.unusedSimpArgs false
open Go Go.RowKit
set_option maxRecDepth 100000
theorem bitsSub_any (x y c d c' : Nat) (h1 : c ≤ 1) (hd : (x + B64 - y - c) % B64 = d) (hc : (if x < y + c then 1 else 0) = c') (w : World) :
  Calls Tryz.prog 166 #[.int .u64 (x : Nat), .int .u64 (y : Nat), .int .u64 (c : Nat)] w fun e w' => e = .returned (.tuple #[.int .u64 (d : Nat), .int .u64 (c' : Nat)]) ∧ w' = w := by
 have hs := run_sub_nat x y c d c' h1 hd hc
 have H := Lib.hid hd
 have HC := Lib.hid hc
 clear hd hc
 go_enter Tryz.func166, Tryz.ntmps166
 go_wp2_with fail
 go_ret2
 exact ⟨rfl, rfl⟩
theorem run_subVV (args : Array Value) (w : World) : (callFunc 163 args).run Tryz.prog w = .ok (.enter 144 args) w := by kernel_rfl
/-- The words of X - Y, if Y is at most X. -/
theorem wd_sub (X Y n j : Nat) (hY : Y ≤ X) (hj : j < n) : wd (X + B64 ^ n - Y) j = wd (X - Y) j := by
 obtain ⟨d, rfl⟩ : ∃ d, n = j + 1 + d := ⟨n - (j + 1), by omega⟩
 rw [show X + B64 ^ (j + 1 + d) - Y = X - Y + B64 ^ (j + 1 + d) by omega]
 unfold wd
 rw [show B64 ^ (j + 1 + d) = B64 ^ j * (B64 * B64 ^ d) by rw [Nat.pow_add, Nat.pow_succ]; ac_rfl, Nat.add_mul_div_left _ _ (Bpow_pos j), Nat.add_mul_mod_self_left]
theorem borrow_end (X Y n : Nat) (hX : X < B64 ^ n) (hY : Y ≤ X) : borrow X Y n = 0 := by
 unfold borrow
 rw [Nat.mod_eq_of_lt hX, Nat.mod_eq_of_lt (by omega), if_neg (by omega)]
set_option maxHeartbeats 2000000 in
theorem subVV_any (w : World) (g cap n h caph k capk X Y cz cx cy lo hi : Nat) (F : Nat → Nat) (hz : Vec w g cap lo hi F) (hx : Vec w h caph 0 n (wd X)) (hy : Vec w k capk 0 n (wd Y)) (hX : X < B64 ^ n) (hY : Y ≤ X) (hne : h ≠ g) (hne' : k ≠ g) (hn : n ≤ cap) (hcap : cap ≤ 1000000) :
  Calls Tryz.prog 144 #[.slice (Option.some ⟨g, 0, none⟩) n cz, .slice (Option.some ⟨h, 0, none⟩) n cx, .slice (Option.some ⟨k, 0, none⟩) n cy] w fun e w' => e = .returned (.int .u64 0) ∧ Vec w' g cap 0 n (wd (X - Y)) ∧ w.grownBy w' (Option.some g) := by
 have HX := Lib.hid hX
 have HY := Lib.hid hY
 clear hX hY
 go_enter Tryz.func144, Tryz.ntmps144
 go_wp2_with fail
 go_loopw [6, 25] (fun c kk wr => ∃ i : Nat, i ≤ n ∧ c = .int .u64 (borrow X Y i : Nat) ∧ kk = .int .i64 (i : Nat) ∧ Vec wr g cap 0 i (wd (X - Y)) ∧ w.grownBy wr (Option.some g)) (fun _ kk _ => n - (intOf kk).toNat)
 case atStart => exact ⟨0, by omega, by rw [borrow_zero]; rfl, rfl, (by obtain ⟨cur, a1, a2, _⟩ := hz; exact ⟨cur, a1, a2, fun j _ hj => absurd hj (Nat.not_lt_zero j)⟩), grown_refl _ _⟩
 case round =>
  obtain ⟨i, hi, rfl, rfl, hv, hg⟩ := hrel
  by_cases hlt : i < n
  ·have hx1 := (hx.grown hg (fun e => hne (by injection e))).cell i (Nat.zero_le _) hlt
   have hy1 := (hy.grown hg (fun e => hne' (by injection e))).cell i (Nat.zero_le _) hlt
   obtain ⟨v, hc⟩ := hv.some i (by omega)
   have hf := hv.free i
   have hcl := borrow_le X Y i
   have hw := sub_word X Y i n hlt HX.out (Nat.lt_of_le_of_lt HY.out HX.out)
   rw [wd_sub X Y n i HY.out hlt] at hw
   have hstep : Vec (wr.setCell ⟨g, i, none⟩ (.int .u64 (wd (X - Y) i : Nat))).drew g cap 0 (i + 1) (wd (X - Y)) :=
    hv.set i _ (by omega) rfl (fun j _ hj hne => ⟨Nat.zero_le _, by omega, rfl⟩)
   have HG := Lib.hid hg
   have hs := bitsSub_any (wd X i) (wd Y i) (borrow X Y i) _ _ hcl hw.1 hw.2
   have hlt' : (i : Int) < n := by omega
   clear hw hx hy hz hv hg
   go_wp2_with fail
   go_quiet ((go_at_call 166; exact Calls.quiet_of_same (hs _)))
   go_wp2_with fail
   go_roundw
   case rel => exact ⟨i + 1, by omega, rfl, by go_num, hstep, grown_set (grown_drewN HG.out _) i _⟩
   case measure => simp [intOf]; omega
  ·obtain rfl : i = n := by omega
   have hlt' : decide ((i : Int) < (i : Nat)) = false := by simp
   have hb := borrow_end X Y i HX.out HY.out
   rw [hb]
   go_wp2_with fail
   go_ret
   exact ⟨rfl, hv, hg⟩
set_option maxHeartbeats 2000000 in
theorem sub_nil (w : World) (A B : Option Addr) (m cx n cy X Y : Nat) (h : NatIs w A m cx X) (h' : NatIs w B n cy Y) (hY : Y ≤ X) (h0 : 0 < m) (hn : n = m ∨ n = 0) (hm : m ≤ 50000) :
  Calls Tryz.prog 150 #[.slice none 0 0, .slice A m cx, .slice B n cy] w fun e w' => (∃ C k cap, e = .returned (.slice C k cap) ∧ NatIs w' C k cap (X - Y)) ∧ Below w.heap.size w w' := by
 have hm0 : (((m : Nat) : Int) == 0) = false := by rw [beq_eq_false_iff_ne]; omega
 rcases hn with rfl | rfl
 ·have hlt := h.1.1
  have hrow := h.2
  have hrow' := h'.2
  clear h h'
  obtain ⟨h1, _⟩ | ⟨g, rfl, hc1, hc2, hv⟩ := hrow
  ·omega
  obtain ⟨h1, _⟩ | ⟨g', rfl, hd1, hd2, hv'⟩ := hrow'
  ·omega
  have hgl := hv.lt
  have hgl' := hv'.lt
  have HL := Lib.hid hlt
  have HY := Lib.hid hY
  clear hlt hY
  have hrun := run_subVV
  go_enter Tryz.func150, Tryz.ntmps150
  go_wp2_with fail
  refine (make_nil n h0 (by omega) _).mono ?_
  rintro e w1 ⟨cap, hc1', hc2', rfl, rfl⟩
  have hvx := hv.below ((Below.refl w.heap.size w).alloc (Nat.le_refl _) (Obj.cells (zeroWords cap) 203))
  have hvy := hv'.below ((Below.refl w.heap.size w).alloc (Nat.le_refl _) (Obj.cells (zeroWords cap) 203))
  have hz1 := Vec.made w cap
  have hb1 : Below w.heap.size w (w.alloc (Obj.cells (zeroWords cap) 203)) := (Below.refl _ _).alloc (Nat.le_refl _) _
  generalize hW : w.alloc (Obj.cells (zeroWords cap) 203) = W at *
  clear hW
  go_wp2_with fail
  go_still_tail 9, (by kernel_rfl)
  change wpList _ _ _ _ _ W.drew
  have HT := Lib.hid (subVV_any W.drew w.heap.size cap n g cx g' cy X Y cap cx cy 0 cap (fun _ => 0) hz1 hvx hvy HL.out HY.out (by omega) (by omega) hc1' (by omega))
  have hb2 : Below w.heap.size w W.drew := ⟨hb1.os, hb1.tape, hb1.output, hb1.size, hb1.block⟩
  generalize W.drew = W2 at *
  clear hvx hvy hz1 hb1
  go_wp2_with fail
  refine HT.out.mono ?_
  rintro e w3 ⟨rfl, hv3, hg3⟩
  have hb3 := below_of_grown (grown_trans (grown_of_below hb2) hg3) (Nat.le_refl _)
  clear hg3 hb2
  go_wp2_with fail
  refine (norm_row _ w.heap.size n cap (X - Y) hv3 (Nat.lt_of_le_of_lt (Nat.sub_le _ _) HL.out) hc1' (by omega)).mono ?_
  rintro e w4 ⟨⟨k, hk, hnorm, rfl⟩, rfl⟩
  go_wp2_with fail
  go_ret
  exact ⟨⟨_, k, cap, rfl, hnorm, Or.inr ⟨w.heap.size, rfl, by omega, by omega, hv3.weaken (Nat.le_refl _) hk (fun _ _ _ => rfl)⟩⟩, hb3⟩
 ·have hz : Y = 0 := by have := h'.1.1; rw [Nat.pow_zero] at this; omega
  subst hz
  go_enter Tryz.func150, Tryz.ntmps150
  go_wp2_with fail
  refine (set_nil _ A m cx X h h0 hm).mono ?_
  rintro e w3 ⟨⟨C, k, cap, rfl, hn3⟩, hb3⟩
  go_wp2_with fail
  go_ret
  exact ⟨⟨C, k, cap, rfl, hn3⟩, hb3⟩
set_option linter.unusedVariables false
set_option linter.unusedSimpArgs false
open Go Go.RowKit
set_option maxRecDepth 100000
theorem div_step (X i : Nat) : X / B64 ^ i = X / B64 ^ (i + 1) * B64 + wd X i := by
 unfold wd
 rw [Nat.pow_succ, ← Nat.div_div_eq_div_mul, Nat.mul_comm]
 exact (Nat.div_add_mod _ _).symm
theorem word_lt (X Y i : Nat) (h : X / B64 ^ (i + 1) = Y / B64 ^ (i + 1)) (hw : wd X i < wd Y i) : X < Y := by
 have h1 := div_step X i
 have h2 := div_step Y i
 rw [h] at h1
 refine Nat.lt_of_not_le fun hle => ?_
 have := Nat.div_le_div_right (c := B64 ^ i) hle
 omega
theorem word_eq (X Y i : Nat) (h : X / B64 ^ (i + 1) = Y / B64 ^ (i + 1)) (hw : wd X i = wd Y i) : X / B64 ^ i = Y / B64 ^ i := by
 rw [div_step X i, div_step Y i, h, hw]
theorem len_lt (X Y m n : Nat) (hX : X < B64 ^ m) (hn : 0 < n → B64 ^ (n - 1) ≤ Y) (h : m < n) : X < Y :=
 Nat.lt_of_lt_of_le (Nat.lt_of_lt_of_le hX (Nat.pow_le_pow_right B64_pos (by omega))) (hn (by omega))
/-- How X stands to Y. -/
def cmpN (X Y : Nat) : Int := ((X : Int) - Y).sign
theorem cmpN_lt {X Y : Nat} (h : X < Y) : cmpN X Y = -1 := Int.sign_eq_neg_one_of_neg (by omega)
theorem cmpN_gt {X Y : Nat} (h : Y < X) : cmpN X Y = 1 := Int.sign_eq_one_of_pos (by omega)
theorem cmpN_eq {X Y : Nat} (h : X = Y) : cmpN X Y = 0 := by unfold cmpN; rw [h, Int.sub_self]; rfl
theorem natIs_row {w : World} {A : Option Addr} {n cap M : Nat} (h : NatIs w A n cap M) (h0 : 0 < n) : ∃ g, A = Option.some ⟨g, 0, none⟩ ∧ n ≤ cap ∧ cap ≤ 1000000 ∧ Vec w g cap 0 n (wd M) := by
 obtain ⟨h1, _⟩ | ⟨g, rfl, a, b, c⟩ := h.2
 ·omega
 ·exact ⟨g, rfl, a, by omega, c⟩
set_option maxHeartbeats 2000000 in
theorem natCmp_any (w : World) (A B : Option Addr) (m cx n cy X Y : Nat) (h : NatIs w A m cx X) (h' : NatIs w B n cy Y) :
  Calls Tryz.prog 153 #[.slice A m cx, .slice B n cy] w fun e w' => e = .returned (.int .i64 (cmpN X Y)) ∧ ∃ k, w' = w.drewN k := by
 have hX := h.1
 have hY := h'.1
 by_cases hlt : m < n
 ·have hc := cmpN_lt (len_lt X Y m n hX.1 hY.2 hlt)
  rw [hc]
  have h1 : ((m : Int) != n) = true := by rw [bne_iff_ne]; omega
  have h2 : (m : Int) < n := by omega
  clear hX hY h h'
  go_enter Tryz.func153, Tryz.ntmps153
  go_wp2_with fail
  go_ret
  exact ⟨rfl, 0, rfl⟩
 ·by_cases hgt : n < m
  ·have hc := cmpN_gt (len_lt Y X n m hY.1 hX.2 hgt)
   rw [hc]
   have h1 : ((m : Int) != n) = true := by rw [bne_iff_ne]; omega
   have h2 : decide ((m : Int) < n) = false := by simp; omega
   have h3 : (n : Int) < m := by omega
   clear hX hY h h'
   go_enter Tryz.func153, Tryz.ntmps153
   go_wp2_with fail
   go_ret
   exact ⟨rfl, 0, rfl⟩
  ·obtain rfl : m = n := by omega
   clear hlt hgt
   by_cases h0 : m = 0
   ·subst h0
    have hz1 := hX.1
    have hz2 := hY.1
    rw [Nat.pow_zero] at hz1 hz2
    have hc := cmpN_eq (show X = Y by omega)
    rw [hc]
    clear hX hY h h' hz1 hz2
    go_enter Tryz.func153, Tryz.ntmps153
    go_wp2_with fail
    go_ret
    exact ⟨rfl, 0, rfl⟩
   ·obtain ⟨g, rfl, ha, hb, hv⟩ := natIs_row h (by omega)
    obtain ⟨g', rfl, ha', hb', hv'⟩ := natIs_row h' (by omega)
    have hm0 : ((m : Int) == 0) = false := by rw [beq_eq_false_iff_ne]; omega
    have HX := Lib.hid hX.1
    have HY := Lib.hid hY.1
    clear hX hY h h'
    have h1 : ((m : Int) != m) = false := by simp
    go_enter Tryz.func153, Tryz.ntmps153
    go_wp2_with fail
    go_loopw [7] (fun i wr => ∃ k : Nat, k < m ∧ i = .int .i64 (k : Nat) ∧ X / B64 ^ (k + 1) = Y / B64 ^ (k + 1) ∧ ∃ q, wr = w.drewN q) (fun i _ => (intOf i).toNat)
    case atStart => exact ⟨m - 1, by omega, by simp; omega, by rw [show m - 1 + 1 = m by omega, Nat.div_eq_of_lt HX.out, Nat.div_eq_of_lt HY.out], 0, rfl⟩
    case round =>
     obtain ⟨k, hk, rfl, hq, q, rfl⟩ := hrel
     have HQ := Lib.hid hq
     clear hq
     have c1 : w.cell? ⟨g, k, none⟩ = some (.int .u64 (wd X k : Nat)) := hv.cell k (Nat.zero_le _) hk
     have c2 : w.cell? ⟨g', k, none⟩ = some (.int .u64 (wd Y k : Nat)) := hv'.cell k (Nat.zero_le _) hk
     have hkm : (k : Int) < m := by omega
     by_cases hw : wd X k = wd Y k
     ·have HW := Lib.hid hw
      rw [← hw] at c2
      clear hw
      have e1 : ((wd X k : Int) == wd X k) = true := by simp
      by_cases hk0 : k = 0
      ·subst hk0
       have hc := cmpN_eq (show X = Y by have := word_eq X Y 0 HQ.out HW.out; rwa [Nat.pow_zero, Nat.div_one, Nat.div_one] at this)
       have HC := Lib.hid hc
       clear hc
       go_wp2_with fail
       go_quiet (fail)
       go_wp2_with fail
       go_quiet (fail)
       go_wp2_with fail
       go_quiet (fail)
       go_wp2_with fail
       go_ret
       exact ⟨by rw [HC.out]; rfl, by simp only [World.drewN_drewN]; exact ⟨_, rfl⟩⟩
      ·obtain ⟨j, rfl⟩ : ∃ j, k = j + 1 := ⟨k - 1, by omega⟩
       have hk1 : (0 : Int) < ((j + 1 : Nat) : Int) := by omega
       go_wp2_with fail
       go_quiet (fail)
       go_wp2_with fail
       go_roundw
       case rel => exact ⟨j, by omega, by go_num, word_eq X Y (j + 1) HQ.out HW.out, _, rfl⟩
       case measure => simp [intOf]
     ·have e1 : ((wd X k : Int) == wd Y k) = false := by rw [beq_eq_false_iff_ne]; omega
      have rest : ∀ kp : Bool, decide (0 < (k : Int)) = kp → True := fun _ _ => trivial
      by_cases hl : wd X k < wd Y k
      ·have HC := Lib.hid (cmpN_lt (word_lt X Y k HQ.out hl))
       have e2 : (wd X k : Int) < wd Y k := by omega
       by_cases hk0 : k = 0
       ·subst hk0
        go_wp2_with fail
        go_quiet (fail)
        go_wp2_with fail
        go_quiet (fail)
        go_wp2_with fail
        go_ret
        exact ⟨by rw [HC.out]; rfl, by simp only [World.drewN_drewN]; exact ⟨_, rfl⟩⟩
       ·have hk1 : 0 < k := by omega
        go_wp2_with fail
        go_quiet (fail)
        go_wp2_with fail
        go_quiet (fail)
        go_wp2_with fail
        go_ret
        exact ⟨by rw [HC.out]; rfl, by simp only [World.drewN_drewN]; exact ⟨_, rfl⟩⟩
      ·have HC := Lib.hid (cmpN_gt (word_lt Y X k HQ.out.symm (by omega)))
       have e2 : decide ((wd X k : Int) < wd Y k) = false := by simp; omega
       have e3 : (wd Y k : Int) < wd X k := by omega
       by_cases hk0 : k = 0
       ·subst hk0
        go_wp2_with fail
        go_quiet (fail)
        go_wp2_with fail
        go_quiet (fail)
        go_wp2_with fail
        go_quiet (fail)
        go_wp2_with fail
        go_ret
        exact ⟨by rw [HC.out]; rfl, by simp only [World.drewN_drewN]; exact ⟨_, rfl⟩⟩
       ·have hk1 : 0 < k := by omega
        go_wp2_with fail
        go_quiet (fail)
        go_wp2_with fail
        go_quiet (fail)
        go_wp2_with fail
        go_quiet (fail)
        go_wp2_with fail
        go_ret
        exact ⟨by rw [HC.out]; rfl, by simp only [World.drewN_drewN]; exact ⟨_, rfl⟩⟩
end Go.Proofs.YtpfbgenefjhcjaaGreatDoor
