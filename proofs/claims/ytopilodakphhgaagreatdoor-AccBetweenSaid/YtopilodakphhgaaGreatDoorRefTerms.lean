/- ambitref2.Plus, Times, Moved of numbers as reals. ambitref2.Times of two numbers that are not 0. ambitref2: Of, Times, Moved where there is no number, or 0. ambitref2: the product of two floats, moved, as a real. -/
import Derived.Test.YtopilodakphhgaaGreatDoorRefPlus
namespace Go.Proofs.YtopilodakphhgaaGreatDoor
set_option linter.unusedVariables false
set_option linter.unusedSimpArgs false
open Go Go.RowKit
set_option maxRecDepth 100000
def sgn (neg : Bool) (m : Nat) : Int := if neg = true then -(m : Int) else (m : Int)
theorem sgn_natAbs (neg : Bool) (m : Nat) : (sgn neg m).natAbs = m := by unfold sgn; split <;> omega
theorem NumIs.def' {w : World} {neg : Bool} {v : Value} {E z : Int} : NumIs w neg v E z ↔ ∃ M : Nat, MagIs w v M ∧ (M = 0 → E = 0) ∧ -2212 ≤ E ∧ E ≤ 5000 ∧ M < W32 ^ 400 ∧ z = sgn neg (M * 2 ^ (E + 2212).toNat) := Iff.rfl
theorem PlusOf_mul (n1 n2 : Bool) (A B p : Nat) (hp : 0 < p) : sgn (PlusOf n1 n2 A B).1 ((PlusOf n1 n2 A B).2 * p) = sgn n1 (A * p) + sgn n2 (B * p) := by
  unfold PlusOf
  by_cases h : n1 = n2
  · rw [if_pos h]
    subst h
    show sgn n1 ((A + B) * p) = _
    rw [Nat.add_mul]
    unfold sgn
    split <;> omega
  · rw [if_neg h]
    by_cases hle : B ≤ A
    · rw [if_pos hle]
      show sgn n1 ((A - B) * p) = _
      have h1 : (A - B) * p = A * p - B * p := Nat.sub_mul _ _ _
      have h2 : B * p ≤ A * p := Nat.mul_le_mul_right _ hle
      rw [h1]
      unfold sgn
      cases n1 <;> cases n2 <;> simp_all <;> omega
    · rw [if_neg hle]
      show sgn n2 ((B - A) * p) = _
      have h1 : (B - A) * p = B * p - A * p := Nat.sub_mul _ _ _
      have h2 : A * p ≤ B * p := Nat.mul_le_mul_right _ (by omega)
      rw [h1]
      unfold sgn
      cases n1 <;> cases n2 <;> simp_all <;> omega
theorem level_real {M N A B : Nat} {E1 E2 e : Int} (h : LevelOf M E1 N E2 A B e) (hM : M ≠ 0) (hN : N ≠ 0) (hE1 : -2212 ≤ E1) (hE2 : -2212 ≤ E2) :
    M * 2 ^ (E1 + 2212).toNat = A * 2 ^ (e + 2212).toNat ∧ N * 2 ^ (E2 + 2212).toNat = B * 2 ^ (e + 2212).toNat ∧ (e = E1 ∨ e = E2) := by
  rcases h with ⟨h, _⟩ | ⟨_, h, _⟩ | ⟨_, _, hlt, hA, hB, he⟩ | ⟨_, _, hle, hA, hB, he⟩
  · exact absurd h hM
  · exact absurd h hN
  · rw [hA, hB, he]
    refine ⟨?_, rfl, Or.inr rfl⟩
    rw [Nat.mul_assoc, ← Nat.pow_add, show (E1 - E2).toNat + (E2 + 2212).toNat = (E1 + 2212).toNat by omega]
  · rw [hA, hB, he]
    refine ⟨rfl, ?_, Or.inl rfl⟩
    rw [Nat.mul_assoc, ← Nat.pow_add, show (E2 - E1).toNat + (E1 + 2212).toNat = (E2 + 2212).toNat by omega]
theorem NumIs.below {w w1 : World} {neg : Bool} {v : Value} {E z : Int} (h : NumIs w neg v E z) (hb : Below w.heap.size w w1) : NumIs w1 neg v E z := by
  obtain ⟨M, h1, h2⟩ := h
  exact ⟨M, h1.below hb, h2⟩
theorem plus_num (w : World) (n1 n2 : Bool) (v1 v2 : Value) (E1 E2 z1 z2 : Int) (h1 : NumIs w n1 v1 E1 z1) (h2 : NumIs w n2 v2 E2 z2) (hb : (z1 + z2).natAbs < W32 ^ 400) :
    Calls Tryz.prog 10 #[.agg #[.bool n1, v1, .int .i64 E1], .agg #[.bool n2, v2, .int .i64 E2]] w fun e w' => ∃ (ng : Bool) (v : Value) (x : Int), e = .returned (.agg #[.bool ng, v, .int .i64 x]) ∧ NumIs w' ng v x (z1 + z2) ∧ Below w.heap.size w w' := by
  obtain ⟨M, hm1, hM0, hE1, hE1', hMl, hz1⟩ := NumIs.def'.1 h1
  obtain ⟨N, hm2, hN0, hE2, hE2', hNl, hz2⟩ := NumIs.def'.1 h2
  refine (plus_level w n1 n2 v1 v2 E1 E2 M N 400 hm1 hm2 (by decide) hMl hNl (by omega) (by omega)).mono ?_
  rintro e w' ⟨ng, v, x, R, he, hmR, hbel, hcase⟩
  refine ⟨ng, v, x, he, ?_, hbel⟩
  rw [NumIs.def']
  rcases hcase with ⟨hM, rfl, rfl, rfl⟩ | ⟨hM, hN, rfl, rfl, rfl⟩ | ⟨A, B, e0, hM, hN, hL, hR, hfin⟩
  · refine ⟨R, hmR, hN0, hE2, hE2', hNl, ?_⟩
    rw [hz2, hz1, hM, Nat.zero_mul]
    unfold sgn
    split <;> simp
  · refine ⟨R, hmR, hM0, hE1, hE1', hMl, ?_⟩
    rw [hz1, hz2, hN, Nat.zero_mul]
    unfold sgn
    split <;> split <;> simp
  · obtain ⟨r1, r2, re⟩ := level_real hL hM hN hE1 hE2
    have hp := Nat.two_pow_pos (e0 + 2212).toNat
    have hreal := PlusOf_mul n1 n2 A B (2 ^ (e0 + 2212).toNat) hp
    rw [← r1, ← r2, ← hz1, ← hz2, ← hR] at hreal
    rcases hfin with ⟨hR0, rfl, rfl⟩ | ⟨hR0, rfl, rfl⟩
    · refine ⟨R, hmR, fun _ => rfl, by omega, by omega, by rw [hR0]; exact Nat.lt_of_le_of_lt (Nat.zero_le _) hMl, ?_⟩
      rw [← hreal, hR0, Nat.zero_mul, Nat.zero_mul]
      unfold sgn
      split <;> simp
    · refine ⟨R, hmR, fun h => absurd h hR0, by omega, by omega, ?_, hreal.symm⟩
      rw [← hreal, sgn_natAbs] at hb
      generalize W32 ^ 400 = T at hb ⊢
      exact Nat.lt_of_le_of_lt (Nat.le_mul_of_pos_right _ hp) hb
set_option linter.unusedVariables false
set_option linter.unusedSimpArgs false
open Go Go.RowKit
set_option maxRecDepth 100000
set_option maxHeartbeats 4000000 in
/-- Times of two numbers that are not 0. -/
theorem Times_num (w : World) (n1 n2 : Bool) (v1 v2 : Value) (E1 E2 : Int) (M N L0 : Nat) (h1 : MagIs w v1 M) (h2 : MagIs w v2 N) (hL : L0 ≤ 1000) (hM : M < W32 ^ L0) (hN : N < W32 ^ L0) (hM0 : M ≠ 0) (hN0 : N ≠ 0) (hE1 : -10000 ≤ E1 ∧ E1 ≤ 10000) (hE2 : -10000 ≤ E2 ∧ E2 ≤ 10000) :
    Calls Tryz.prog 12 #[.agg #[.bool n1, v1, .int .i64 E1], .agg #[.bool n2, v2, .int .i64 E2]] w fun e w' => ∃ v, e = .returned (.agg #[.bool (n1 != n2), v, .int .i64 (E1 + E2)]) ∧ MagIs w' v (M * N) ∧ Below w.heap.size w w' := by
  obtain ⟨A1, c1, k1, rfl, hc1, h10⟩ := h1.form
  obtain ⟨A2, c2, k2, rfl, hc2, h20⟩ := h2.form
  have hc1' : ((c1 : Int) == 0) = false := by rw [beq_eq_false_iff_ne]; intro e; exact hM0 (h10.1 (by omega))
  have hc2' : ((c2 : Int) == 0) = false := by rw [beq_eq_false_iff_ne]; intro e; exact hN0 (h20.1 (by omega))
  have hw1 : IntKind.i64.wrap (E1 + E2) = E1 + E2 := by rw [IntKind.wrap_i64]; omega
  have hb1 := below_alloc w (.cells #[.bool n1, .slice A1 c1 k1, .int .i64 E1] 29)
  have hb2 := hb1.trans ((below_alloc (w.alloc (.cells #[.bool n1, .slice A1 c1 k1, .int .i64 E1] 29)) (.cells #[.bool n2, .slice A2 c2 k2, .int .i64 E2] 29)).mono (by simp))
  have hb3 := hb2.trans ((below_alloc ((w.alloc (.cells #[.bool n1, .slice A1 c1 k1, .int .i64 E1] 29)).alloc (.cells #[.bool n2, .slice A2 c2 k2, .int .i64 E2] 29)) (.cells #[.bool false, .slice none 0 0, .int .i64 0] 29)).mono (by simp; omega))
  have htm := times_any _ _ _ M N L0 (by omega) (h1.below hb3.drew) (h2.below hb3.drew) hM hN
  have hg1 := heap_alloc_new w (.cells #[.bool n1, .slice A1 c1 k1, .int .i64 E1] 29)
  have hg2 := heap_alloc_new (w.alloc (.cells #[.bool n1, .slice A1 c1 k1, .int .i64 E1] 29)) (.cells #[.bool n2, .slice A2 c2 k2, .int .i64 E2] 29)
  have hg3 := heap_alloc_new ((w.alloc (.cells #[.bool n1, .slice A1 c1 k1, .int .i64 E1] 29)).alloc (.cells #[.bool n2, .slice A2 c2 k2, .int .i64 E2] 29)) (.cells #[.bool false, .slice none 0 0, .int .i64 0] 29)
  have s1 : (w.alloc (.cells #[.bool n1, .slice A1 c1 k1, .int .i64 E1] 29)).heap.size = w.heap.size + 1 := by simp
  have s2 : ((w.alloc (.cells #[.bool n1, .slice A1 c1 k1, .int .i64 E1] 29)).alloc (.cells #[.bool n2, .slice A2 c2 k2, .int .i64 E2] 29)).heap.size = w.heap.size + 1 + 1 := by simp
  rw [s1] at hg2
  rw [s2] at hg3
  have hg1' := ((below_alloc ((w.alloc (.cells #[.bool n1, .slice A1 c1 k1, .int .i64 E1] 29)).alloc (.cells #[.bool n2, .slice A2 c2 k2, .int .i64 E2] 29)) (.cells #[.bool false, .slice none 0 0, .int .i64 0] 29)).block w.heap.size (by rw [s2]; omega)).trans (((below_alloc (w.alloc (.cells #[.bool n1, .slice A1 c1 k1, .int .i64 E1] 29)) (.cells #[.bool n2, .slice A2 c2 k2, .int .i64 E2] 29)).block w.heap.size (by rw [s1]; omega)).trans hg1)
  have hg2' := ((below_alloc ((w.alloc (.cells #[.bool n1, .slice A1 c1 k1, .int .i64 E1] 29)).alloc (.cells #[.bool n2, .slice A2 c2 k2, .int .i64 E2] 29)) (.cells #[.bool false, .slice none 0 0, .int .i64 0] 29)).block (w.heap.size + 1) (by rw [s2]; omega)).trans hg2
  have s3 : (((w.alloc (.cells #[.bool n1, .slice A1 c1 k1, .int .i64 E1] 29)).alloc (.cells #[.bool n2, .slice A2 c2 k2, .int .i64 E2] 29)).alloc (.cells #[.bool false, .slice none 0 0, .int .i64 0] 29)).heap.size = w.heap.size + 3 := by simp
  obtain ⟨x10, x11, x12⟩ := cells3 hg1'
  obtain ⟨x20, x21, x22⟩ := cells3 hg2'
  clear hg1 hg2 s1 s2 hb1 hb2 h1 h2 h10 h20 hM hN hM0 hN0
  go_enter Tryz.func12, Tryz.ntmps12
  go_wp2_with fail
  generalize ((w.alloc (.cells #[.bool n1, .slice A1 c1 k1, .int .i64 E1] 29)).alloc (.cells #[.bool n2, .slice A2 c2 k2, .int .i64 E2] 29)).alloc (.cells #[.bool false, .slice none 0 0, .int .i64 0] 29) = W3 at *
  have t0 : w.heap.size < W3.drew.heap.size := by show w.heap.size < W3.heap.size; omega
  have t1 : w.heap.size + 1 < W3.drew.heap.size := by show w.heap.size + 1 < W3.heap.size; omega
  have t2 : w.heap.size + 1 + 1 < W3.drew.heap.size := by show w.heap.size + 1 + 1 < W3.heap.size; omega
  have x10d : W3.drew.cell? ⟨w.heap.size, 0, none⟩ = some (.bool n1) := x10
  have x12d : W3.drew.cell? ⟨w.heap.size, 2, none⟩ = some (.int .i64 E1) := x12
  have x20d : W3.drew.cell? ⟨w.heap.size + 1, 0, none⟩ = some (.bool n2) := x20
  have x22d : W3.drew.cell? ⟨w.heap.size + 1, 2, none⟩ = some (.int .i64 E2) := x22
  have hb3d : Below w.heap.size w W3.drew := hb3.drew
  have hg3d : W3.drew.heap[w.heap.size + 1 + 1]? = some (.cells #[.bool false, .slice none 0 0, .int .i64 0] 29 (0, 0)) := hg3
  have x11d : W3.drew.cell? ⟨w.heap.size, 1, none⟩ = some (.slice A1 c1 k1) := x11
  have x21d : W3.drew.cell? ⟨w.heap.size + 1, 1, none⟩ = some (.slice A2 c2 k2) := x21
  clear x10 x11 x12 x20 x21 x22 hb3 hg1' hg2' hg3
  have hne0 : some w.heap.size ≠ some (w.heap.size + 1 + 1) := by simp; omega
  have hne1 : some (w.heap.size + 1) ≠ some (w.heap.size + 1 + 1) := by simp
  go_region_held3 (fun w' => w'.cell? ⟨w.heap.size, 0, none⟩ = some (.bool n1) ∧ w'.cell? ⟨w.heap.size, 1, none⟩ = some (.slice A1 c1 k1) ∧ w'.cell? ⟨w.heap.size, 2, none⟩ = some (.int .i64 E1) ∧ w'.cell? ⟨w.heap.size + 1, 0, none⟩ = some (.bool n2) ∧ w'.cell? ⟨w.heap.size + 1, 1, none⟩ = some (.slice A2 c2 k2) ∧ w'.cell? ⟨w.heap.size + 1, 2, none⟩ = some (.int .i64 E2))
    (first | exact ⟨x10d, x11d, x12d, x20d, x21d, x22d⟩ | exact ⟨(hb6.cell (p := ⟨w.heap.size, 0, none⟩) t0).trans x10d, (hb6.cell (p := ⟨w.heap.size, 1, none⟩) t0).trans x11d, (hb6.cell (p := ⟨w.heap.size, 2, none⟩) t0).trans x12d, (hb6.cell (p := ⟨w.heap.size + 1, 0, none⟩) t1).trans x20d, (hb6.cell (p := ⟨w.heap.size + 1, 1, none⟩) t1).trans x21d, (hb6.cell (p := ⟨w.heap.size + 1, 2, none⟩) t1).trans x22d⟩ | exact ⟨(set3 q3 _ _ _).2.cell ((hb6.cell (p := ⟨w.heap.size, 0, none⟩) t0).trans x10d) hne0, (set3 q3 _ _ _).2.cell ((hb6.cell (p := ⟨w.heap.size, 1, none⟩) t0).trans x11d) hne0, (set3 q3 _ _ _).2.cell ((hb6.cell (p := ⟨w.heap.size, 2, none⟩) t0).trans x12d) hne0, (set3 q3 _ _ _).2.cell ((hb6.cell (p := ⟨w.heap.size + 1, 0, none⟩) t1).trans x20d) hne1, (set3 q3 _ _ _).2.cell ((hb6.cell (p := ⟨w.heap.size + 1, 1, none⟩) t1).trans x21d) hne1, (set3 q3 _ _ _).2.cell ((hb6.cell (p := ⟨w.heap.size + 1, 2, none⟩) t1).trans x22d) hne1⟩)
    (first | (go_at_call 36; refine htm.mono ?_; rintro e w6 ⟨v', rfl, hm6, hb6⟩; obtain ⟨Av, cv6, kv, rfl, hcv, hcv0⟩ := hm6.form; have q3 := (hb6.block _ t2).trans hg3d; obtain ⟨y30, y31, y32⟩ := cells3 q3; have hfr3 : (∀ j, w6.frozen? ⟨w.heap.size + 1 + 1, j, none⟩ = false) := (fun j => frozen_of_row w6 _ j _ _ q3); have hbel6 := hb3d.trans (hb6.mono hb3d.size)))
  go_wp2_with fail
  have q3 := (hb6.block _ t2).trans hg3d
  obtain ⟨hg9, hgr9⟩ := set3 q3 (.bool (!(n1 == n2))) (.slice Av cv6 kv) (.int .i64 (E1 + E2))
  have hm9 := hm6.other q3 hgr9
  have hb9 := hbel6.trans (below_of_grown' hgr9 hbel6.size (by omega))
  generalize ((w6.setCell ⟨w.heap.size + 1 + 1, 0, none⟩ (.bool (!(n1 == n2)))).setCell ⟨w.heap.size + 1 + 1, 1, none⟩ (.slice Av cv6 kv)).setCell ⟨w.heap.size + 1 + 1, 2, none⟩ (.int .i64 (E1 + E2)) = W9 at *
  obtain ⟨j0, j1, j2⟩ := cells3 hg9
  refine bodyPost_ret (v := .agg #[.bool (!(n1 == n2)), .slice Av cv6 kv, .int .i64 (E1 + E2)]) (by simp [results, Tryz.results12, go_sem, j0, j1, j2]) rfl ?_
  exact ⟨_, rfl, hm9, hb9⟩
set_option linter.unusedVariables false
set_option linter.unusedSimpArgs false
open Go Go.RowKit
set_option maxRecDepth 100000
theorem Of_none (w : World) (u : Nat) (hu : u < B64) (he : fexp u = 2047) :
    Calls Tryz.prog 9 #[.int .u64 (u : Nat)] w fun e w' => e = .returned (.tuple #[.agg #[.bool false, .slice none 0 0, .int .i64 0], .bool false]) ∧ Below w.heap.size w w' := by
  have h1 := and_exp u hu
  have h2 := and_man u hu
  have hul : (u : Int) ≤ 18446744073709551615 := by unfold B64 at hu; omega
  have hml := fman_lt u
  rw [he] at h1
  clear he
  generalize fman u = mn at *
  go_enter Tryz.func9, Tryz.ntmps9
  go_wp2_with fail
  go_returns
  exact ⟨rfl, below_alloc w _⟩
theorem Of_zero (w : World) (u : Nat) (hu : u < B64) (he : fexp u ≠ 2047) (hs : sig u = 0) :
    Calls Tryz.prog 9 #[.int .u64 (u : Nat)] w fun e w' => e = .returned (.tuple #[.agg #[.bool false, .slice none 0 0, .int .i64 0], .bool true]) ∧ Below w.heap.size w w' := by
  have h1 := and_exp u hu
  have h2 := and_man u hu
  have hul : (u : Int) ≤ 18446744073709551615 := by unfold B64 at hu; omega
  have h0 : fexp u = 0 ∧ fman u = 0 := by
    unfold sig at hs
    split at hs
    · exact ⟨by assumption, hs⟩
    · omega
  rw [h0.1] at h1
  rw [h0.2] at h2
  clear he hs h0
  go_enter Tryz.func9, Tryz.ntmps9
  go_wp2_with fail
  go_returns
  exact ⟨rfl, below_alloc w _⟩
theorem Moved_zero (w : World) (neg : Bool) (A : Option Addr) (cap : Nat) (E k : Int) :
    Calls Tryz.prog 11 #[.agg #[.bool neg, .slice A 0 cap, .int .i64 E], .int .i64 k] w fun e w' => e = .returned (.agg #[.bool neg, .slice A 0 cap, .int .i64 E]) ∧ Below w.heap.size w w' := by
  go_enter Tryz.func11, Tryz.ntmps11
  go_wp2_with fail
  go_returns
  exact ⟨rfl, (below_alloc w _).trans ((below_alloc _ _).mono (by simp))⟩
theorem Times_zero (w : World) (n1 n2 : Bool) (A1 A2 : Option Addr) (c1 k1 c2 k2 : Nat) (E1 E2 : Int) (h : c1 = 0 ∨ c2 = 0) (hc1 : c1 ≤ 1000000) :
    Calls Tryz.prog 12 #[.agg #[.bool n1, .slice A1 c1 k1, .int .i64 E1], .agg #[.bool n2, .slice A2 c2 k2, .int .i64 E2]] w fun e w' => e = .returned (.agg #[.bool false, .slice none 0 0, .int .i64 0]) ∧ Below w.heap.size w w' := by
  by_cases h0 : c1 = 0
  · subst h0
    clear h
    go_enter Tryz.func12, Tryz.ntmps12
    go_wp2_with fail
    go_returns
    exact ⟨rfl, ((below_alloc w _).trans ((below_alloc _ _).mono (by simp))).trans ((below_alloc _ _).mono (by simp; omega))⟩
  · obtain rfl : c2 = 0 := by omega
    have hc : ((c1 : Int) == 0) = false := by rw [beq_eq_false_iff_ne]; omega
    clear h
    go_enter Tryz.func12, Tryz.ntmps12
    go_wp2_with fail
    go_returns
    exact ⟨rfl, ((below_alloc w _).trans ((below_alloc _ _).mono (by simp))).trans ((below_alloc _ _).mono (by simp; omega))⟩
set_option linter.unusedVariables false
set_option linter.unusedSimpArgs false
open Go Go.RowKit
set_option maxRecDepth 100000
/-- What Of tells of a number. -/
def OfIs (w : World) (neg : Bool) (v : Value) (E : Int) (u : Nat) : Prop :=
  (sig u = 0 ∧ neg = false ∧ v = .slice none 0 0 ∧ E = 0) ∨ (sig u ≠ 0 ∧ neg = fneg u ∧ E = pwr u ∧ MagIs w v (sig u))
theorem OfIs.below {w w1 : World} {neg : Bool} {v : Value} {E : Int} {u : Nat} (h : OfIs w neg v E u) (hb : Below w.heap.size w w1) : OfIs w1 neg v E u := by
  rcases h with h | ⟨h1, h2, h3, h4⟩
  · exact Or.inl h
  · exact Or.inr ⟨h1, h2, h3, h4.below hb⟩
theorem OfIs.form {w : World} {neg : Bool} {v : Value} {E : Int} {u : Nat} (h : OfIs w neg v E u) : ∃ A n cap, v = .slice A n cap ∧ n ≤ 1000000 := by
  rcases h with ⟨_, _, rfl, _⟩ | ⟨_, _, _, h⟩
  · exact ⟨none, 0, 0, rfl, by omega⟩
  · obtain ⟨A, n, cap, hv, hn, _⟩ := h.form
    exact ⟨A, n, cap, hv, hn⟩
theorem Of_any (w : World) (u : Nat) (hu : u < B64) :
    Calls Tryz.prog 9 #[.int .u64 (u : Nat)] w fun e w' => ∃ (neg : Bool) (v : Value) (E : Int), e = .returned (.tuple #[.agg #[.bool neg, v, .int .i64 E], .bool (fexp u != 2047)]) ∧ (fexp u ≠ 2047 → OfIs w' neg v E u) ∧ Below w.heap.size w w' ∧ (∃ A n cap, v = .slice A n cap ∧ n ≤ 1000000) := by
  by_cases he : fexp u = 2047
  · refine (Of_none w u hu he).mono fun e w' ⟨h1, h2⟩ => ⟨false, .slice none 0 0, 0, ?_, fun h => absurd he h, h2, none, 0, 0, rfl, by omega⟩
    rw [he]
    exact h1
  · have hb : (fexp u != 2047) = true := by rw [bne_iff_ne]; exact he
    rw [hb]
    by_cases hs : sig u = 0
    · exact (Of_zero w u hu he hs).mono fun e w' ⟨h1, h2⟩ => ⟨false, .slice none 0 0, 0, h1, fun _ => Or.inl ⟨hs, rfl, rfl, rfl⟩, h2, none, 0, 0, rfl, by omega⟩
    · refine (Of_num w u hu he hs).mono fun e w' ⟨v, h1, h2, h3⟩ => ⟨fneg u, v, pwr u, h1, fun _ => Or.inr ⟨hs, rfl, rfl, h2⟩, h3, ?_⟩
      obtain ⟨A, n, cap, hv, hn, _⟩ := h2.form
      exact ⟨A, n, cap, hv, hn⟩
/-- What Times tells of two numbers. -/
def TimesIs (w : World) (neg : Bool) (v : Value) (E : Int) (a b : Nat) : Prop :=
  (sig a * sig b = 0 ∧ neg = false ∧ v = .slice none 0 0 ∧ E = 0) ∨ (sig a * sig b ≠ 0 ∧ neg = (fneg a != fneg b) ∧ E = pwr a + pwr b ∧ MagIs w v (sig a * sig b))
theorem Times_any (w : World) (n1 n2 : Bool) (v1 v2 : Value) (E1 E2 : Int) (a b : Nat) (h1 : OfIs w n1 v1 E1 a) (h2 : OfIs w n2 v2 E2 b) (ea : fexp a ≠ 2047) (eb : fexp b ≠ 2047) :
    Calls Tryz.prog 12 #[.agg #[.bool n1, v1, .int .i64 E1], .agg #[.bool n2, v2, .int .i64 E2]] w fun e w' => ∃ (neg : Bool) (v : Value) (E : Int), e = .returned (.agg #[.bool neg, v, .int .i64 E]) ∧ TimesIs w' neg v E a b ∧ Below w.heap.size w w' := by
  by_cases hz : sig a * sig b = 0
  · obtain ⟨A1, c1, k1, rfl, hc1⟩ := h1.form
    obtain ⟨A2, c2, k2, rfl, hc2⟩ := h2.form
    have h0 : c1 = 0 ∨ c2 = 0 := by
      rcases Nat.mul_eq_zero.1 hz with h | h
      · left
        rcases h1 with ⟨_, _, hv, _⟩ | ⟨hn, _⟩
        · injection hv
        · exact absurd h hn
      · right
        rcases h2 with ⟨_, _, hv, _⟩ | ⟨hn, _⟩
        · injection hv
        · exact absurd h hn
    exact (Times_zero w n1 n2 A1 A2 c1 k1 c2 k2 E1 E2 h0 hc1).mono fun e w' ⟨h3, h4⟩ => ⟨_, _, _, h3, Or.inl ⟨hz, rfl, rfl, rfl⟩, h4⟩
  · have ha : sig a ≠ 0 := fun e => hz (by rw [e, Nat.zero_mul])
    have hb : sig b ≠ 0 := fun e => hz (by rw [e, Nat.mul_zero])
    rcases h1 with ⟨h, _⟩ | ⟨_, rfl, rfl, hm1⟩
    · exact absurd h ha
    · rcases h2 with ⟨h, _⟩ | ⟨_, rfl, rfl, hm2⟩
      · exact absurd h hb
      · have hW : 9007199254740992 < W32 ^ 2 := by decide
        have p1 := pwr_ge a
        have p2 := pwr_le a ea
        have p3 := pwr_ge b
        have p4 := pwr_le b eb
        exact (Times_num w _ _ v1 v2 _ _ (sig a) (sig b) 2 hm1 hm2 (by decide) (Nat.lt_trans (sig_lt a) hW) (Nat.lt_trans (sig_lt b) hW) ha hb (by omega) (by omega)).mono fun e w' ⟨v, h3, h4, h5⟩ => ⟨_, v, _, h3, Or.inr ⟨hz, rfl, rfl, h4⟩, h5⟩
theorem moved_num (w : World) (neg : Bool) (v : Value) (E : Int) (a b : Nat) (n : Int) (h : TimesIs w neg v E a b) (ea : fexp a ≠ 2047) (eb : fexp b ≠ 2047) (hn1 : -64 ≤ n) (hn2 : n ≤ 64) :
    Calls Tryz.prog 11 #[.agg #[.bool neg, v, .int .i64 E], .int .i64 n] w fun e w' => ∃ E', e = .returned (.agg #[.bool neg, v, .int .i64 E']) ∧ NumIs w' neg v E' (prodZ a b n) ∧ Below w.heap.size w w' := by
  have p1 := pwr_ge a
  have p2 := pwr_le a ea
  have p3 := pwr_ge b
  have p4 := pwr_le b eb
  rcases h with ⟨hz, rfl, rfl, rfl⟩ | ⟨hz, rfl, rfl, hm⟩
  · refine (Moved_zero w false none 0 0 n).mono fun e w' ⟨h1, h2⟩ => ⟨0, h1, ?_, h2⟩
    rw [NumIs.def']
    have hq : prodQ a b n = 0 := by unfold prodQ; rw [hz, Nat.zero_mul]
    refine ⟨0, Or.inl ⟨rfl, rfl⟩, fun _ => rfl, by decide, by decide, ?_, ?_⟩
    · generalize (400 : Nat) = k
      exact W32_pow k
    · unfold prodZ
      rw [hq, Nat.zero_mul]
      unfold sgn
      split <;> simp
  · refine (Moved_any w _ v (sig a * sig b) (pwr a + pwr b) n hm (by omega) (by omega) hz).mono fun e w' ⟨h1, h2⟩ => ⟨pwr a + pwr b + n, h1, ?_, h2⟩
    rw [NumIs.def']
    have hM : sig a * sig b < W32 ^ 4 := by
      have h3 : sig a * sig b < 9007199254740992 * 9007199254740992 := Nat.mul_lt_mul'' (sig_lt a) (sig_lt b)
      exact Nat.lt_trans h3 (by decide)
    refine ⟨sig a * sig b, hm.below h2, fun h => absurd h hz, by omega, by omega, ?_, ?_⟩
    · have hk : ∀ k : Nat, 4 ≤ k → sig a * sig b < W32 ^ k := fun k hk => Nat.lt_of_lt_of_le hM (Nat.pow_le_pow_right W32_pos hk)
      exact hk 400 (by decide)
    · rfl
end Go.Proofs.YtopilodakphhgaaGreatDoor
