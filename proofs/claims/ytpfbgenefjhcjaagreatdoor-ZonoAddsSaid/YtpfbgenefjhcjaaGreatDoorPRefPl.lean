/-
 ambitref2.times: the product of two rows of limbs.
 ambitref2.level: two numbers at one power of 2.
 ambitref2.Plus: the sum of two numbers.
 ambitref2.Plus, Times, Moved of numbers as reals. ambitref2.Times of two numbers that are not 0. ambitref2: Of, Times, Moved where there is no number, or 0. ambitref2: the product of two floats, moved, as a real.
-/
import Derived.Test.YtpfbgenefjhcjaaGreatDoorPRefLo
import Derived.Test.YtpfbgenefjhcjaaGreatDoorPRefTo
import Derived.OwnWalk
namespace Go.Proofs.YtpfbgenefjhcjaaGreatDoor
set_option linter.unusedVariables false
set_option linter.unusedSimpArgs false
open Go Go.RowKit
set_option maxRecDepth 100000
end Go.Proofs.YtpfbgenefjhcjaaGreatDoor
namespace Go.Proofs.YtpfbgenefjhcjaaGreatDoor
set_option linter.unusedVariables false
set_option linter.unusedSimpArgs false
open Go Go.RowKit
set_option maxRecDepth 100000
def LevelOf (M : Nat) (E1 : Int) (N : Nat) (E2 : Int) (A B : Nat) (e : Int) : Prop :=
 (M = 0 ∧ A = 0 ∧ B = N ∧ e = E2) ∨ (M ≠ 0 ∧ N = 0 ∧ A = M ∧ B = 0 ∧ e = E1) ∨ (M ≠ 0 ∧ N ≠ 0 ∧ E2 < E1 ∧ A = M * 2 ^ (E1 - E2).toNat ∧ B = N ∧ e = E2) ∨ (M ≠ 0 ∧ N ≠ 0 ∧ E1 ≤ E2 ∧ A = M ∧ B = N * 2 ^ (E2 - E1).toNat ∧ e = E1)
theorem limbs_small {w : World} {v : Value} {M L0 : Nat} (h : MagIs w v M) (hM : M < W32 ^ L0) (hL : L0 ≤ 100000) : ∀ A n cap, v = .slice A n cap → n ≤ 100000 := fun A n cap hv => by
 rcases h with ⟨h1, _⟩ | ⟨g, n1, cap1, h1, h2, h3, h4, h5⟩
 ·rw [h1] at hv; injection hv with _ e _; omega
 ·rw [h1] at hv
  injection hv with _ e _
  have := NL32_le h4 hM
  omega
theorem left_sh (w : World) (v : Value) (M s L0 : Nat) (h : MagIs w v M) (hM : M < W32 ^ L0) (hL : L0 ≤ 100000) (hs : s ≤ 3000000) :
  Calls Tryz.prog 125 #[v, .int .i64 (s : Nat)] w fun e w' => ∃ v', e = .returned v' ∧ MagIs w' v' (M * 2 ^ s) ∧ Below w.heap.size w w' := by
 have := left_any w v M (s / 32) (s % 32) h (by omega) (by omega) (limbs_small h hM hL)
 rwa [show 32 * (s / 32) + s % 32 = s by omega] at this
set_option maxHeartbeats 2000000 in
theorem level_any (w : World) (n1 n2 : Bool) (v1 v2 : Value) (E1 E2 : Int) (M N L0 : Nat) (h1 : MagIs w v1 M) (h2 : MagIs w v2 N) (hL : L0 ≤ 1000) (hM : M < W32 ^ L0) (hN : N < W32 ^ L0) (hE1 : -10000 ≤ E1 ∧ E1 ≤ 10000) (hE2 : -10000 ≤ E2 ∧ E2 ≤ 10000) :
  Calls Tryz.prog 105 #[.agg #[.bool n1, v1, .int .i64 E1], .agg #[.bool n2, v2, .int .i64 E2]] w fun e w' => ∃ (va vb : Value) (x : Int) (A B : Nat), e = .returned (.tuple #[va, vb, .int .i64 x]) ∧ MagIs w' va A ∧ MagIs w' vb B ∧ Below w.heap.size w w' ∧ LevelOf M E1 N E2 A B x := by
 obtain ⟨A1, c1, k1, rfl, hc1, h10⟩ := h1.form
 obtain ⟨A2, c2, k2, rfl, hc2, h20⟩ := h2.form
 have hb1 := below_alloc w (.cells #[.bool n1, .slice A1 c1 k1, .int .i64 E1] 70)
 have hb2 := hb1.trans ((below_alloc (w.alloc (.cells #[.bool n1, .slice A1 c1 k1, .int .i64 E1] 70)) (.cells #[.bool n2, .slice A2 c2 k2, .int .i64 E2] 70)).mono (by simp))
 have hd := fun q => below_drewN' hb2 q
 by_cases hz1 : c1 = 0
 ·have hM0 := h10.1 hz1
  subst hz1
  have hm2 := fun q => h2.below (hd q)
  clear h1 h2 h10 h20 hb1
  go_enter Tryz.func105, Tryz.ntmps105
  go_wp2_with fail
  go_quiet (fail)
  go_wp2_with fail
  go_ret3
  exact ⟨_, _, _, 0, N, rfl, Or.inl ⟨rfl, rfl⟩, hm2 _, hd _, Or.inl ⟨hM0, rfl, rfl, rfl⟩⟩
 ·have hM0 : M ≠ 0 := fun e => hz1 (h10.2 e)
  have hc1' : ((c1 : Int) == 0) = false := by rw [beq_eq_false_iff_ne]; omega
  by_cases hz2 : c2 = 0
  ·have hN0 := h20.1 hz2
   subst hz2
   have hm1 := fun q => h1.below (hd q)
   clear h1 h2 h10 h20 hb1
   go_enter Tryz.func105, Tryz.ntmps105
   go_wp2_with fail
   go_quiet (fail)
   go_wp2_with fail
   go_ret3
   exact ⟨_, _, _, M, 0, rfl, hm1 _, Or.inl ⟨rfl, rfl⟩, hd _, Or.inr (Or.inl ⟨hM0, hN0, rfl, rfl, rfl⟩)⟩
  ·have hN0 : N ≠ 0 := fun e => hz2 (h20.2 e)
   have hc2' : ((c2 : Int) == 0) = false := by rw [beq_eq_false_iff_ne]; omega
   by_cases hlt : E2 < E1
   ·obtain ⟨s, hs⟩ : ∃ s, s = (E1 - E2).toNat := ⟨_, rfl⟩
    have hsub : E1 - E2 = (s : Int) := by omega
    have hwsub : IntKind.i64.wrap (E1 - E2) = (s : Int) := by rw [IntKind.wrap_i64]; omega
    have hwsub2 : IntKind.i64.wrap (s : Int) = (s : Int) := by rw [IntKind.wrap_i64]; omega
    have hl := left_sh _ (.slice A1 c1 k1) M s L0 (h1.below hb2.drew) hM (by omega) (by omega)
    have hm2 := h2.below hb2.drew
    have hg1 := heap_alloc_new w (.cells #[.bool n1, .slice A1 c1 k1, .int .i64 E1] 70)
    have hg2 := heap_alloc_new (w.alloc (.cells #[.bool n1, .slice A1 c1 k1, .int .i64 E1] 70)) (.cells #[.bool n2, .slice A2 c2 k2, .int .i64 E2] 70)
    have hsz : (w.alloc (.cells #[.bool n1, .slice A1 c1 k1, .int .i64 E1] 70)).heap.size = w.heap.size + 1 := by simp
    rw [hsz] at hg2
    have hdr := hb2.drew
    have hsw : ((w.alloc (.cells #[.bool n1, .slice A1 c1 k1, .int .i64 E1] 70)).alloc (.cells #[.bool n2, .slice A2 c2 k2, .int .i64 E2] 70)).drew.heap.size = w.heap.size + 2 := by simp
    have HS := Lib.hid hs
    have hg1' := (below_alloc (w.alloc (.cells #[.bool n1, .slice A1 c1 k1, .int .i64 E1] 70)) (.cells #[.bool n2, .slice A2 c2 k2, .int .i64 E2] 70)).block w.heap.size (by rw [hsz]; omega)
    rw [hg1] at hg1'
    have x1 : ((w.alloc (.cells #[.bool n1, .slice A1 c1 k1, .int .i64 E1] 70)).alloc (.cells #[.bool n2, .slice A2 c2 k2, .int .i64 E2] 70)).cell? ⟨w.heap.size, 1, none⟩ = some (.slice A1 c1 k1) := by rw [cell_of_row _ _ _ _ _ _ hg1']; rfl
    have x2 : ((w.alloc (.cells #[.bool n1, .slice A1 c1 k1, .int .i64 E1] 70)).alloc (.cells #[.bool n2, .slice A2 c2 k2, .int .i64 E2] 70)).cell? ⟨w.heap.size, 2, none⟩ = some (.int .i64 E1) := by rw [cell_of_row _ _ _ _ _ _ hg1']; rfl
    have x3 : ((w.alloc (.cells #[.bool n1, .slice A1 c1 k1, .int .i64 E1] 70)).alloc (.cells #[.bool n2, .slice A2 c2 k2, .int .i64 E2] 70)).cell? ⟨w.heap.size + 1, 1, none⟩ = some (.slice A2 c2 k2) := by rw [cell_of_row _ _ _ _ _ _ hg2]; rfl
    have x4 : ((w.alloc (.cells #[.bool n1, .slice A1 c1 k1, .int .i64 E1] 70)).alloc (.cells #[.bool n2, .slice A2 c2 k2, .int .i64 E2] 70)).cell? ⟨w.heap.size + 1, 2, none⟩ = some (.int .i64 E2) := by rw [cell_of_row _ _ _ _ _ _ hg2]; rfl
    clear hs hg1 hg1' hg2 hsz h1 h2 h10 h20 hb1 hd hM hN
    go_enter Tryz.func105, Tryz.ntmps105
    go_wp2_with fail
    clear hb2
    generalize (w.alloc (.cells #[.bool n1, .slice A1 c1 k1, .int .i64 E1] 70)).alloc (.cells #[.bool n2, .slice A2 c2 k2, .int .i64 E2] 70) = W2 at *
    generalize hG : w.heap.size = g0 at *
    have HG := Lib.hid hG
    clear hG
    have hg0a : g0 < g0 + 2 := by omega
    have hg0b : g0 + 1 < g0 + 2 := by omega
    go_region_held3 (fun w' => w'.cell? ⟨g0, 1, none⟩ = some (.slice A1 c1 k1) ∧ w'.cell? ⟨g0, 2, none⟩ = some (.int .i64 E1) ∧ w'.cell? ⟨g0 + 1, 1, none⟩ = some (.slice A2 c2 k2) ∧ w'.cell? ⟨g0 + 1, 2, none⟩ = some (.int .i64 E2))
     (first | exact ⟨x1, x2, x3, x4⟩ | exact ⟨(hb3.cell (p := ⟨g0, 1, none⟩) (by rw [hsw]; exact hg0a)).trans x1, (hb3.cell (p := ⟨g0, 2, none⟩) (by rw [hsw]; exact hg0a)).trans x2, (hb3.cell (p := ⟨g0 + 1, 1, none⟩) (by rw [hsw]; exact hg0b)).trans x3, (hb3.cell (p := ⟨g0 + 1, 2, none⟩) (by rw [hsw]; exact hg0b)).trans x4⟩)
     (first | (go_at_call 125; refine hl.mono ?_; rintro e w3 ⟨va, rfl, hma, hb3⟩))
    all_goals go_wp2_with fail
    all_goals go_ret3
    all_goals exact ⟨_, _, _, M * 2 ^ s, N, rfl, hma, hm2.below hb3, (by rw [HG.out]; exact hdr.trans (hb3.mono (by rw [hsw]; omega))), Or.inr (Or.inr (Or.inl ⟨hM0, hN0, hlt, by rw [HS.out], rfl, rfl⟩))⟩
   ·obtain ⟨s, hs⟩ : ∃ s, s = (E2 - E1).toNat := ⟨_, rfl⟩
    have hsub : E2 - E1 = (s : Int) := by omega
    have hwsub : IntKind.i64.wrap (E2 - E1) = (s : Int) := by rw [IntKind.wrap_i64]; omega
    have hwsub2 : IntKind.i64.wrap (s : Int) = (s : Int) := by rw [IntKind.wrap_i64]; omega
    have hge : decide (E2 < E1) = false := by simp; omega
    have hl := left_sh _ (.slice A2 c2 k2) N s L0 (h2.below hb2.drew) hN (by omega) (by omega)
    have hm1 := h1.below hb2.drew
    have hg1 := heap_alloc_new w (.cells #[.bool n1, .slice A1 c1 k1, .int .i64 E1] 70)
    have hg2 := heap_alloc_new (w.alloc (.cells #[.bool n1, .slice A1 c1 k1, .int .i64 E1] 70)) (.cells #[.bool n2, .slice A2 c2 k2, .int .i64 E2] 70)
    have hsz : (w.alloc (.cells #[.bool n1, .slice A1 c1 k1, .int .i64 E1] 70)).heap.size = w.heap.size + 1 := by simp
    rw [hsz] at hg2
    have hdr := hb2.drew
    have hsw : ((w.alloc (.cells #[.bool n1, .slice A1 c1 k1, .int .i64 E1] 70)).alloc (.cells #[.bool n2, .slice A2 c2 k2, .int .i64 E2] 70)).drew.heap.size = w.heap.size + 2 := by simp
    have HS := Lib.hid hs
    have hg1' := (below_alloc (w.alloc (.cells #[.bool n1, .slice A1 c1 k1, .int .i64 E1] 70)) (.cells #[.bool n2, .slice A2 c2 k2, .int .i64 E2] 70)).block w.heap.size (by rw [hsz]; omega)
    rw [hg1] at hg1'
    have x1 : ((w.alloc (.cells #[.bool n1, .slice A1 c1 k1, .int .i64 E1] 70)).alloc (.cells #[.bool n2, .slice A2 c2 k2, .int .i64 E2] 70)).cell? ⟨w.heap.size, 1, none⟩ = some (.slice A1 c1 k1) := by rw [cell_of_row _ _ _ _ _ _ hg1']; rfl
    have x2 : ((w.alloc (.cells #[.bool n1, .slice A1 c1 k1, .int .i64 E1] 70)).alloc (.cells #[.bool n2, .slice A2 c2 k2, .int .i64 E2] 70)).cell? ⟨w.heap.size, 2, none⟩ = some (.int .i64 E1) := by rw [cell_of_row _ _ _ _ _ _ hg1']; rfl
    have x3 : ((w.alloc (.cells #[.bool n1, .slice A1 c1 k1, .int .i64 E1] 70)).alloc (.cells #[.bool n2, .slice A2 c2 k2, .int .i64 E2] 70)).cell? ⟨w.heap.size + 1, 1, none⟩ = some (.slice A2 c2 k2) := by rw [cell_of_row _ _ _ _ _ _ hg2]; rfl
    have x4 : ((w.alloc (.cells #[.bool n1, .slice A1 c1 k1, .int .i64 E1] 70)).alloc (.cells #[.bool n2, .slice A2 c2 k2, .int .i64 E2] 70)).cell? ⟨w.heap.size + 1, 2, none⟩ = some (.int .i64 E2) := by rw [cell_of_row _ _ _ _ _ _ hg2]; rfl
    clear hs hg1 hg1' hg2 hsz h1 h2 h10 h20 hb1 hd hM hN
    go_enter Tryz.func105, Tryz.ntmps105
    go_wp2_with fail
    clear hb2
    generalize (w.alloc (.cells #[.bool n1, .slice A1 c1 k1, .int .i64 E1] 70)).alloc (.cells #[.bool n2, .slice A2 c2 k2, .int .i64 E2] 70) = W2 at *
    generalize hG : w.heap.size = g0 at *
    have HG := Lib.hid hG
    clear hG
    have hg0a : g0 < g0 + 2 := by omega
    have hg0b : g0 + 1 < g0 + 2 := by omega
    go_region_held3 (fun w' => w'.cell? ⟨g0, 1, none⟩ = some (.slice A1 c1 k1) ∧ w'.cell? ⟨g0, 2, none⟩ = some (.int .i64 E1) ∧ w'.cell? ⟨g0 + 1, 1, none⟩ = some (.slice A2 c2 k2) ∧ w'.cell? ⟨g0 + 1, 2, none⟩ = some (.int .i64 E2))
     (first | exact ⟨x1, x2, x3, x4⟩ | exact ⟨(hb3.cell (p := ⟨g0, 1, none⟩) (by rw [hsw]; exact hg0a)).trans x1, (hb3.cell (p := ⟨g0, 2, none⟩) (by rw [hsw]; exact hg0a)).trans x2, (hb3.cell (p := ⟨g0 + 1, 1, none⟩) (by rw [hsw]; exact hg0b)).trans x3, (hb3.cell (p := ⟨g0 + 1, 2, none⟩) (by rw [hsw]; exact hg0b)).trans x4⟩)
     (first | (go_at_call 125; refine hl.mono ?_; rintro e w3 ⟨va, rfl, hma, hb3⟩))
    all_goals go_wp2_with fail
    all_goals go_ret3
    all_goals exact ⟨_, _, _, M, N * 2 ^ s, rfl, hm1.below hb3, hma, (by rw [HG.out]; exact hdr.trans (hb3.mono (by rw [hsw]; omega))), Or.inr (Or.inr (Or.inr ⟨hM0, hN0, by omega, rfl, by rw [HS.out], rfl⟩))⟩
end Go.Proofs.YtpfbgenefjhcjaaGreatDoor
namespace Go.Proofs.YtpfbgenefjhcjaaGreatDoor
set_option linter.unusedVariables false
set_option linter.unusedSimpArgs false
open Go Go.RowKit
set_option maxRecDepth 100000
/-- What Plus tells of two numbers, of A * 2^e and B * 2^e. -/
def PlusOf (n1 n2 : Bool) (A B : Nat) : Bool × Nat := if n1 = n2 then (n1, A + B) else if B ≤ A then (n1, A - B) else (n2, B - A)
/-- A struct of three cells stored into a block of three: what is then there. -/
theorem cells3 {w : World} {g : Nat} {t : TypeId} {b0 b1 b2 : Value} (h : w.heap[g]? = some (.cells #[b0, b1, b2] t (0, 0))) :
  w.cell? ⟨g, 0, none⟩ = some b0 ∧ w.cell? ⟨g, 1, none⟩ = some b1 ∧ w.cell? ⟨g, 2, none⟩ = some b2 := by
 refine ⟨?_, ?_, ?_⟩ <;> (rw [cell_of_row _ _ _ _ _ _ h]; rfl)
def padL : Nat := 700
theorem lev_bound {M N A B L0 : Nat} {E1 E2 e : Int} (h : LevelOf M E1 N E2 A B e) (hM : M < W32 ^ L0) (hN : N < W32 ^ L0) (hE1 : -10000 ≤ E1 ∧ E1 ≤ 10000) (hE2 : -10000 ≤ E2 ∧ E2 ≤ 10000) : A < W32 ^ (L0 + padL) ∧ B < W32 ^ (L0 + padL) := by
 have hsh : ∀ X s : Nat, X < W32 ^ L0 → s ≤ 20000 → X * 2 ^ s < W32 ^ (L0 + padL) := fun X s hX hs => by
  have h1 : X * 2 ^ s < W32 ^ L0 * 2 ^ s := Nat.mul_lt_mul_of_pos_right hX (Nat.two_pow_pos s)
  refine Nat.lt_of_lt_of_le h1 ?_
  rw [Nat.pow_add]
  refine Nat.mul_le_mul_left _ ?_
  rw [W32_two]
  exact Nat.pow_le_pow_right (by decide) (by unfold padL; omega)
 have h0 : ∀ X : Nat, X < W32 ^ L0 → X < W32 ^ (L0 + padL) := fun X hX => Nat.lt_of_lt_of_le hX (Nat.pow_le_pow_right W32_pos (by omega))
 rcases h with ⟨_, rfl, rfl, _⟩ | ⟨_, _, rfl, rfl, _⟩ | ⟨_, _, _, rfl, rfl, _⟩ | ⟨_, _, _, rfl, rfl, _⟩
 ·exact ⟨W32_pow _, h0 _ hN⟩
 ·exact ⟨h0 _ hM, W32_pow _⟩
 ·exact ⟨hsh _ _ hM (by omega), h0 _ hN⟩
 ·exact ⟨h0 _ hM, hsh _ _ hN (by omega)⟩
set_option maxHeartbeats 8000000 in
theorem plus_level (w : World) (n1 n2 : Bool) (v1 v2 : Value) (E1 E2 : Int) (M N L0 : Nat) (h1 : MagIs w v1 M) (h2 : MagIs w v2 N) (hL : L0 ≤ 1000) (hM : M < W32 ^ L0) (hN : N < W32 ^ L0) (hE1 : -10000 ≤ E1 ∧ E1 ≤ 10000) (hE2 : -10000 ≤ E2 ∧ E2 ≤ 10000) :
  Calls Tryz.prog 58 #[.agg #[.bool n1, v1, .int .i64 E1], .agg #[.bool n2, v2, .int .i64 E2]] w fun e w' => ∃ (ng : Bool) (v : Value) (x : Int) (R : Nat), e = .returned (.agg #[.bool ng, v, .int .i64 x]) ∧ MagIs w' v R ∧ Below w.heap.size w w' ∧
   ((M = 0 ∧ ng = n2 ∧ R = N ∧ x = E2) ∨ (M ≠ 0 ∧ N = 0 ∧ ng = n1 ∧ R = M ∧ x = E1) ∨ ∃ (A B : Nat) (e0 : Int), M ≠ 0 ∧ N ≠ 0 ∧ LevelOf M E1 N E2 A B e0 ∧ R = (PlusOf n1 n2 A B).2 ∧ ((R = 0 ∧ x = 0 ∧ ng = false) ∨ (R ≠ 0 ∧ ng = (PlusOf n1 n2 A B).1 ∧ x = e0))) := by
 obtain ⟨A1, c1, k1, rfl, hc1, h10⟩ := h1.form
 obtain ⟨A2, c2, k2, rfl, hc2, h20⟩ := h2.form
 have hb1 := below_alloc w (.cells #[.bool n1, .slice A1 c1 k1, .int .i64 E1] 70)
 have hb2 := hb1.trans ((below_alloc (w.alloc (.cells #[.bool n1, .slice A1 c1 k1, .int .i64 E1] 70)) (.cells #[.bool n2, .slice A2 c2 k2, .int .i64 E2] 70)).mono (by simp))
 have hb3 := hb2.trans ((below_alloc ((w.alloc (.cells #[.bool n1, .slice A1 c1 k1, .int .i64 E1] 70)).alloc (.cells #[.bool n2, .slice A2 c2 k2, .int .i64 E2] 70)) (.cells #[.bool false, .slice none 0 0, .int .i64 0] 70)).mono (by simp; omega))
 have hlv := level_any _ n1 n2 _ _ E1 E2 M N L0 (h1.below hb3) (h2.below hb3) hL hM hN hE1 hE2
 have hm1 := h1.below hb3
 have hm2 := h2.below hb3
 have hg1 := heap_alloc_new w (.cells #[.bool n1, .slice A1 c1 k1, .int .i64 E1] 70)
 have hg2 := heap_alloc_new (w.alloc (.cells #[.bool n1, .slice A1 c1 k1, .int .i64 E1] 70)) (.cells #[.bool n2, .slice A2 c2 k2, .int .i64 E2] 70)
 have hg3 := heap_alloc_new ((w.alloc (.cells #[.bool n1, .slice A1 c1 k1, .int .i64 E1] 70)).alloc (.cells #[.bool n2, .slice A2 c2 k2, .int .i64 E2] 70)) (.cells #[.bool false, .slice none 0 0, .int .i64 0] 70)
 have s1 : (w.alloc (.cells #[.bool n1, .slice A1 c1 k1, .int .i64 E1] 70)).heap.size = w.heap.size + 1 := by simp
 have s2 : ((w.alloc (.cells #[.bool n1, .slice A1 c1 k1, .int .i64 E1] 70)).alloc (.cells #[.bool n2, .slice A2 c2 k2, .int .i64 E2] 70)).heap.size = w.heap.size + 1 + 1 := by simp
 rw [s1] at hg2
 rw [s2] at hg3
 have hg1' := ((below_alloc ((w.alloc (.cells #[.bool n1, .slice A1 c1 k1, .int .i64 E1] 70)).alloc (.cells #[.bool n2, .slice A2 c2 k2, .int .i64 E2] 70)) (.cells #[.bool false, .slice none 0 0, .int .i64 0] 70)).block w.heap.size (by rw [s2]; omega)).trans (((below_alloc (w.alloc (.cells #[.bool n1, .slice A1 c1 k1, .int .i64 E1] 70)) (.cells #[.bool n2, .slice A2 c2 k2, .int .i64 E2] 70)).block w.heap.size (by rw [s1]; omega)).trans hg1)
 have hg2' := ((below_alloc ((w.alloc (.cells #[.bool n1, .slice A1 c1 k1, .int .i64 E1] 70)).alloc (.cells #[.bool n2, .slice A2 c2 k2, .int .i64 E2] 70)) (.cells #[.bool false, .slice none 0 0, .int .i64 0] 70)).block (w.heap.size + 1) (by rw [s2]; omega)).trans hg2
 have s3 : (((w.alloc (.cells #[.bool n1, .slice A1 c1 k1, .int .i64 E1] 70)).alloc (.cells #[.bool n2, .slice A2 c2 k2, .int .i64 E2] 70)).alloc (.cells #[.bool false, .slice none 0 0, .int .i64 0] 70)).heap.size = w.heap.size + 3 := by simp
 clear hg1 hg2 s1 s2 hb1 hb2 h1 h2
 go_enter Tryz.func58, Tryz.ntmps58
 go_wp2_with fail
 generalize ((w.alloc (.cells #[.bool n1, .slice A1 c1 k1, .int .i64 E1] 70)).alloc (.cells #[.bool n2, .slice A2 c2 k2, .int .i64 E2] 70)).alloc (.cells #[.bool false, .slice none 0 0, .int .i64 0] 70) = W3 at *
 refine hlv.mono ?_
 rintro e w4 ⟨va, vb, e0, A, B, rfl, hA, hB, hb4, hLv⟩
 have hm1' := hm1.below hb4
 have hm2' := hm2.below hb4
 have hbel := hb3.trans (hb4.mono hb3.size)
 have q1 := (hb4.block w.heap.size (by rw [s3]; omega)).trans hg1'
 have q2 := (hb4.block (w.heap.size + 1) (by rw [s3]; omega)).trans hg2'
 have q3 := (hb4.block (w.heap.size + 1 + 1) (by rw [s3]; omega)).trans hg3
 have hsz4 : w.heap.size + 3 ≤ w4.heap.size := by rw [← s3]; exact hb4.size
 clear hlv hm1 hm2 hg1' hg2' hg3 hb4 hb3 s3
 obtain ⟨Aa, ca, ka, rfl, hca, hca0⟩ := hA.form
 obtain ⟨Ab, cb, kb, rfl, hcb, hcb0⟩ := hB.form
 obtain ⟨x10, x11, x12⟩ := cells3 q1
 obtain ⟨x20, x21, x22⟩ := cells3 q2
 have hb5 := below_alloc w4 (.cells #[.bool n1, .slice none 0 0, .int .i64 e0] 70)
 have p1 := (hb5.block w.heap.size (by omega)).trans q1
 have p2 := (hb5.block (w.heap.size + 1) (by omega)).trans q2
 have p3 := (hb5.block (w.heap.size + 1 + 1) (by omega)).trans q3
 have p8 := heap_alloc_new w4 (.cells #[.bool n1, .slice none 0 0, .int .i64 e0] 70)
 have hA5 := hA.below hb5
 have hB5 := hB.below hb5
 have hm15 := hm1'.below hb5
 have hm25 := hm2'.below hb5
 have hbel5 := hbel.trans (hb5.mono hbel.size)
 have hsz5 : (w4.alloc (.cells #[.bool n1, .slice none 0 0, .int .i64 e0] 70)).heap.size = w4.heap.size + 1 := by simp
 go_upto_region 5 with fail
 clear x10 x11 x12 x20 x21 x22 q1 q2 q3 hbel hm1' hm2' hA hB hb5
 generalize w4.alloc (.cells #[.bool n1, .slice none 0 0, .int .i64 e0] 70) = W5 at *
 generalize w4.heap.size = g8 at *
 obtain ⟨x10, x11, x12⟩ := cells3 p1
 obtain ⟨x20, x21, x22⟩ := cells3 p2
 obtain ⟨x30, x31, x32⟩ := cells3 p3
 have hf3 : ∀ j, W5.frozen? ⟨w.heap.size + 1 + 1, j, none⟩ = false := fun j => frozen_of_row W5 _ j _ _ p3
 by_cases hza : ca = 0
 ·subst hza
  have hA0 : A = 0 := hca0.1 rfl
  have hM0 : M = 0 := by
   rcases hLv with ⟨h, _⟩ | ⟨h, _, h2, _⟩ | ⟨h, _, _, h2, _⟩ | ⟨h, _, _, h2, _⟩
   ·exact h
   ·omega
   ·exfalso
    rw [hA0] at h2
    rcases Nat.mul_eq_zero.1 h2.symm with h3 | h3
    ·exact h h3
    ·have := Nat.two_pow_pos (E1 - E2).toNat; omega
   ·omega
  go_wp2_with fail
  obtain ⟨hg9, hgr9⟩ := set3 p3 (.bool n2) (.slice A2 c2 k2) (.int .i64 E2)
  have hm9 := (hm25).other p3 hgr9
  have hb9 := (hbel5).trans (below_of_grown' hgr9 (hbel5).size (by omega))
  generalize (((W5).setCell ⟨w.heap.size + 1 + 1, 0, none⟩ (.bool n2)).setCell ⟨w.heap.size + 1 + 1, 1, none⟩ (.slice A2 c2 k2)).setCell ⟨w.heap.size + 1 + 1, 2, none⟩ (.int .i64 E2) = W9 at *
  obtain ⟨j0, j1, j2⟩ := cells3 hg9
  refine bodyPost_ret (v := .agg #[.bool n2, .slice A2 c2 k2, .int .i64 E2]) (by simp [results, Tryz.results58, go_sem, j0, j1, j2]) rfl ?_
  exact ⟨_, _, _, _, rfl, hm9, hb9, Or.inl ⟨hM0, rfl, rfl, rfl⟩⟩
 ·have hA0 : A ≠ 0 := fun e => hza (hca0.2 e)
  have hM0 : M ≠ 0 := by
   rcases hLv with ⟨_, h, _⟩ | ⟨h, _⟩ | ⟨h, _⟩ | ⟨h, _⟩
   ·exact absurd h hA0
   ·exact h
   ·exact h
   ·exact h
  have hca1 : ((ca : Int) == 0) = false := by rw [beq_eq_false_iff_ne]; omega
  by_cases hzb : cb = 0
  ·subst hzb
   have hB0 : B = 0 := hcb0.1 rfl
   have hN0 : N = 0 := by
    rcases hLv with ⟨h, _⟩ | ⟨_, h, _⟩ | ⟨_, _, _, _, h2, _⟩ | ⟨_, h, _, _, h2, _⟩
    ·exact absurd h hM0
    ·exact h
    ·omega
    ·exfalso
     rw [hB0] at h2
     rcases Nat.mul_eq_zero.1 h2.symm with h3 | h3
     ·exact h h3
     ·have := Nat.two_pow_pos (E2 - E1).toNat; omega
   go_wp2_with fail
   obtain ⟨hg9, hgr9⟩ := set3 p3 (.bool n1) (.slice A1 c1 k1) (.int .i64 E1)
   have hm9 := (hm15).other p3 hgr9
   have hb9 := (hbel5).trans (below_of_grown' hgr9 (hbel5).size (by omega))
   generalize (((W5).setCell ⟨w.heap.size + 1 + 1, 0, none⟩ (.bool n1)).setCell ⟨w.heap.size + 1 + 1, 1, none⟩ (.slice A1 c1 k1)).setCell ⟨w.heap.size + 1 + 1, 2, none⟩ (.int .i64 E1) = W9 at *
   obtain ⟨j0, j1, j2⟩ := cells3 hg9
   refine bodyPost_ret (v := .agg #[.bool n1, .slice A1 c1 k1, .int .i64 E1]) (by simp [results, Tryz.results58, go_sem, j0, j1, j2]) rfl ?_
   exact ⟨_, _, _, _, rfl, hm9, hb9, Or.inr (Or.inl ⟨hM0, hN0, rfl, rfl, rfl⟩)⟩
  ·have hB0 : B ≠ 0 := fun e => hzb (hcb0.2 e)
   have hN0 : N ≠ 0 := by
    rcases hLv with ⟨h, _⟩ | ⟨_, _, _, h, _⟩ | ⟨_, h, _⟩ | ⟨_, h, _⟩
    ·exact absurd h hM0
    ·exact absurd h hB0
    ·exact h
    ·exact h
   have hcb1 : ((cb : Int) == 0) = false := by rw [beq_eq_false_iff_ne]; omega
   obtain ⟨hAb, hBb⟩ := lev_bound hLv hM hN hE1 hE2
   have hg8 : w.heap.size + 1 + 1 ≠ g8 := by omega
   have hg82 : w.heap.size + 1 ≠ g8 := by omega
   have hf8 : ∀ j, W5.frozen? ⟨g8, j, none⟩ = false := fun j => frozen_of_row W5 _ j _ _ p8
   by_cases hsame : n1 = n2
   ·subst hsame
    have hop := plus_any W5 _ _ A B (L0 + padL) (by unfold padL; omega) hA5 hB5 hAb hBb
    have hR : (PlusOf n1 n1 A B).2 = A + B := by unfold PlusOf; rw [if_pos rfl]
    have hR1 : (PlusOf n1 n1 A B).1 = n1 := by unfold PlusOf; rw [if_pos rfl]
    have hRn : A + B ≠ 0 := by omega
    have HF := Lib.hid (show ∀ x ng, ((A + B = 0 ∧ x = 0 ∧ ng = false) ∨ (A + B ≠ 0 ∧ ng = n1 ∧ x = e0)) → ∃ (A' B' : Nat) (e' : Int), M ≠ 0 ∧ N ≠ 0 ∧ LevelOf M E1 N E2 A' B' e' ∧ A + B = (PlusOf n1 n1 A' B').2 ∧ ((A + B = 0 ∧ x = 0 ∧ ng = false) ∨ (A + B ≠ 0 ∧ ng = (PlusOf n1 n1 A' B').1 ∧ x = e')) from fun x ng h => ⟨A, B, e0, hM0, hN0, hLv, hR.symm, by rw [hR1]; exact h⟩)
    clear hLv hR hR1 hM0 hN0 hA0 hB0 hA5 hB5 hm15 hm25 hAb hBb
    generalize A + B = R at *
    go_wp2_with fail
    refine hop.mono ?_
    rintro e w6 ⟨v', rfl, hm6, hb6⟩
    have q3 := (hb6.block (w.heap.size + 1 + 1) (by omega)).trans p3
    have q8 := (hb6.block g8 (by omega)).trans p8
    have hbel6 := hbel5.trans (hb6.mono (by omega))
    obtain ⟨Av, cv6, kv, rfl, hcv, hcv0⟩ := hm6.form
    obtain ⟨y80, y81, y82⟩ := cells3 q8
    have hfr8 : ∀ j, w6.frozen? ⟨g8, j, none⟩ = false := fun j => frozen_of_row w6 _ j _ _ q8
    have hfr3 : ∀ j, w6.frozen? ⟨w.heap.size + 1 + 1, j, none⟩ = false := fun j => frozen_of_row w6 _ j _ _ q3
    obtain ⟨y30, y31, y32⟩ := cells3 q3
    have q8' : (w6.setCell ⟨g8, 1, none⟩ (.slice Av cv6 kv)).heap[g8]? = some (.cells #[.bool n1, .slice Av cv6 kv, .int .i64 e0] 70 (0, 0)) := heap_setCell_same w6 g8 1 _ _ _ q8
    have q3' : (w6.setCell ⟨g8, 1, none⟩ (.slice Av cv6 kv)).heap[w.heap.size + 1 + 1]? = some (.cells #[.bool false, .slice none 0 0, .int .i64 0] 70 (0, 0)) := (heap_setCell_other w6 ⟨g8, 1, none⟩ (w.heap.size + 1 + 1) _ hg8).trans q3
    have hgr := grown_set (grown_refl w6 (some g8)) 1 (.slice Av cv6 kv)
    have hm7 := hm6.other q8 hgr
    have hbel7 := hbel6.trans (below_of_grown' hgr hbel6.size (by omega))
    have hcvn : cv6 ≠ 0 := fun e => hRn (hcv0.1 e)
    have hcv1 : ((cv6 : Int) == 0) = false := by rw [beq_eq_false_iff_ne]; omega
    go_wp2_with fail
    obtain ⟨hg9, hgr9⟩ := set3 q3' (.bool n1) (.slice Av cv6 kv) (.int .i64 e0)
    have hm9 := (hm7).other q3' hgr9
    have hb9 := (hbel7).trans (below_of_grown' hgr9 (hbel7).size (by omega))
    generalize (((w6.setCell ⟨g8, 1, none⟩ (.slice Av cv6 kv)).setCell ⟨w.heap.size + 1 + 1, 0, none⟩ (.bool n1)).setCell ⟨w.heap.size + 1 + 1, 1, none⟩ (.slice Av cv6 kv)).setCell ⟨w.heap.size + 1 + 1, 2, none⟩ (.int .i64 e0) = W9 at *
    obtain ⟨j0, j1, j2⟩ := cells3 hg9
    refine bodyPost_ret (v := .agg #[.bool n1, .slice Av cv6 kv, .int .i64 e0]) (by simp [results, Tryz.results58, go_sem, j0, j1, j2]) rfl ?_
    exact ⟨_, _, _, _, rfl, hm9, hb9, Or.inr (Or.inr (HF.out _ _ (Or.inr ⟨hRn, rfl, rfl⟩)))⟩
   ·have hnb : (n1 == n2) = false := by rw [beq_eq_false_iff_ne]; exact hsame
    have hcm := rcmp_any W5 _ _ A B hA5 hB5
    by_cases hge : B ≤ A
    ·have hcz : (0 : Int) ≤ cmpN A B := by unfold cmpN; rw [Int.sign_nonneg_iff]; omega
     have hR : (PlusOf n1 n2 A B).2 = A - B := by unfold PlusOf; rw [if_neg hsame, if_pos hge]
     have hR1 : (PlusOf n1 n2 A B).1 = n1 := by unfold PlusOf; rw [if_neg hsame, if_pos hge]
     have hops := fun w6 (h6 : Below W5.heap.size W5 w6) => minus_any w6 _ _ A B (L0 + padL) (by unfold padL; omega) (hA5.below h6) (hB5.below h6) hAb hge
     have HF := Lib.hid (show ∀ x ng, ((A - B = 0 ∧ x = 0 ∧ ng = false) ∨ (A - B ≠ 0 ∧ ng = n1 ∧ x = e0)) → ∃ (A' B' : Nat) (e' : Int), M ≠ 0 ∧ N ≠ 0 ∧ LevelOf M E1 N E2 A' B' e' ∧ A - B = (PlusOf n1 n2 A' B').2 ∧ ((A - B = 0 ∧ x = 0 ∧ ng = false) ∨ (A - B ≠ 0 ∧ ng = (PlusOf n1 n2 A' B').1 ∧ x = e')) from fun x ng h => ⟨A, B, e0, hM0, hN0, hLv, hR.symm, by rw [hR1]; exact h⟩)
     clear hLv hR hR1 hM0 hN0 hA0 hB0 hA5 hB5 hm15 hm25 hAb hBb
     generalize A - B = R at *
     generalize cmpN A B = cv at *
     go_wp2_with fail
     refine hcm.mono ?_
     rintro e w5 ⟨rfl, hb55⟩
     have hop := hops w5 hb55
     clear hops hcm
     go_wp2_with fail
     refine hop.mono ?_
     rintro e w6 ⟨v', rfl, hm6, hb66⟩
     have hb6 := hb55.trans (hb66.mono hb55.size)
     clear hb55 hb66
     have q3 := (hb6.block (w.heap.size + 1 + 1) (by omega)).trans p3
     have q8 := (hb6.block g8 (by omega)).trans p8
     have hbel6 := hbel5.trans (hb6.mono (by omega))
     obtain ⟨Av, cv6, kv, rfl, hcv, hcv0⟩ := hm6.form
     obtain ⟨y80, y81, y82⟩ := cells3 q8
     have hfr8 : ∀ j, w6.frozen? ⟨g8, j, none⟩ = false := fun j => frozen_of_row w6 _ j _ _ q8
     have hfr3 : ∀ j, w6.frozen? ⟨w.heap.size + 1 + 1, j, none⟩ = false := fun j => frozen_of_row w6 _ j _ _ q3
     obtain ⟨y30, y31, y32⟩ := cells3 q3
     have q8' : (w6.setCell ⟨g8, 1, none⟩ (.slice Av cv6 kv)).heap[g8]? = some (.cells #[.bool n1, .slice Av cv6 kv, .int .i64 e0] 70 (0, 0)) := heap_setCell_same w6 g8 1 _ _ _ q8
     have q3' : (w6.setCell ⟨g8, 1, none⟩ (.slice Av cv6 kv)).heap[w.heap.size + 1 + 1]? = some (.cells #[.bool false, .slice none 0 0, .int .i64 0] 70 (0, 0)) := (heap_setCell_other w6 ⟨g8, 1, none⟩ (w.heap.size + 1 + 1) _ hg8).trans q3
     have hgr := grown_set (grown_refl w6 (some g8)) 1 (.slice Av cv6 kv)
     have hm7 := hm6.other q8 hgr
     have hbel7 := hbel6.trans (below_of_grown' hgr hbel6.size (by omega))
     by_cases hzv : cv6 = 0
     ·subst hzv
      have hR0 := hcv0.1 rfl
      have HR0 := Lib.hid hR0
      clear hR0 hcv0 hcv
      go_wp2_with fail
      have hR0 := HR0.out
      obtain ⟨hg9, hgr9⟩ := set3 q3' (.bool false) (.slice none 0 0) (.int .i64 0)
      have hm9 := (show MagIs _ (.slice none 0 0) R from Or.inl ⟨rfl, hR0⟩).other q3' hgr9
      have hb9 := (hbel7).trans (below_of_grown' hgr9 (hbel7).size (by omega))
      generalize (((w6.setCell ⟨g8, 1, none⟩ (.slice Av 0 kv)).setCell ⟨w.heap.size + 1 + 1, 0, none⟩ (.bool false)).setCell ⟨w.heap.size + 1 + 1, 1, none⟩ (.slice none 0 0)).setCell ⟨w.heap.size + 1 + 1, 2, none⟩ (.int .i64 0) = W9 at *
      obtain ⟨j0, j1, j2⟩ := cells3 hg9
      refine bodyPost_ret (v := .agg #[.bool false, .slice none 0 0, .int .i64 0]) (by simp [results, Tryz.results58, go_sem, j0, j1, j2]) rfl ?_
      exact ⟨_, _, _, _, rfl, hm9, hb9, Or.inr (Or.inr (HF.out _ _ (Or.inl ⟨hR0, rfl, rfl⟩)))⟩
     ·have hcvn : R ≠ 0 := fun e => hzv (hcv0.2 e)
      have hcv1 : ((cv6 : Int) == 0) = false := by rw [beq_eq_false_iff_ne]; omega
      go_wp2_with fail
      obtain ⟨hg9, hgr9⟩ := set3 q3' (.bool n1) (.slice Av cv6 kv) (.int .i64 e0)
      have hm9 := (hm7).other q3' hgr9
      have hb9 := (hbel7).trans (below_of_grown' hgr9 (hbel7).size (by omega))
      generalize (((w6.setCell ⟨g8, 1, none⟩ (.slice Av cv6 kv)).setCell ⟨w.heap.size + 1 + 1, 0, none⟩ (.bool n1)).setCell ⟨w.heap.size + 1 + 1, 1, none⟩ (.slice Av cv6 kv)).setCell ⟨w.heap.size + 1 + 1, 2, none⟩ (.int .i64 e0) = W9 at *
      obtain ⟨j0, j1, j2⟩ := cells3 hg9
      refine bodyPost_ret (v := .agg #[.bool n1, .slice Av cv6 kv, .int .i64 e0]) (by simp [results, Tryz.results58, go_sem, j0, j1, j2]) rfl ?_
      exact ⟨_, _, _, _, rfl, hm9, hb9, Or.inr (Or.inr (HF.out _ _ (Or.inr ⟨hcvn, rfl, rfl⟩)))⟩
    ·have hcz : decide ((0 : Int) ≤ cmpN A B) = false := by
      rw [decide_eq_false_iff_not]; unfold cmpN; rw [Int.sign_nonneg_iff]; omega
     have hR : (PlusOf n1 n2 A B).2 = B - A := by unfold PlusOf; rw [if_neg hsame, if_neg hge]
     have hR1 : (PlusOf n1 n2 A B).1 = n2 := by unfold PlusOf; rw [if_neg hsame, if_neg hge]
     have hRn : B - A ≠ 0 := by omega
     have HF := Lib.hid (show ∀ x ng, ((B - A = 0 ∧ x = 0 ∧ ng = false) ∨ (B - A ≠ 0 ∧ ng = n2 ∧ x = e0)) → ∃ (A' B' : Nat) (e' : Int), M ≠ 0 ∧ N ≠ 0 ∧ LevelOf M E1 N E2 A' B' e' ∧ B - A = (PlusOf n1 n2 A' B').2 ∧ ((B - A = 0 ∧ x = 0 ∧ ng = false) ∨ (B - A ≠ 0 ∧ ng = (PlusOf n1 n2 A' B').1 ∧ x = e')) from fun x ng h => ⟨A, B, e0, hM0, hN0, hLv, hR.symm, by rw [hR1]; exact h⟩)
     have hops : ∀ w5 : World, Below W5.heap.size W5 w5 → _ := fun w5 h5 =>
      have r8 := (h5.block g8 (by omega)).trans p8
      have hgr := grown_set (grown_refl w5 (some g8)) 0 (.bool n2)
      minus_any (w5.setCell ⟨g8, 0, none⟩ (.bool n2)) _ _ B A (L0 + padL) (by unfold padL; omega) ((hB5.below h5).other r8 hgr) ((hA5.below h5).other r8 hgr) hBb (by omega)
     clear hLv hR hR1 hM0 hN0 hA0 hB0 hA5 hB5 hm15 hm25 hAb hBb hge
     generalize B - A = R at *
     generalize cmpN A B = cv at *
     go_wp2_with fail
     refine hcm.mono ?_
     rintro e w5 ⟨rfl, hb55⟩
     have hop := hops w5 hb55
     have r2 := (hb55.block (w.heap.size + 1) (by omega)).trans p2
     have r3 := (hb55.block (w.heap.size + 1 + 1) (by omega)).trans p3
     have r8 := (hb55.block g8 (by omega)).trans p8
     obtain ⟨z20, z21, z22⟩ := cells3 r2
     obtain ⟨z80, z81, z82⟩ := cells3 r8
     have hfz8 : ∀ j, w5.frozen? ⟨g8, j, none⟩ = false := fun j => frozen_of_row w5 _ j _ _ r8
     have hgr0 := grown_set (grown_refl w5 (some g8)) 0 (.bool n2)
     have r8' : (w5.setCell ⟨g8, 0, none⟩ (.bool n2)).heap[g8]? = some (.cells #[.bool n2, .slice none 0 0, .int .i64 e0] 70 (0, 0)) := heap_setCell_same w5 g8 0 _ _ _ r8
     have r3' : (w5.setCell ⟨g8, 0, none⟩ (.bool n2)).heap[w.heap.size + 1 + 1]? = some (.cells #[.bool false, .slice none 0 0, .int .i64 0] 70 (0, 0)) := (heap_setCell_other w5 ⟨g8, 0, none⟩ (w.heap.size + 1 + 1) _ hg8).trans r3
     have hbel55 := (hbel5.trans (hb55.mono (by omega))).trans (below_of_grown' hgr0 (by have := hb55.size; omega) (by omega))
     have hs55 : W5.heap.size ≤ (w5.setCell ⟨g8, 0, none⟩ (.bool n2)).heap.size := Nat.le_trans hb55.size hgr0.size
     clear hops hcm r2 r3 r8
     go_wp2_with fail
     refine hop.mono ?_
     rintro e w6 ⟨v', rfl, hm6, hb6⟩
     have q3 := (hb6.block (w.heap.size + 1 + 1) (by omega)).trans r3'
     have q8 := (hb6.block g8 (by omega)).trans r8'
     have hbel6 := hbel55.trans (hb6.mono (by omega))
     obtain ⟨Av, cv6, kv, rfl, hcv, hcv0⟩ := hm6.form
     obtain ⟨y80, y81, y82⟩ := cells3 q8
     have hfr8 : ∀ j, w6.frozen? ⟨g8, j, none⟩ = false := fun j => frozen_of_row w6 _ j _ _ q8
     have hfr3 : ∀ j, w6.frozen? ⟨w.heap.size + 1 + 1, j, none⟩ = false := fun j => frozen_of_row w6 _ j _ _ q3
     obtain ⟨y30, y31, y32⟩ := cells3 q3
     have q8' : (w6.setCell ⟨g8, 1, none⟩ (.slice Av cv6 kv)).heap[g8]? = some (.cells #[.bool n2, .slice Av cv6 kv, .int .i64 e0] 70 (0, 0)) := heap_setCell_same w6 g8 1 _ _ _ q8
     have q3' : (w6.setCell ⟨g8, 1, none⟩ (.slice Av cv6 kv)).heap[w.heap.size + 1 + 1]? = some (.cells #[.bool false, .slice none 0 0, .int .i64 0] 70 (0, 0)) := (heap_setCell_other w6 ⟨g8, 1, none⟩ (w.heap.size + 1 + 1) _ hg8).trans q3
     have hgr := grown_set (grown_refl w6 (some g8)) 1 (.slice Av cv6 kv)
     have hm7 := hm6.other q8 hgr
     have hbel7 := hbel6.trans (below_of_grown' hgr hbel6.size (by omega))
     have hcvn : cv6 ≠ 0 := fun e => hRn (hcv0.1 e)
     have hcv1 : ((cv6 : Int) == 0) = false := by rw [beq_eq_false_iff_ne]; omega
     go_wp2_with fail
     obtain ⟨hg9, hgr9⟩ := set3 q3' (.bool n2) (.slice Av cv6 kv) (.int .i64 e0)
     have hm9 := (hm7).other q3' hgr9
     have hb9 := (hbel7).trans (below_of_grown' hgr9 (hbel7).size (by omega))
     generalize (((w6.setCell ⟨g8, 1, none⟩ (.slice Av cv6 kv)).setCell ⟨w.heap.size + 1 + 1, 0, none⟩ (.bool n2)).setCell ⟨w.heap.size + 1 + 1, 1, none⟩ (.slice Av cv6 kv)).setCell ⟨w.heap.size + 1 + 1, 2, none⟩ (.int .i64 e0) = W9 at *
     obtain ⟨j0, j1, j2⟩ := cells3 hg9
     refine bodyPost_ret (v := .agg #[.bool n2, .slice Av cv6 kv, .int .i64 e0]) (by simp [results, Tryz.results58, go_sem, j0, j1, j2]) rfl ?_
     exact ⟨_, _, _, _, rfl, hm9, hb9, Or.inr (Or.inr (HF.out _ _ (Or.inr ⟨hRn, rfl, rfl⟩)))⟩
end Go.Proofs.YtpfbgenefjhcjaaGreatDoor
namespace Go.Proofs.YtpfbgenefjhcjaaGreatDoor
set_option linter.unusedVariables false
set_option linter.unusedSimpArgs false
open Go Go.RowKit
set_option maxRecDepth 100000
def sgn (neg : Bool) (m : Nat) : Int := if neg = true then -(m : Int) else (m : Int)
theorem sgn_natAbs (neg : Bool) (m : Nat) : (sgn neg m).natAbs = m := by unfold sgn; split <;> omega
theorem NumIs.def' {w : World} {neg : Bool} {v : Value} {E z : Int} : NumIs w neg v E z ↔ ∃ M : Nat, MagIs w v M ∧ (M = 0 → E = 0) ∧ -2212 ≤ E ∧ E ≤ 5000 ∧ M < W32 ^ 400 ∧ z = sgn neg (M * 2 ^ (E + 2212).toNat) := Iff.rfl
theorem PlusOf_mul (n1 n2 : Bool) (A B p : Nat) (hp : 0 < p) : sgn (PlusOf n1 n2 A B).1 ((PlusOf n1 n2 A B).2 * p) = sgn n1 (A * p) + sgn n2 (B * p) := by
 unfold PlusOf
 by_cases h : n1 = n2
 ·rw [if_pos h]
  subst h
  show sgn n1 ((A + B) * p) = _
  rw [Nat.add_mul]
  unfold sgn
  split <;> omega
 ·rw [if_neg h]
  by_cases hle : B ≤ A
  ·rw [if_pos hle]
   show sgn n1 ((A - B) * p) = _
   have h1 : (A - B) * p = A * p - B * p := Nat.sub_mul _ _ _
   have h2 : B * p ≤ A * p := Nat.mul_le_mul_right _ hle
   rw [h1]
   unfold sgn
   cases n1 <;> cases n2 <;> simp_all <;> omega
  ·rw [if_neg hle]
   show sgn n2 ((B - A) * p) = _
   have h1 : (B - A) * p = B * p - A * p := Nat.sub_mul _ _ _
   have h2 : A * p ≤ B * p := Nat.mul_le_mul_right _ (by omega)
   rw [h1]
   unfold sgn
   cases n1 <;> cases n2 <;> simp_all <;> omega
theorem level_real {M N A B : Nat} {E1 E2 e : Int} (h : LevelOf M E1 N E2 A B e) (hM : M ≠ 0) (hN : N ≠ 0) (hE1 : -2212 ≤ E1) (hE2 : -2212 ≤ E2) :
  M * 2 ^ (E1 + 2212).toNat = A * 2 ^ (e + 2212).toNat ∧ N * 2 ^ (E2 + 2212).toNat = B * 2 ^ (e + 2212).toNat ∧ (e = E1 ∨ e = E2) := by
 rcases h with ⟨h, _⟩ | ⟨_, h, _⟩ | ⟨_, _, hlt, hA, hB, he⟩ | ⟨_, _, hle, hA, hB, he⟩
 ·exact absurd h hM
 ·exact absurd h hN
 ·rw [hA, hB, he]
  refine ⟨?_, rfl, Or.inr rfl⟩
  rw [Nat.mul_assoc, ← Nat.pow_add, show (E1 - E2).toNat + (E2 + 2212).toNat = (E1 + 2212).toNat by omega]
 ·rw [hA, hB, he]
  refine ⟨rfl, ?_, Or.inl rfl⟩
  rw [Nat.mul_assoc, ← Nat.pow_add, show (E2 - E1).toNat + (E1 + 2212).toNat = (E2 + 2212).toNat by omega]
theorem NumIs.below {w w1 : World} {neg : Bool} {v : Value} {E z : Int} (h : NumIs w neg v E z) (hb : Below w.heap.size w w1) : NumIs w1 neg v E z := by
 obtain ⟨M, h1, h2⟩ := h
 exact ⟨M, h1.below hb, h2⟩
theorem plus_num (w : World) (n1 n2 : Bool) (v1 v2 : Value) (E1 E2 z1 z2 : Int) (h1 : NumIs w n1 v1 E1 z1) (h2 : NumIs w n2 v2 E2 z2) (hb : (z1 + z2).natAbs < W32 ^ 400) :
  Calls Tryz.prog 58 #[.agg #[.bool n1, v1, .int .i64 E1], .agg #[.bool n2, v2, .int .i64 E2]] w fun e w' => ∃ (ng : Bool) (v : Value) (x : Int), e = .returned (.agg #[.bool ng, v, .int .i64 x]) ∧ NumIs w' ng v x (z1 + z2) ∧ Below w.heap.size w w' := by
 obtain ⟨M, hm1, hM0, hE1, hE1', hMl, hz1⟩ := NumIs.def'.1 h1
 obtain ⟨N, hm2, hN0, hE2, hE2', hNl, hz2⟩ := NumIs.def'.1 h2
 refine (plus_level w n1 n2 v1 v2 E1 E2 M N 400 hm1 hm2 (by decide) hMl hNl (by omega) (by omega)).mono ?_
 rintro e w' ⟨ng, v, x, R, he, hmR, hbel, hcase⟩
 refine ⟨ng, v, x, he, ?_, hbel⟩
 rw [NumIs.def']
 rcases hcase with ⟨hM, rfl, rfl, rfl⟩ | ⟨hM, hN, rfl, rfl, rfl⟩ | ⟨A, B, e0, hM, hN, hL, hR, hfin⟩
 ·refine ⟨R, hmR, hN0, hE2, hE2', hNl, ?_⟩
  rw [hz2, hz1, hM, Nat.zero_mul]
  unfold sgn
  split <;> simp
 ·refine ⟨R, hmR, hM0, hE1, hE1', hMl, ?_⟩
  rw [hz1, hz2, hN, Nat.zero_mul]
  unfold sgn
  split <;> split <;> simp
 ·obtain ⟨r1, r2, re⟩ := level_real hL hM hN hE1 hE2
  have hp := Nat.two_pow_pos (e0 + 2212).toNat
  have hreal := PlusOf_mul n1 n2 A B (2 ^ (e0 + 2212).toNat) hp
  rw [← r1, ← r2, ← hz1, ← hz2, ← hR] at hreal
  rcases hfin with ⟨hR0, rfl, rfl⟩ | ⟨hR0, rfl, rfl⟩
  ·refine ⟨R, hmR, fun _ => rfl, by omega, by omega, by rw [hR0]; exact Nat.lt_of_le_of_lt (Nat.zero_le _) hMl, ?_⟩
   rw [← hreal, hR0, Nat.zero_mul, Nat.zero_mul]
   unfold sgn
   split <;> simp
  ·refine ⟨R, hmR, fun h => absurd h hR0, by omega, by omega, ?_, hreal.symm⟩
   rw [← hreal, sgn_natAbs] at hb
   generalize W32 ^ 400 = T at hb ⊢
   exact Nat.lt_of_le_of_lt (Nat.le_mul_of_pos_right _ hp) hb
set_option linter.unusedVariables false
set_option linter.unusedSimpArgs false
open Go Go.RowKit
set_option maxRecDepth 100000
set_option linter.unusedVariables false
set_option linter.unusedSimpArgs false
open Go Go.RowKit
set_option maxRecDepth 100000
theorem Of_none (w : World) (u : Nat) (hu : u < B64) (he : fexp u = 2047) :
  Calls Tryz.prog 37 #[.int .u64 (u : Nat)] w fun e w' => e = .returned (.tuple #[.agg #[.bool false, .slice none 0 0, .int .i64 0], .bool false]) ∧ Below w.heap.size w w' := by
 have h1 := and_exp u hu
 have h2 := and_man u hu
 have hul : (u : Int) ≤ 18446744073709551615 := by unfold B64 at hu; omega
 have hml := fman_lt u
 rw [he] at h1
 clear he
 generalize fman u = mn at *
 go_enter Tryz.func37, Tryz.ntmps37
 go_wp2_with fail
 go_returns
 exact ⟨rfl, below_alloc w _⟩
theorem Of_zero (w : World) (u : Nat) (hu : u < B64) (he : fexp u ≠ 2047) (hs : sig u = 0) :
  Calls Tryz.prog 37 #[.int .u64 (u : Nat)] w fun e w' => e = .returned (.tuple #[.agg #[.bool false, .slice none 0 0, .int .i64 0], .bool true]) ∧ Below w.heap.size w w' := by
 have h1 := and_exp u hu
 have h2 := and_man u hu
 have hul : (u : Int) ≤ 18446744073709551615 := by unfold B64 at hu; omega
 have h0 : fexp u = 0 ∧ fman u = 0 := by
  unfold sig at hs
  split at hs
  ·exact ⟨by assumption, hs⟩
  ·omega
 rw [h0.1] at h1
 rw [h0.2] at h2
 clear he hs h0
 go_enter Tryz.func37, Tryz.ntmps37
 go_wp2_with fail
 go_returns
 exact ⟨rfl, below_alloc w _⟩
set_option linter.unusedVariables false
set_option linter.unusedSimpArgs false
open Go Go.RowKit
set_option maxRecDepth 100000
/-- What Of tells of a number. -/
def OfIs (w : World) (neg : Bool) (v : Value) (E : Int) (u : Nat) : Prop :=
 (sig u = 0 ∧ neg = false ∧ v = .slice none 0 0 ∧ E = 0) ∨ (sig u ≠ 0 ∧ neg = fneg u ∧ E = pwr u ∧ MagIs w v (sig u))
theorem OfIs.below {w w1 : World} {neg : Bool} {v : Value} {E : Int} {u : Nat} (h : OfIs w neg v E u) (hb : Below w.heap.size w w1) : OfIs w1 neg v E u := by
 rcases h with h | ⟨h1, h2, h3, h4⟩
 ·exact Or.inl h
 ·exact Or.inr ⟨h1, h2, h3, h4.below hb⟩
theorem OfIs.form {w : World} {neg : Bool} {v : Value} {E : Int} {u : Nat} (h : OfIs w neg v E u) : ∃ A n cap, v = .slice A n cap ∧ n ≤ 1000000 := by
 rcases h with ⟨_, _, rfl, _⟩ | ⟨_, _, _, h⟩
 ·exact ⟨none, 0, 0, rfl, by omega⟩
 ·obtain ⟨A, n, cap, hv, hn, _⟩ := h.form
  exact ⟨A, n, cap, hv, hn⟩
theorem Of_any (w : World) (u : Nat) (hu : u < B64) :
  Calls Tryz.prog 37 #[.int .u64 (u : Nat)] w fun e w' => ∃ (neg : Bool) (v : Value) (E : Int), e = .returned (.tuple #[.agg #[.bool neg, v, .int .i64 E], .bool (fexp u != 2047)]) ∧ (fexp u ≠ 2047 → OfIs w' neg v E u) ∧ Below w.heap.size w w' ∧ (∃ A n cap, v = .slice A n cap ∧ n ≤ 1000000) := by
 by_cases he : fexp u = 2047
 ·refine (Of_none w u hu he).mono fun e w' ⟨h1, h2⟩ => ⟨false, .slice none 0 0, 0, ?_, fun h => absurd he h, h2, none, 0, 0, rfl, by omega⟩
  rw [he]
  exact h1
 ·have hb : (fexp u != 2047) = true := by rw [bne_iff_ne]; exact he
  rw [hb]
  by_cases hs : sig u = 0
  ·exact (Of_zero w u hu he hs).mono fun e w' ⟨h1, h2⟩ => ⟨false, .slice none 0 0, 0, h1, fun _ => Or.inl ⟨hs, rfl, rfl, rfl⟩, h2, none, 0, 0, rfl, by omega⟩
  ·refine (Of_num w u hu he hs).mono fun e w' ⟨v, h1, h2, h3⟩ => ⟨fneg u, v, pwr u, h1, fun _ => Or.inr ⟨hs, rfl, rfl, h2⟩, h3, ?_⟩
   obtain ⟨A, n, cap, hv, hn, _⟩ := h2.form
   exact ⟨A, n, cap, hv, hn⟩
/-- What Times tells of two numbers. -/
def TimesIs (w : World) (neg : Bool) (v : Value) (E : Int) (a b : Nat) : Prop :=
 (sig a * sig b = 0 ∧ neg = false ∧ v = .slice none 0 0 ∧ E = 0) ∨ (sig a * sig b ≠ 0 ∧ neg = (fneg a != fneg b) ∧ E = pwr a + pwr b ∧ MagIs w v (sig a * sig b))
theorem NumIs.form {w : World} {neg : Bool} {v : Value} {E z : Int} (h : NumIs w neg v E z) : ∃ A n cap, v = .slice A n cap ∧ n ≤ 1000000 := by
 obtain ⟨M, hm, _⟩ := NumIs.def'.1 h
 obtain ⟨A, n, cap, hv, hn, _⟩ := hm.form
 exact ⟨A, n, cap, hv, hn⟩
theorem TimesIs.form {w : World} {neg : Bool} {v : Value} {E : Int} {a b : Nat} (h : TimesIs w neg v E a b) : ∃ A n cap, v = .slice A n cap ∧ n ≤ 1000000 := by
 rcases h with ⟨_, _, rfl, _⟩ | ⟨_, _, _, h⟩
 ·exact ⟨none, 0, 0, rfl, by omega⟩
 ·obtain ⟨A, n, cap, hv, hn, _⟩ := h.form
  exact ⟨A, n, cap, hv, hn⟩
end Go.Proofs.YtpfbgenefjhcjaaGreatDoor
