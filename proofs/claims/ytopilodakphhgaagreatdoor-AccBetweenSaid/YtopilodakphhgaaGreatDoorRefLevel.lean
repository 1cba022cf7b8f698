/- ambitref2.level: two numbers at one power of 2. -/
import Derived.Test.YtopilodakphhgaaGreatDoorRefRoundAny
import Derived.Test.YtopilodakphhgaaGreatDoorRefMul
import Derived.OwnWalk
namespace Go.Proofs.YtopilodakphhgaaGreatDoor
set_option linter.unusedVariables false
set_option linter.unusedSimpArgs false
open Go Go.RowKit
set_option maxRecDepth 100000
def LevelOf (M : Nat) (E1 : Int) (N : Nat) (E2 : Int) (A B : Nat) (e : Int) : Prop :=
  (M = 0 ∧ A = 0 ∧ B = N ∧ e = E2) ∨ (M ≠ 0 ∧ N = 0 ∧ A = M ∧ B = 0 ∧ e = E1) ∨ (M ≠ 0 ∧ N ≠ 0 ∧ E2 < E1 ∧ A = M * 2 ^ (E1 - E2).toNat ∧ B = N ∧ e = E2) ∨ (M ≠ 0 ∧ N ≠ 0 ∧ E1 ≤ E2 ∧ A = M ∧ B = N * 2 ^ (E2 - E1).toNat ∧ e = E1)
theorem limbs_small {w : World} {v : Value} {M L0 : Nat} (h : MagIs w v M) (hM : M < W32 ^ L0) (hL : L0 ≤ 100000) : ∀ A n cap, v = .slice A n cap → n ≤ 100000 := fun A n cap hv => by
  rcases h with ⟨h1, _⟩ | ⟨g, n1, cap1, h1, h2, h3, h4, h5⟩
  · rw [h1] at hv; injection hv with _ e _; omega
  · rw [h1] at hv
    injection hv with _ e _
    have := NL32_le h4 hM
    omega
theorem left_sh (w : World) (v : Value) (M s L0 : Nat) (h : MagIs w v M) (hM : M < W32 ^ L0) (hL : L0 ≤ 100000) (hs : s ≤ 3000000) :
    Calls Tryz.prog 51 #[v, .int .i64 (s : Nat)] w fun e w' => ∃ v', e = .returned v' ∧ MagIs w' v' (M * 2 ^ s) ∧ Below w.heap.size w w' := by
  have := left_any w v M (s / 32) (s % 32) h (by omega) (by omega) (limbs_small h hM hL)
  rwa [show 32 * (s / 32) + s % 32 = s by omega] at this
set_option maxHeartbeats 2000000 in
theorem level_any (w : World) (n1 n2 : Bool) (v1 v2 : Value) (E1 E2 : Int) (M N L0 : Nat) (h1 : MagIs w v1 M) (h2 : MagIs w v2 N) (hL : L0 ≤ 1000) (hM : M < W32 ^ L0) (hN : N < W32 ^ L0) (hE1 : -10000 ≤ E1 ∧ E1 ≤ 10000) (hE2 : -10000 ≤ E2 ∧ E2 ≤ 10000) :
    Calls Tryz.prog 32 #[.agg #[.bool n1, v1, .int .i64 E1], .agg #[.bool n2, v2, .int .i64 E2]] w fun e w' => ∃ (va vb : Value) (x : Int) (A B : Nat), e = .returned (.tuple #[va, vb, .int .i64 x]) ∧ MagIs w' va A ∧ MagIs w' vb B ∧ Below w.heap.size w w' ∧ LevelOf M E1 N E2 A B x := by
  obtain ⟨A1, c1, k1, rfl, hc1, h10⟩ := h1.form
  obtain ⟨A2, c2, k2, rfl, hc2, h20⟩ := h2.form
  have hb1 := below_alloc w (.cells #[.bool n1, .slice A1 c1 k1, .int .i64 E1] 29)
  have hb2 := hb1.trans ((below_alloc (w.alloc (.cells #[.bool n1, .slice A1 c1 k1, .int .i64 E1] 29)) (.cells #[.bool n2, .slice A2 c2 k2, .int .i64 E2] 29)).mono (by simp))
  have hd := fun q => below_drewN' hb2 q
  by_cases hz1 : c1 = 0
  · have hM0 := h10.1 hz1
    subst hz1
    have hm2 := fun q => h2.below (hd q)
    clear h1 h2 h10 h20 hb1
    go_enter Tryz.func32, Tryz.ntmps32
    go_wp2_with fail
    go_quiet (fail)
    go_wp2_with fail
    go_ret3
    exact ⟨_, _, _, 0, N, rfl, Or.inl ⟨rfl, rfl⟩, hm2 _, hd _, Or.inl ⟨hM0, rfl, rfl, rfl⟩⟩
  · have hM0 : M ≠ 0 := fun e => hz1 (h10.2 e)
    have hc1' : ((c1 : Int) == 0) = false := by rw [beq_eq_false_iff_ne]; omega
    by_cases hz2 : c2 = 0
    · have hN0 := h20.1 hz2
      subst hz2
      have hm1 := fun q => h1.below (hd q)
      clear h1 h2 h10 h20 hb1
      go_enter Tryz.func32, Tryz.ntmps32
      go_wp2_with fail
      go_quiet (fail)
      go_wp2_with fail
      go_ret3
      exact ⟨_, _, _, M, 0, rfl, hm1 _, Or.inl ⟨rfl, rfl⟩, hd _, Or.inr (Or.inl ⟨hM0, hN0, rfl, rfl, rfl⟩)⟩
    · have hN0 : N ≠ 0 := fun e => hz2 (h20.2 e)
      have hc2' : ((c2 : Int) == 0) = false := by rw [beq_eq_false_iff_ne]; omega
      by_cases hlt : E2 < E1
      · obtain ⟨s, hs⟩ : ∃ s, s = (E1 - E2).toNat := ⟨_, rfl⟩
        have hsub : E1 - E2 = (s : Int) := by omega
        have hwsub : IntKind.i64.wrap (E1 - E2) = (s : Int) := by rw [IntKind.wrap_i64]; omega
        have hwsub2 : IntKind.i64.wrap (s : Int) = (s : Int) := by rw [IntKind.wrap_i64]; omega
        have hl := left_sh _ (.slice A1 c1 k1) M s L0 (h1.below hb2.drew) hM (by omega) (by omega)
        have hm2 := h2.below hb2.drew
        have hg1 := heap_alloc_new w (.cells #[.bool n1, .slice A1 c1 k1, .int .i64 E1] 29)
        have hg2 := heap_alloc_new (w.alloc (.cells #[.bool n1, .slice A1 c1 k1, .int .i64 E1] 29)) (.cells #[.bool n2, .slice A2 c2 k2, .int .i64 E2] 29)
        have hsz : (w.alloc (.cells #[.bool n1, .slice A1 c1 k1, .int .i64 E1] 29)).heap.size = w.heap.size + 1 := by simp
        rw [hsz] at hg2
        have hdr := hb2.drew
        have hsw : ((w.alloc (.cells #[.bool n1, .slice A1 c1 k1, .int .i64 E1] 29)).alloc (.cells #[.bool n2, .slice A2 c2 k2, .int .i64 E2] 29)).drew.heap.size = w.heap.size + 2 := by simp
        have HS := Lib.hid hs
        have hg1' := (below_alloc (w.alloc (.cells #[.bool n1, .slice A1 c1 k1, .int .i64 E1] 29)) (.cells #[.bool n2, .slice A2 c2 k2, .int .i64 E2] 29)).block w.heap.size (by rw [hsz]; omega)
        rw [hg1] at hg1'
        have x1 : ((w.alloc (.cells #[.bool n1, .slice A1 c1 k1, .int .i64 E1] 29)).alloc (.cells #[.bool n2, .slice A2 c2 k2, .int .i64 E2] 29)).cell? ⟨w.heap.size, 1, none⟩ = some (.slice A1 c1 k1) := by rw [cell_of_row _ _ _ _ _ _ hg1']; rfl
        have x2 : ((w.alloc (.cells #[.bool n1, .slice A1 c1 k1, .int .i64 E1] 29)).alloc (.cells #[.bool n2, .slice A2 c2 k2, .int .i64 E2] 29)).cell? ⟨w.heap.size, 2, none⟩ = some (.int .i64 E1) := by rw [cell_of_row _ _ _ _ _ _ hg1']; rfl
        have x3 : ((w.alloc (.cells #[.bool n1, .slice A1 c1 k1, .int .i64 E1] 29)).alloc (.cells #[.bool n2, .slice A2 c2 k2, .int .i64 E2] 29)).cell? ⟨w.heap.size + 1, 1, none⟩ = some (.slice A2 c2 k2) := by rw [cell_of_row _ _ _ _ _ _ hg2]; rfl
        have x4 : ((w.alloc (.cells #[.bool n1, .slice A1 c1 k1, .int .i64 E1] 29)).alloc (.cells #[.bool n2, .slice A2 c2 k2, .int .i64 E2] 29)).cell? ⟨w.heap.size + 1, 2, none⟩ = some (.int .i64 E2) := by rw [cell_of_row _ _ _ _ _ _ hg2]; rfl
        clear hs hg1 hg1' hg2 hsz h1 h2 h10 h20 hb1 hd hM hN
        go_enter Tryz.func32, Tryz.ntmps32
        go_wp2_with fail
        clear hb2
        generalize (w.alloc (.cells #[.bool n1, .slice A1 c1 k1, .int .i64 E1] 29)).alloc (.cells #[.bool n2, .slice A2 c2 k2, .int .i64 E2] 29) = W2 at *
        generalize hG : w.heap.size = g0 at *
        have HG := Lib.hid hG
        clear hG
        have hg0a : g0 < g0 + 2 := by omega
        have hg0b : g0 + 1 < g0 + 2 := by omega
        go_region_held3 (fun w' => w'.cell? ⟨g0, 1, none⟩ = some (.slice A1 c1 k1) ∧ w'.cell? ⟨g0, 2, none⟩ = some (.int .i64 E1) ∧ w'.cell? ⟨g0 + 1, 1, none⟩ = some (.slice A2 c2 k2) ∧ w'.cell? ⟨g0 + 1, 2, none⟩ = some (.int .i64 E2))
          (first | exact ⟨x1, x2, x3, x4⟩ | exact ⟨(hb3.cell (p := ⟨g0, 1, none⟩) (by rw [hsw]; exact hg0a)).trans x1, (hb3.cell (p := ⟨g0, 2, none⟩) (by rw [hsw]; exact hg0a)).trans x2, (hb3.cell (p := ⟨g0 + 1, 1, none⟩) (by rw [hsw]; exact hg0b)).trans x3, (hb3.cell (p := ⟨g0 + 1, 2, none⟩) (by rw [hsw]; exact hg0b)).trans x4⟩)
          (first | (go_at_call 51; refine hl.mono ?_; rintro e w3 ⟨va, rfl, hma, hb3⟩))
        all_goals go_wp2_with fail
        all_goals go_ret3
        all_goals exact ⟨_, _, _, M * 2 ^ s, N, rfl, hma, hm2.below hb3, (by rw [HG.out]; exact hdr.trans (hb3.mono (by rw [hsw]; omega))), Or.inr (Or.inr (Or.inl ⟨hM0, hN0, hlt, by rw [HS.out], rfl, rfl⟩))⟩
      · obtain ⟨s, hs⟩ : ∃ s, s = (E2 - E1).toNat := ⟨_, rfl⟩
        have hsub : E2 - E1 = (s : Int) := by omega
        have hwsub : IntKind.i64.wrap (E2 - E1) = (s : Int) := by rw [IntKind.wrap_i64]; omega
        have hwsub2 : IntKind.i64.wrap (s : Int) = (s : Int) := by rw [IntKind.wrap_i64]; omega
        have hge : decide (E2 < E1) = false := by simp; omega
        have hl := left_sh _ (.slice A2 c2 k2) N s L0 (h2.below hb2.drew) hN (by omega) (by omega)
        have hm1 := h1.below hb2.drew
        have hg1 := heap_alloc_new w (.cells #[.bool n1, .slice A1 c1 k1, .int .i64 E1] 29)
        have hg2 := heap_alloc_new (w.alloc (.cells #[.bool n1, .slice A1 c1 k1, .int .i64 E1] 29)) (.cells #[.bool n2, .slice A2 c2 k2, .int .i64 E2] 29)
        have hsz : (w.alloc (.cells #[.bool n1, .slice A1 c1 k1, .int .i64 E1] 29)).heap.size = w.heap.size + 1 := by simp
        rw [hsz] at hg2
        have hdr := hb2.drew
        have hsw : ((w.alloc (.cells #[.bool n1, .slice A1 c1 k1, .int .i64 E1] 29)).alloc (.cells #[.bool n2, .slice A2 c2 k2, .int .i64 E2] 29)).drew.heap.size = w.heap.size + 2 := by simp
        have HS := Lib.hid hs
        have hg1' := (below_alloc (w.alloc (.cells #[.bool n1, .slice A1 c1 k1, .int .i64 E1] 29)) (.cells #[.bool n2, .slice A2 c2 k2, .int .i64 E2] 29)).block w.heap.size (by rw [hsz]; omega)
        rw [hg1] at hg1'
        have x1 : ((w.alloc (.cells #[.bool n1, .slice A1 c1 k1, .int .i64 E1] 29)).alloc (.cells #[.bool n2, .slice A2 c2 k2, .int .i64 E2] 29)).cell? ⟨w.heap.size, 1, none⟩ = some (.slice A1 c1 k1) := by rw [cell_of_row _ _ _ _ _ _ hg1']; rfl
        have x2 : ((w.alloc (.cells #[.bool n1, .slice A1 c1 k1, .int .i64 E1] 29)).alloc (.cells #[.bool n2, .slice A2 c2 k2, .int .i64 E2] 29)).cell? ⟨w.heap.size, 2, none⟩ = some (.int .i64 E1) := by rw [cell_of_row _ _ _ _ _ _ hg1']; rfl
        have x3 : ((w.alloc (.cells #[.bool n1, .slice A1 c1 k1, .int .i64 E1] 29)).alloc (.cells #[.bool n2, .slice A2 c2 k2, .int .i64 E2] 29)).cell? ⟨w.heap.size + 1, 1, none⟩ = some (.slice A2 c2 k2) := by rw [cell_of_row _ _ _ _ _ _ hg2]; rfl
        have x4 : ((w.alloc (.cells #[.bool n1, .slice A1 c1 k1, .int .i64 E1] 29)).alloc (.cells #[.bool n2, .slice A2 c2 k2, .int .i64 E2] 29)).cell? ⟨w.heap.size + 1, 2, none⟩ = some (.int .i64 E2) := by rw [cell_of_row _ _ _ _ _ _ hg2]; rfl
        clear hs hg1 hg1' hg2 hsz h1 h2 h10 h20 hb1 hd hM hN
        go_enter Tryz.func32, Tryz.ntmps32
        go_wp2_with fail
        clear hb2
        generalize (w.alloc (.cells #[.bool n1, .slice A1 c1 k1, .int .i64 E1] 29)).alloc (.cells #[.bool n2, .slice A2 c2 k2, .int .i64 E2] 29) = W2 at *
        generalize hG : w.heap.size = g0 at *
        have HG := Lib.hid hG
        clear hG
        have hg0a : g0 < g0 + 2 := by omega
        have hg0b : g0 + 1 < g0 + 2 := by omega
        go_region_held3 (fun w' => w'.cell? ⟨g0, 1, none⟩ = some (.slice A1 c1 k1) ∧ w'.cell? ⟨g0, 2, none⟩ = some (.int .i64 E1) ∧ w'.cell? ⟨g0 + 1, 1, none⟩ = some (.slice A2 c2 k2) ∧ w'.cell? ⟨g0 + 1, 2, none⟩ = some (.int .i64 E2))
          (first | exact ⟨x1, x2, x3, x4⟩ | exact ⟨(hb3.cell (p := ⟨g0, 1, none⟩) (by rw [hsw]; exact hg0a)).trans x1, (hb3.cell (p := ⟨g0, 2, none⟩) (by rw [hsw]; exact hg0a)).trans x2, (hb3.cell (p := ⟨g0 + 1, 1, none⟩) (by rw [hsw]; exact hg0b)).trans x3, (hb3.cell (p := ⟨g0 + 1, 2, none⟩) (by rw [hsw]; exact hg0b)).trans x4⟩)
          (first | (go_at_call 51; refine hl.mono ?_; rintro e w3 ⟨va, rfl, hma, hb3⟩))
        all_goals go_wp2_with fail
        all_goals go_ret3
        all_goals exact ⟨_, _, _, M, N * 2 ^ s, rfl, hm1.below hb3, hma, (by rw [HG.out]; exact hdr.trans (hb3.mono (by rw [hsw]; omega))), Or.inr (Or.inr (Or.inr ⟨hM0, hN0, by omega, rfl, by rw [HS.out], rfl⟩))⟩
end Go.Proofs.YtopilodakphhgaaGreatDoor
