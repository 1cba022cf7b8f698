/- ambitref2.Next, up: the number told up of a little more. -/
import Derived.Test.YtopilodakphhgaaGreatDoorRefCmp
namespace Go.Proofs.YtopilodakphhgaaGreatDoor
set_option linter.unusedVariables false
set_option linter.unusedSimpArgs false
open Go Go.RowKit
set_option maxRecDepth 100000
theorem cap2 (a b : Int) (ha : a.natAbs < LIM) (hb : b.natAbs < LIM) : (a + b).natAbs < W32 ^ 400 := by
  have h3 : (a + b).natAbs ≤ a.natAbs + b.natAbs := Int.natAbs_add_le _ _
  obtain ⟨k, hk, hL⟩ := LIM_pow
  have h4 : ∀ m : Nat, k + 1 ≤ 32 * m → 2 * LIM ≤ W32 ^ m := fun m hm => by
    rw [hL, W32_two, Nat.mul_comm, ← Nat.pow_succ]
    exact Nat.pow_le_pow_right (by decide) (by omega)
  have h5 := h4 400 (by omega)
  generalize W32 ^ 400 = T at h5 ⊢
  omega
theorem STEP_LIM : (STEP : Int).natAbs < LIM := by
  obtain ⟨k, hk, hL⟩ := LIM_pow
  rw [hL, Int.natAbs_natCast]
  exact STEP_lt k (by omega)
/-- One limb, 1, at 2^-1080. -/
theorem step_num (w : World) : NumIs (w.alloc (.cells #[.int .u32 1] 68)) false (.slice (some ⟨w.heap.size, 0, none⟩) 1 1) (-1080) (STEP : Int) := by
  rw [NumIs.def']
  refine ⟨1, Or.inr ⟨w.heap.size, 1, 1, rfl, Nat.le_refl _, by decide, ⟨by decide, fun _ => by decide⟩, ?_⟩, fun h => absurd h (by decide), by decide, by decide, ?_, ?_⟩
  · refine ⟨#[.int .u32 1], heap_alloc_new w _, rfl, fun j _ hj => ?_⟩
    have : j = 0 := by omega
    subst this
    rfl
  · have hk : ∀ k : Nat, 1 ≤ k → 1 < W32 ^ k := fun k hk => by
      have h1 : W32 ^ 1 ≤ W32 ^ k := Nat.pow_le_pow_right W32_pos hk
      have h2 : 1 < W32 ^ 1 := by decide
      omega
    exact hk 400 (by decide)
  · have he : ∀ e : Nat, e = expS → (STEP : Int) = sgn false (1 * 2 ^ e) := fun e he => by
      rw [he, Nat.one_mul]; rfl
    exact he _ rfl
set_option maxHeartbeats 4000000 in
theorem Next_up (w : World) (u : Nat) (hu : u < B64) (he : fexp u ≠ 2047) :
    Calls Tryz.prog 19 #[.int .i64 1, .int .u64 (u : Nat)] w fun e w' => e = .returned (.tuple #[.int .u64 ((roundS 1 (some (fz u + STEP))).1 : Nat), .bool (roundS 1 (some (fz u + STEP))).2]) ∧ Below w.heap.size w w' := by
  have hul : (u : Int) ≤ 18446744073709551615 := by unfold B64 at hu; omega
  have hof := Of_any w u hu
  have hcap := cap2 (fz u) STEP (fz_cap u he) STEP_LIM
  have heb : (fexp u != 2047) = true := by rw [bne_iff_ne]; exact he
  rw [heb] at hof
  clear hu heb
  go_enter Tryz.func19, Tryz.ntmps19
  go_wp2_with fail
  refine hof.mono ?_
  rintro e w3 ⟨ng, v, E, rfl, hof3, b3, A, n, cap, rfl, _⟩
  have hn3 := (hof3 he).num he
  have b4 := below_alloc w3 (.cells #[.bool ng, .slice A n cap, .int .i64 E] 29)
  have q4 := heap_alloc_new w3 (.cells #[.bool ng, .slice A n cap, .int .i64 E] 29)
  have s4 : (w3.alloc (.cells #[.bool ng, .slice A n cap, .int .i64 E] 29)).heap.size = w3.heap.size + 1 := by simp
  have hn4 := hn3.below b4
  have c4 := b3.trans (b4.mono b3.size)
  have hge := b3.size
  clear hof hof3 hn3 b3 b4 he
  go_upto_region 4 with fail
  generalize w3.alloc (.cells #[.bool ng, .slice A n cap, .int .i64 E] 29) = W4 at *
  have b5 := below_alloc W4 (.cells #[.int .u32 1] 68)
  have hst := step_num W4
  rw [s4] at hst
  have q5 := (b5.block w3.heap.size (by omega)).trans q4
  have hn5 := hn4.below b5
  have c5 := c4.trans (b5.mono c4.size)
  have s5 : (W4.alloc (.cells #[.int .u32 1] 68)).heap.size = W4.heap.size + 1 := by simp
  have b6 := below_alloc (W4.alloc (.cells #[.int .u32 1] 68)) (.cells #[.bool false, .slice (some ⟨w3.heap.size + 1, 0, none⟩) 1 1, .int .i64 (-1080)] 29)
  have q6 := (b6.block w3.heap.size (by omega)).trans q5
  have hn6 := hn5.below b6
  have hst6 := hst.below b6
  have c6 := c5.trans (b6.mono c5.size)
  obtain ⟨x0, x1, x2⟩ := cells3 q6
  obtain ⟨y0, y1, y2⟩ := cells3 (heap_alloc_new (W4.alloc (.cells #[.int .u32 1] 68)) (.cells #[.bool false, .slice (some ⟨w3.heap.size + 1, 0, none⟩) 1 1, .int .i64 (-1080)] 29))
  rw [s5, s4] at y0 y1 y2
  have hz6 : w3.heap.size < ((W4.alloc (.cells #[.int .u32 1] 68)).alloc (.cells #[.bool false, .slice (some ⟨w3.heap.size + 1, 0, none⟩) 1 1, .int .i64 (-1080)] 29)).heap.size := by simp; omega
  clear q4 q5 hn4 hn5 hst c4 c5 b5 b6 s5
  go_upto_region 7 with fail
  generalize (W4.alloc (.cells #[.int .u32 1] 68)).alloc (.cells #[.bool false, .slice (some ⟨w3.heap.size + 1, 0, none⟩) 1 1, .int .i64 (-1080)] 29) = W6 at *
  have hpl := plus_num W6 _ _ _ _ _ _ (fz u) STEP hn6 hst6 hcap
  go_wp2_with fail
  refine hpl.mono ?_
  rintro e w7 ⟨ns, vs, Es, rfl, hm7, b7⟩
  obtain ⟨As, cs, ks, rfl, hcs⟩ := hm7.form
  have q7 := (b7.block w3.heap.size hz6).trans q6
  have c7 := c6.trans (b7.mono c6.size)
  obtain ⟨z0, z1, z2⟩ := cells3 q7
  have hfr : ∀ j, w7.frozen? ⟨w3.heap.size, j, none⟩ = false := fun j => frozen_of_row w7 _ j _ _ q7
  clear hpl hn6 hst6 x0 x1 x2 y0 y1 y2 q6 c6 b7
  go_upto_region 10 with fail
  obtain ⟨hg9, hgr9⟩ := set3 q7 (.bool ns) (.slice As cs ks) (.int .i64 Es)
  have hm9 : NumIs ((w7.setCell ⟨w3.heap.size, 0, none⟩ (.bool ns)).setCell ⟨w3.heap.size, 1, none⟩ (.slice As cs ks) |>.setCell ⟨w3.heap.size, 2, none⟩ (.int .i64 Es)) ns (.slice As cs ks) Es (fz u + STEP) := by
    obtain ⟨M, hm, hr⟩ := hm7
    exact ⟨M, hm.other q7 hgr9, hr⟩
  have hb9 := c7.trans (below_of_grown' hgr9 c7.size hge)
  generalize ((w7.setCell ⟨w3.heap.size, 0, none⟩ (.bool ns)).setCell ⟨w3.heap.size, 1, none⟩ (.slice As cs ks)).setCell ⟨w3.heap.size, 2, none⟩ (.int .i64 Es) = W9 at *
  obtain ⟨j0, j1, j2⟩ := cells3 hg9
  have hrd := refRound_any W9 1 ns (.slice As cs ks) Es _ hm9 (by decide) (by decide)
  clear hm9 hg9 hgr9 hm7 q7 z0 z1 z2 hfr
  go_wp2_with fail
  refine hrd.mono ?_
  rintro e w10 ⟨rfl, b10⟩
  go_wp2_with fail
  go_ret2
  exact ⟨rfl, hb9.trans (b10.mono hb9.size)⟩
end Go.Proofs.YtopilodakphhgaaGreatDoor
