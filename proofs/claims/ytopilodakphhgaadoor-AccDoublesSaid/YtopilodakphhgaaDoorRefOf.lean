/- ambitref2.Of: a float's number. -/
import Derived.Test.YtopilodakphhgaaDoorRefLeft
namespace Go.Proofs.YtopilodakphhgaaDoor
set_option linter.unusedVariables false
set_option linter.unusedSimpArgs false
open Go Go.RowKit
set_option maxRecDepth 100000
theorem two_limbs (w : World) (m : Nat) : V32 (w.alloc (.cells #[.int .u32 (dg m 0 : Nat), .int .u32 (dg m 1 : Nat)] 64)) w.heap.size 2 0 2 (dg m) := by
  refine ⟨_, heap_alloc_new w _, rfl, fun j _ hj => ?_⟩
  have : j = 0 ∨ j = 1 := by omega
  rcases this with rfl | rfl <;> rfl
theorem NL32_le {n M L : Nat} (h : NL32 n M) (hM : M < W32 ^ L) : n ≤ L := by
  refine Nat.le_of_not_lt fun hgt => ?_
  have h1 := h.2 (by omega)
  have h2 : W32 ^ L ≤ W32 ^ (n - 1) := Nat.pow_le_pow_right W32_pos (by omega)
  omega
set_option maxHeartbeats 2000000 in
theorem Of_num (w : World) (u : Nat) (hu : u < B64) (he : fexp u ≠ 2047) (hs : sig u ≠ 0) :
    Calls Tryd.prog 13 #[.int .u64 (u : Nat)] w fun e w' => ∃ v, e = .returned (.tuple #[.agg #[.bool (fneg u), v, .int .i64 (pwr u)], .bool true]) ∧ MagIs w' v (sig u) ∧ Below w.heap.size w w' := by
  have h1 := and_exp u hu
  have h2 := and_man u hu
  have hul : (u : Int) ≤ 18446744073709551615 := by unfold B64 at hu; omega
  have hel := fexp_lt u
  have hml := fman_lt u
  have hsl := sig_lt u
  have hneg : ((u : Int) / 9223372036854775808 == 1) = fneg u := by
    unfold fneg
    rw [Bool.eq_iff_iff, beq_iff_eq, beq_iff_eq]; omega
  have hne : (((fexp u : Nat) : Int) == 2047) = false := by rw [beq_eq_false_iff_ne]; omega
  obtain ⟨s, hss⟩ : ∃ s, s = sig u := ⟨_, rfl⟩
  have hs0 : ((s : Int) == 0) = false := by rw [beq_eq_false_iff_ne]; omega
  have hd0 : IntKind.u32.wrap (s : Int) = ((dg s 0 : Nat) : Int) := by
    rw [IntKind.wrap_u32]
    unfold dg
    rw [Nat.pow_zero, Nat.div_one]; rfl
  have hd1 : (s : Int) / 4294967296 = ((dg s 1 : Nat) : Int) := by
    unfold dg
    rw [Nat.pow_one, Nat.mod_eq_of_lt]
    · rfl
    · rw [hss]; unfold W32; omega
  have hd1l := dg_le s 1
  have hsW : s < W32 ^ 2 := by rw [hss]; exact Nat.lt_trans hsl (by decide)
  rw [← hss]
  rw [← hss] at hsl
  have hV : ∀ (w : World) (ob : Obj), V32 ((w.alloc ob).alloc (.cells #[.int .u32 (dg s 0 : Nat), .int .u32 (dg s 1 : Nat)] 64)) (w.heap.size + 1) 2 0 2 (dg s) := fun w ob => by
    have := two_limbs (w.alloc ob) s
    rw [show (w.alloc ob).heap.size = w.heap.size + 1 by simp] at this
    exact this
  by_cases h0 : fexp u = 0
  · have hsm : fman u = s := by rw [hss]; unfold sig; rw [if_pos h0]
    have hp : pwr u = -1074 := if_pos h0
    rw [hp]
    rw [h0] at h1 hne
    rw [hsm] at h2
    clear hss hs he h0 hel hml hsm hp
    generalize fneg u = ng at *
    go_enter Tryd.func13, Tryd.ntmps13
    go_wp2_with fail
    refine (trim_row _ _ 2 2 s (hV w _) hsW (Nat.le_refl _) (by decide)).mono ?_
    rintro e w1 ⟨⟨k, hk, hnl, rfl⟩, rfl⟩
    go_wp2_with fail
    go_returns
    refine ⟨_, rfl, ?_, ?_⟩
    · exact Or.inr ⟨_, k, 2, rfl, hk, by decide, hnl, (hV w _).weaken fun j a b => ⟨a, by omega, rfl⟩⟩
    · exact (below_alloc w _).trans ((below_alloc _ _).mono (by simp))
  · have hsm : fman u + 4503599627370496 = s := by rw [hss]; unfold sig; rw [if_neg h0]
    have hor := or_man (fman u) hml
    rw [hsm] at hor
    have hp : pwr u = (fexp u : Int) - 1075 := if_neg h0
    have he0 : (0 : Int) < ((fexp u : Nat) : Int) := by omega
    have he0' : 0 < fexp u := by omega
    rw [hp]
    clear hss hs he h0 hsm hp
    generalize fneg u = ng at *
    generalize fexp u = ex at *
    generalize fman u = mn at *
    go_enter Tryd.func13, Tryd.ntmps13
    go_wp2_with fail
    refine (trim_row _ _ 2 2 s (hV w _) hsW (Nat.le_refl _) (by decide)).mono ?_
    rintro e w1 ⟨⟨k, hk, hnl, rfl⟩, rfl⟩
    go_wp2_with fail
    go_returns
    refine ⟨_, rfl, ?_, ?_⟩
    · exact Or.inr ⟨_, k, 2, rfl, hk, by decide, hnl, (hV w _).weaken fun j a b => ⟨a, by omega, rfl⟩⟩
    · exact (below_alloc w _).trans ((below_alloc _ _).mono (by simp))
end Go.Proofs.YtopilodakphhgaaDoor
