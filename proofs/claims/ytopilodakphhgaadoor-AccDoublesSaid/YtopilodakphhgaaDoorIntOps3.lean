/- math/big's Int: Bit 0, NewInt 1, Uint64, SetUint64. -/
import Derived.Test.YtopilodakphhgaaDoorIntOps
namespace Go.Proofs.YtopilodakphhgaaDoor
set_option linter.unusedVariables false
set_option linter.unusedSimpArgs false
open Go Go.RowKit
set_option maxRecDepth 100000
theorem NatIs.len_pos {w : World} {A : Option Addr} {n cap M : Nat} (h : NatIs w A n cap M) (hM : 0 < M) : 0 < n := by
  have h2 := h.1.1
  refine Nat.pos_of_ne_zero fun hz => ?_
  rw [hz, Nat.pow_zero] at h2
  omega
theorem NatIs.len_zero {w : World} {A : Option Addr} {n cap : Nat} (h : NatIs w A n cap 0) : n = 0 := by
  refine Nat.eq_zero_of_not_pos fun hz => ?_
  have := h.1.2 hz
  have := Bpow_pos (n - 1)
  omega
theorem wd_low (M : Nat) : wd M 0 = M % B64 := by unfold wd; rw [Nat.pow_zero, Nat.div_one]
theorem and1 (x : Nat) (h : x < B64) : bits .and .u64 (x : Int) 1 = ((x % 2 : Nat) : Int) := by
  have h1 := u64_and_nat x 1 (show x < 18446744073709551616 from h) (by decide)
  rw [show x &&& 1 = x % 2 from Nat.and_two_pow_sub_one_eq_mod _ 1] at h1
  exact h1
theorem int_bit (w : World) (p M : Nat) (h : IntIs w p M) :
    Calls Tryd.prog 53 #[.pointer (Option.some ⟨p, 0, none⟩), .int .i64 0] w fun e w' => e = .returned (.int .u64 ((M % 2 : Nat) : Int)) ∧ w' = w := by
  obtain ⟨A, n, cap, hq, hn⟩ := h
  obtain ⟨d0, d1, _, _⟩ := int_cells hq
  by_cases h0 : M = 0
  · subst h0
    obtain rfl := hn.len_zero
    go_enter Tryd.func53, Tryd.ntmps53
    go_wp2_with fail
    go_ret
    exact ⟨rfl, rfl⟩
  · have hl := hn.len_pos (by omega)
    obtain ⟨g, rfl, ha, hb, hv⟩ := natIs_row hn hl
    have hc := hv.cell 0 (Nat.le_refl _) hl
    have hw := and1 (wd M 0) (wd_lt M 0)
    have hl' : (0 : Int) < (n : Int) := by omega
    have HM := Lib.hid (show wd M 0 % 2 = M % 2 by rw [wd_low]; unfold B64; omega)
    clear hn
    go_enter Tryd.func53, Tryd.ntmps53
    go_wp2_with fail
    go_ret
    exact ⟨by rw [← HM.out]; rfl, rfl⟩
theorem low64_any (w : World) (A : Option Addr) (n cap M : Nat) (hn : NatIs w A n cap M) :
    Calls Tryd.prog 91 #[.slice A n cap] w fun e w' => e = .returned (.int .u64 ((M % B64 : Nat) : Int)) ∧ w' = w := by
  by_cases h0 : M = 0
  · subst h0
    obtain rfl := hn.len_zero
    go_enter Tryd.func91, Tryd.ntmps91
    go_wp2_with fail
    go_ret
    exact ⟨rfl, rfl⟩
  · have hl := hn.len_pos (by omega)
    obtain ⟨g, rfl, ha, hb, hv⟩ := natIs_row hn hl
    have hc := hv.cell 0 (Nat.le_refl _) hl
    have hl' : ((n : Int) == 0) = false := by rw [beq_eq_false_iff_ne]; omega
    have hl2 : (0 : Int) < (n : Int) := by omega
    have HM := Lib.hid (wd_low M)
    clear hn
    go_enter Tryd.func91, Tryd.ntmps91
    go_wp2_with fail
    go_ret
    exact ⟨by rw [← HM.out]; rfl, rfl⟩
theorem int_uint64 (w : World) (p M : Nat) (h : IntIs w p M) :
    Calls Tryd.prog 74 #[.pointer (Option.some ⟨p, 0, none⟩)] w fun e w' => e = .returned (.int .u64 ((M % B64 : Nat) : Int)) ∧ w' = w := by
  obtain ⟨A, n, cap, hq, hn⟩ := h
  obtain ⟨d0, d1, _, _⟩ := int_cells hq
  go_enter Tryd.func74, Tryd.ntmps74
  go_wp2_with fail
  refine (low64_any _ A n cap M hn).mono ?_
  rintro e w' ⟨rfl, rfl⟩
  go_wp2_with fail
  go_ret
  exact ⟨rfl, rfl⟩
theorem norm_one (M : Nat) (h0 : 0 < M) (h1 : M < B64) : NormLen 1 M := ⟨by rw [Nat.pow_one]; exact h1, fun _ => by rw [Nat.sub_self, Nat.pow_zero]; exact h0⟩
theorem wd_self (M : Nat) (h1 : M < B64) : wd M 0 = M := by rw [wd_low, Nat.mod_eq_of_lt h1]
/-- A row made by NewInt: one word. -/
theorem newInt_one (w : World) :
    Calls Tryd.prog 51 #[.int .i64 1] w fun e w' => (∃ p, w.heap.size ≤ p ∧ e = .returned (.pointer (Option.some ⟨p, 0, none⟩)) ∧ IntIs w' p 1) ∧ Below w.heap.size w w' := by
  go_enter Tryd.func51, Tryd.ntmps51
  go_wp2_with fail
  go_ret
  refine ⟨⟨w.heap.size + 1, by omega, rfl, some ⟨w.heap.size, 0, none⟩, 1, 1, heap_alloc2_new w _ _, norm_one 1 (by decide) (by decide), Or.inr ⟨w.heap.size, rfl, by omega, by omega, _, heap_alloc2_old w _ _, rfl, fun j _ hj => ?_⟩⟩, ((Below.refl _ _).alloc (Nat.le_refl _) _).alloc (by simp) _⟩
  obtain rfl : j = 0 := by omega
  rw [wd_self 1 (by decide)]; rfl
end Go.Proofs.YtopilodakphhgaaDoor
