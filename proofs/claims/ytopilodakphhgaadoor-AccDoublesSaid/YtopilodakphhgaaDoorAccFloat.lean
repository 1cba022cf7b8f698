/- A float64's parts: sign, significand, exponent; acc.split tells them. -/
import Derived.Test.YtopilodakphhgaaDoorAccPut
import Derived.Laws.BitsAllLaws
namespace Go.Proofs.YtopilodakphhgaaDoor
set_option linter.unusedVariables false
set_option linter.unusedSimpArgs false
open Go Go.RowKit
def fexp (u : Nat) : Nat := u / 4503599627370496 % 2048
def fman (u : Nat) : Nat := u % 4503599627370496
def fneg (u : Nat) : Bool := u / 9223372036854775808 == 1
/-- A number's significand, and the power of 2 of its lowest bit. -/
def sig (u : Nat) : Nat := if fexp u = 0 then fman u else fman u + 4503599627370496
def pwr (u : Nat) : Int := if fexp u = 0 then -1074 else (fexp u : Int) - 1075
theorem fexp_lt (u : Nat) : fexp u < 2048 := Nat.mod_lt _ (by decide)
theorem fman_lt (u : Nat) : fman u < 4503599627370496 := Nat.mod_lt _ (by decide)
theorem and_exp (u : Nat) (hu : u < B64) : bits .and .u64 ((u : Int) / 4503599627370496) 2047 = (fexp u : Nat) := by
  have h := u64_and_nat (u / 4503599627370496) 2047 (Nat.lt_of_le_of_lt (Nat.div_le_self _ _) hu) (by decide)
  have e : u / 4503599627370496 &&& 2047 = fexp u := Nat.and_two_pow_sub_one_eq_mod _ 11
  rw [e] at h
  exact h
theorem and_man (u : Nat) (hu : u < B64) : bits .and .u64 (u : Int) 4503599627370495 = (fman u : Nat) := by
  have h := u64_and_nat u 4503599627370495 hu (by decide)
  have e : u &&& 4503599627370495 = fman u := Nat.and_two_pow_sub_one_eq_mod _ 52
  rw [e] at h
  exact h
theorem or_man (m : Nat) (hm : m < 4503599627370496) : bits .or .u64 (m : Int) 4503599627370496 = ((m + 4503599627370496 : Nat) : Int) := by
  have h := u64_or_nat m 4503599627370496 (by omega) (by decide)
  have e : m ||| 4503599627370496 = m + 4503599627370496 := by
    have := Nat.two_pow_add_eq_or_of_lt (i := 52) hm 1
    rw [Nat.or_comm] at this
    rw [show m + 4503599627370496 = 2 ^ 52 * 1 + m by omega, this]
  rw [e] at h
  exact h
theorem run_bits (b : Nat) (w : World) : Sem.run Tryd.prog (callFunc 28 #[.float .f64 b]) w = .ok (.value (.int .u64 b)) w := by kernel_rfl
theorem run_float (n : Int) (w : World) : Sem.run Tryd.prog (callFunc 27 #[.int .u64 n]) w = .ok (.value (.float .f64 n.toNat)) w := by kernel_rfl
theorem bits_any (u : Nat) (w : World) : Calls Tryd.prog 10 #[.float .f64 u] w fun e w' => e = .returned (.int .u64 u) ∧ w = w' := by
  have hrb := run_bits
  go_enter Tryd.func10, Tryd.ntmps10
  go_wp2
  go_ret
  exact ⟨rfl, rfl⟩
theorem float_any (n : Int) (w : World) : Calls Tryd.prog 7 #[.int .u64 n] w fun e w' => e = .returned (.float .f64 n.toNat) ∧ w = w' := by
  have hrf := run_float
  go_enter Tryd.func7, Tryd.ntmps7
  go_wp2
  go_ret
  exact ⟨rfl, rfl⟩
theorem split_num (u : Nat) (hu : u < B64) (he : fexp u ≠ 2047) (w : World) :
    Calls Tryd.prog 42 #[.float .f64 u] w fun e w' => e = .returned (.tuple #[.bool (fneg u), .int .u64 (sig u : Nat), .int .i64 (pwr u), .bool true]) ∧ w = w' := by
  have h1 := and_exp u hu
  have h2 := and_man u hu
  have h3 := or_man (fman u) (fman_lt u)
  have h4 := fexp_lt u
  have h5 := fman_lt u
  have h6 : ((fexp u : Nat) == (2047 : Int)) = false := by rw [beq_eq_false_iff_ne]; omega
  have hu' : u ≤ 18446744073709551615 := by unfold B64 at hu; omega
  have hn : (((u : Int) / 9223372036854775808) == 1) = fneg u := by unfold fneg; rw [Bool.eq_iff_iff, beq_iff_eq, beq_iff_eq]; omega
  by_cases h0 : fexp u = 0
  · have h7 : ((fexp u : Nat) == (0 : Int)) = true := by rw [beq_iff_eq]; omega
    have hs : sig u = fman u := if_pos h0
    have hp : pwr u = -1074 := if_pos h0
    have Hs := Lib.hid hs
    have Hp := Lib.hid hp
    clear hs hp h0
    go_enter Tryd.func42, Tryd.ntmps42
    go_wp2_with (go_at_call 10; refine (bits_any u _).mono ?_; rintro e w' ⟨rfl, rfl⟩)
    refine bodyPost_ret (v := .tuple #[.bool (fneg u), .int .u64 (fman u : Nat), .int .i64 (-1074), .bool true]) (by simp [results, Tryd.results42, go_sem]) rfl ⟨?_, rfl⟩
    rw [Hs.out, Hp.out]
  · have h7 : ((fexp u : Nat) == (0 : Int)) = false := by rw [beq_eq_false_iff_ne]; omega
    have hs : sig u = fman u + 4503599627370496 := if_neg h0
    have hp : pwr u = (fexp u : Int) - 1075 := if_neg h0
    have Hs := Lib.hid hs
    have Hp := Lib.hid hp
    clear hs hp h0
    go_enter Tryd.func42, Tryd.ntmps42
    go_wp2_with (go_at_call 10; refine (bits_any u _).mono ?_; rintro e w' ⟨rfl, rfl⟩)
    refine bodyPost_ret (v := .tuple #[.bool (fneg u), .int .u64 ((fman u : Nat) + 4503599627370496), .int .i64 ((fexp u : Nat) - 1075), .bool true]) (by simp [results, Tryd.results42, go_sem]) rfl ⟨?_, rfl⟩
    rw [Hs.out, Hp.out]
    rfl
theorem split_none (u : Nat) (hu : u < B64) (he : fexp u = 2047) (w : World) :
    Calls Tryd.prog 42 #[.float .f64 u] w fun e w' => e = .returned (.tuple #[.bool false, .int .u64 0, .int .i64 0, .bool false]) ∧ w = w' := by
  have h1 := and_exp u hu
  have h2 := and_man u hu
  have hu' : u ≤ 18446744073709551615 := by unfold B64 at hu; omega
  rw [he] at h1
  clear he
  go_enter Tryd.func42, Tryd.ntmps42
  go_wp2_with (go_at_call 10; refine (bits_any u _).mono ?_; rintro e w' ⟨rfl, rfl⟩)
  refine bodyPost_ret (v := .tuple #[.bool false, .int .u64 0, .int .i64 0, .bool false]) (by simp [results, Tryd.results42, go_sem]) rfl ⟨rfl, rfl⟩
theorem split_any (u : Nat) (hu : u < B64) (w : World) :
    Calls Tryd.prog 42 #[.float .f64 u] w fun e w' => (∃ (s : Bool) (m : Nat) (x : Int), e = .returned (.tuple #[.bool s, .int .u64 (m : Nat), .int .i64 x, .bool (fexp u != 2047)])) ∧ w = w' := by
  by_cases h : fexp u = 2047
  · exact (split_none u hu h w).mono fun e w' ⟨he, hw⟩ => ⟨⟨false, 0, 0, by rw [h]; exact he⟩, hw⟩
  · exact (split_num u hu h w).mono fun e w' ⟨he, hw⟩ => ⟨⟨_, _, _, by rw [bne_iff_ne.2 h]; exact he⟩, hw⟩
theorem sig_lt (u : Nat) : sig u < 9007199254740992 := by
  have := fman_lt u
  unfold sig
  split <;> omega
theorem pwr_ge (u : Nat) : -1074 ≤ pwr u := by
  unfold pwr
  split
  · omega
  · have := fexp_lt u; omega
theorem pwr_le (u : Nat) (h : fexp u ≠ 2047) : pwr u ≤ 971 := by
  have := fexp_lt u
  unfold pwr
  split <;> omega
end Go.Proofs.YtopilodakphhgaaDoor
