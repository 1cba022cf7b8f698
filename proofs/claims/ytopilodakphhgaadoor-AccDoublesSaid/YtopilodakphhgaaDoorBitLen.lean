/- (nat).bitLen, (*Int).BitLen. -/
import Derived.Test.YtopilodakphhgaaDoorIntOps3
import Derived.Test.YtopilodakphhgaaDoorShelf
import Derived.Lib.ItoaNum
namespace Go.Proofs.YtopilodakphhgaaDoor
set_option linter.unusedVariables false
set_option linter.unusedSimpArgs false
open Go Go.RowKit
set_option maxRecDepth 100000
/-- M has k bits. -/
def IsLen (k M : Nat) : Prop := M < 2 ^ k ∧ (0 < k → 2 ^ (k - 1) ≤ M)
theorem IsLen.unique {k l M : Nat} (h : IsLen k M) (h' : IsLen l M) : k = l := by
  rcases Nat.lt_trichotomy k l with hl | hl | hl
  · have h1 := h'.2 (by omega)
    have h2 := Nat.pow_le_pow_right (show 0 < 2 by decide) (show k ≤ l - 1 by omega)
    have h3 := h.1
    omega
  · exact hl
  · have h1 := h.2 (by omega)
    have h2 := Nat.pow_le_pow_right (show 0 < 2 by decide) (show l ≤ k - 1 by omega)
    have h3 := h'.1
    omega
theorem IsLen.zero : IsLen 0 0 := ⟨by decide, fun h => absurd h (Nat.lt_irrefl 0)⟩
theorem isLen_bitLen (x : Nat) (h : x < B64) : IsLen (Lib.bitLen x) x := by
  by_cases h0 : x = 0
  · subst h0
    rw [show Lib.bitLen 0 = 0 by decide]
    exact IsLen.zero
  · obtain ⟨a, b, c⟩ := Lib.bitLenAux_bounds 64 x h h0
    exact ⟨c, fun _ => b⟩
/-- A word that has t's bits, and more below. -/
theorem smear_step (t s L : Nat) (d : Int) (hd : d = ((2 ^ s : Nat) : Int)) (h : IsLen L t) (hL : L ≤ 64) : ∃ t' : Nat, bits .or .u64 (t : Int) ((t : Int) / d) = (t' : Int) ∧ IsLen L t' := by
  subst hd
  have h64 := Nat.pow_le_pow_right (show 0 < 2 by decide) hL
  have h1 := h.1
  have hd : t / 2 ^ s ≤ t := Nat.div_le_self _ _
  have h2 : t < 18446744073709551616 := by omega
  refine ⟨t ||| t / 2 ^ s, ?_, Nat.or_lt_two_pow h1 (by omega), fun hk => Nat.le_trans (h.2 hk) Nat.left_le_or⟩
  rw [← Int.natCast_ediv]
  exact u64_or_nat t (t / 2 ^ s) h2 (by omega)
theorem len_words (M n L : Nat) (h0 : 0 < n) (hM : M < B64 ^ n) (h : IsLen L (wd M (n - 1))) (hL : 0 < L) : IsLen (64 * (n - 1) + L) M := by
  obtain ⟨m, rfl⟩ : ∃ m, n = m + 1 := ⟨n - 1, by omega⟩
  rw [Nat.add_sub_cancel] at *
  have h1 := wd_add M m
  rw [Nat.mod_eq_of_lt hM] at h1
  have h2 := Nat.mod_lt M (Bpow_pos m)
  have h3 := h.1
  have h4 := h.2 hL
  rw [B64_pow] at *
  refine ⟨?_, fun _ => ?_⟩
  · rw [Nat.pow_add]
    have : (wd M m + 1) * 2 ^ (64 * m) ≤ 2 ^ L * 2 ^ (64 * m) := Nat.mul_le_mul_right _ h3
    rw [Nat.add_mul, Nat.one_mul, Nat.mul_comm (2 ^ L)] at this
    omega
  · rw [show 64 * m + L - 1 = 64 * m + (L - 1) by omega, Nat.pow_add]
    have : 2 ^ (L - 1) * 2 ^ (64 * m) ≤ wd M m * 2 ^ (64 * m) := Nat.mul_le_mul_right _ h4
    rw [Nat.mul_comm (2 ^ (L - 1))] at this
    omega
theorem wd_top_pos (M n : Nat) (h0 : 0 < n) (h : NormLen n M) : 0 < wd M (n - 1) := by
  refine Nat.pos_of_ne_zero fun hz => ?_
  have h1 := norm_step (n - 1) M (by rw [show n - 1 + 1 = n by omega]; exact h.1) hz
  have h2 := h.2 h0
  omega
set_option maxHeartbeats 1000000 in
theorem bitLen_any (w : World) (A : Option Addr) (n cap M k : Nat) (hn : NatIs w A n cap M) (hk : IsLen k M) (hm : n ≤ 50000) :
    Calls Tryd.prog 66 #[.slice A n cap] w fun e w' => e = .returned (.int .i64 (k : Nat)) ∧ w' = w := by
  by_cases h0 : n = 0
  · subst h0
    have hz : M = 0 := by have := hn.1.1; rw [Nat.pow_zero] at this; omega
    subst hz
    obtain rfl := hk.unique IsLen.zero
    clear hn hk
    go_enter Tryd.func66, Tryd.ntmps66
    go_wp2_with fail
    go_ret
    exact ⟨rfl, rfl⟩
  · obtain ⟨g, rfl, ha, hb, hv⟩ := natIs_row hn (by omega)
    obtain ⟨m, rfl⟩ : ∃ m, n = m + 1 := ⟨n - 1, by omega⟩
    have hc := hv.cell m (Nat.zero_le _) (by omega)
    have htp := wd_top_pos M (m + 1) (by omega) hn.1
    have htl := wd_lt M m
    rw [Nat.add_sub_cancel] at htp
    obtain ⟨L, hL⟩ : ∃ L, L = Lib.bitLen (wd M m) := ⟨_, rfl⟩
    have hl0 := isLen_bitLen (wd M m) htl
    rw [← hL] at hl0
    have hL64 : L ≤ 64 := by
      refine Nat.le_of_not_lt fun hgt => ?_
      have h1 := hl0.2 (by omega)
      have h2 := Nat.pow_le_pow_right (show 0 < 2 by decide) (show 64 ≤ L - 1 by omega)
      unfold B64 at htl
      omega
    have hLp : 0 < L := by
      refine Nat.pos_of_ne_zero fun hz => ?_
      subst hz
      have := hl0.1
      rw [Nat.pow_zero] at this
      omega
    have HK := Lib.hid (hk.unique (len_words M (m + 1) L (by omega) hn.1.1 (by rw [Nat.add_sub_cancel]; exact hl0) hLp))
    clear hn hk hL htp
    generalize wd M m = t0 at *
    obtain ⟨t1, e1, l1⟩ := smear_step t0 1 L 2 rfl hl0 hL64
    obtain ⟨t2, e2, l2⟩ := smear_step t1 2 L 4 rfl l1 hL64
    obtain ⟨t3, e3, l3⟩ := smear_step t2 4 L 16 rfl l2 hL64
    obtain ⟨t4, e4, l4⟩ := smear_step t3 8 L 256 rfl l3 hL64
    obtain ⟨t5, e5, l5⟩ := smear_step t4 16 L 65536 rfl l4 hL64
    obtain ⟨t6, e6, l6⟩ := smear_step t5 32 L 4294967296 rfl l5 hL64
    rw [show (t5 : Int) / 4294967296 = (t5 : Int) / 65536 / 65536 by omega] at e6
    have h64 := Nat.pow_le_pow_right (show 0 < 2 by decide) hL64
    have hu6 : t6 < 18446744073709551616 := Nat.lt_of_lt_of_le l6.1 h64
    have HU := Lib.hid (l6.unique (isLen_bitLen t6 hu6))
    have hcall := Tryd.bits_Len (t6 : Int) w (by omega) (by omega)
    have HM := Lib.hid (show (m : Int) * 64 + (L : Nat) = ((64 * (m + 1 - 1) + L : Nat) : Int) by omega)
    rw [Int.toNat_natCast, ← HU.out] at hcall
    have hm1 : ((m + 1 : Nat) : Int) - 1 = (m : Nat) := by omega
    clear l1 l2 l3 l4 l5 l6 hl0
    go_enter Tryd.func66, Tryd.ntmps66
    go_wp2_with fail
    refine hcall.mono ?_
    rintro e w' ⟨rfl, rfl⟩
    go_wp2_with fail
    go_ret
    exact ⟨by rw [HK.out, ← HM.out]; rfl, rfl⟩
theorem int_bitLen (w : World) (p M k : Nat) (h : IntIs w p M) (hk : IsLen k M) (hM : k ≤ 1000000) :
    Calls Tryd.prog 47 #[.pointer (Option.some ⟨p, 0, none⟩)] w fun e w' => e = .returned (.int .i64 (k : Nat)) ∧ w' = w := by
  obtain ⟨A, n, cap, hq, hn⟩ := h
  obtain ⟨d0, d1, _, _⟩ := int_cells hq
  have hlen : n ≤ 50000 := by
    obtain ⟨K, hK⟩ : ∃ K, K = 50000 := ⟨_, rfl⟩
    rw [← hK]
    refine natIs_len hn (Nat.lt_of_lt_of_le hk.1 ?_)
    rw [B64_pow]
    exact Nat.pow_le_pow_right (by decide) (by omega)
  go_enter Tryd.func47, Tryd.ntmps47
  go_wp2_with fail
  refine (bitLen_any _ A n cap M k hn hk hlen).mono ?_
  rintro e w' ⟨rfl, rfl⟩
  go_wp2_with fail
  go_ret
  exact ⟨rfl, rfl⟩
end Go.Proofs.YtopilodakphhgaaDoor
