/- ambitref2: length, word, Sign, Size, Moved, Length. -/
import Derived.Test.YtopilodakphhgaaDoorRefBase
import Derived.Test.YtopilodakphhgaaDoorTold
import Derived.Handy
namespace Go.Proofs.YtopilodakphhgaaDoor
set_option linter.unusedVariables false
set_option linter.unusedSimpArgs false
open Go Go.RowKit
set_option maxRecDepth 100000
theorem blen_32 (M n L : Nat) (h : M / W32 ^ n < W32) (hL : IsLen L (M / W32 ^ n)) (h0 : 0 < L) : IsLen (32 * n + L) M := by
  have h1 := hL.1
  have h2 := hL.2 h0
  have hp := W32_pow n
  constructor
  · rw [Nat.pow_add, ← W32_two]
    have := Nat.lt_mul_div_succ M hp
    have h3 : W32 ^ n * (M / W32 ^ n + 1) ≤ W32 ^ n * 2 ^ L := Nat.mul_le_mul_left _ h1
    omega
  · intro _
    rw [show 32 * n + L - 1 = 32 * n + (L - 1) by omega, Nat.pow_add, ← W32_two]
    have h3 : W32 ^ n * 2 ^ (L - 1) ≤ W32 ^ n * (M / W32 ^ n) := Nat.mul_le_mul_left _ h2
    have h4 := Nat.mul_div_le M (W32 ^ n)
    omega
theorem dg_top (M n : Nat) (h : M < W32 ^ (n + 1)) : dg M n = M / W32 ^ n := by
  unfold dg
  rw [Nat.mod_eq_of_lt]
  rw [Nat.div_lt_iff_lt_mul (W32_pow n), Nat.mul_comm, ← Nat.pow_succ]
  exact h
theorem half_pow (T j : Nat) : T / 2 ^ j / 2 = T / 2 ^ (j + 1) := by rw [Nat.div_div_eq_div_mul, ← Nat.pow_succ]
set_option maxHeartbeats 1000000 in
theorem length_any (w : World) (v : Value) (M : Nat) (h : MagIs w v M) :
    Calls Tryd.prog 33 #[v] w fun e w' => e = .returned (.int .i64 (blen M : Nat)) ∧ w' = w := by
  rcases h with ⟨rfl, rfl⟩ | ⟨g, n, cap, rfl, hn, hc, hl, hv⟩
  · go_enter Tryd.func33, Tryd.ntmps33
    go_wp2_with fail
    go_ret
    have : blen 0 = 0 := (isLen_blen 0).unique IsLen.zero
    rw [this]
    exact ⟨rfl, rfl⟩
  · by_cases h0 : n = 0
    · subst h0
      have hM := (nl32_zero 0 M hl).1 rfl
      subst hM
      go_enter Tryd.func33, Tryd.ntmps33
      go_wp2_with fail
      go_ret
      have : blen 0 = 0 := (isLen_blen 0).unique IsLen.zero
      rw [this]
      exact ⟨rfl, rfl⟩
    · obtain ⟨m, rfl⟩ : ∃ m, n = m + 1 := ⟨n - 1, by omega⟩
      have hn0 : (((m + 1 : Nat) : Int) == 0) = false := by rw [beq_eq_false_iff_ne]; omega
      have hn1 : ((m : Int) + 1 == 0) = false := by rw [beq_eq_false_iff_ne]; omega
      have hcell := hv.cell m (Nat.zero_le _) (by omega)
      have hT := dg_top M m hl.1
      have hTl := dg_le M m
      have hT1 : 0 < dg M m := by
        rw [hT]
        have := hl.2 (by omega)
        exact Nat.div_pos this (W32_pow m)
      have HT := Lib.hid hT
      clear hT hl hv
      go_enter Tryd.func33, Tryd.ntmps33
      go_wp2_with fail
      clear hcell hn0 hn1
      generalize hTT : dg M m = T at *
      have HTT := Lib.hid hTT
      clear hTT
      go_loop [3, 4] (fun i x => ∃ j X : Nat, j ≤ 32 ∧ i = .int .i64 ((32 * m + j : Nat) : Int) ∧ x = .int .u32 (X : Int) ∧ X = T / 2 ^ j ∧ (j = 0 ∨ 0 < T / 2 ^ (j - 1))) (fun _ x => (intOf x).toNat)
      case atStart => exact ⟨0, T, by omega, by congr 1, rfl, by rw [Nat.pow_zero, Nat.div_one], Or.inl rfl⟩
      case round =>
        obtain ⟨j, X, hj, rfl, rfl, hX, hp⟩ := hrel
        have hXT : X ≤ 4294967295 := by rw [hX]; exact Nat.le_trans (Nat.div_le_self _ _) hTl
        by_cases hz : 0 < X
        · have hj32 : j < 32 := by
            refine Nat.lt_of_not_le fun hge => ?_
            have h1 : T / 2 ^ j = 0 := Nat.div_eq_of_lt (Nat.lt_of_lt_of_le (show T < 2 ^ 32 by omega) (Nat.pow_le_pow_right (by decide) hge))
            omega
          have hz' : (0 : Int) < (X : Int) := by omega
          have hhalf : X / 2 = T / 2 ^ (j + 1) := by rw [hX]; exact half_pow T j
          have HX := Lib.hid hX
          have HH := Lib.hid hhalf
          clear hX hhalf hp
          go_wp2_with fail
          go_round
          case rel => exact ⟨j + 1, X / 2, by omega, by go_num, by go_num, HH.out, Or.inr (by rw [Nat.add_sub_cancel, ← HX.out]; exact hz)⟩
          case measure => simp [intOf]; omega
        · obtain rfl : X = 0 := by omega
          have HX := Lib.hid hX
          have HP := Lib.hid hp
          clear hX hp
          go_wp2_with fail
          go_ret
          have hlen : IsLen j T := by
            constructor
            · have := HX.out
              have h2 := Nat.lt_mul_div_succ T (Nat.two_pow_pos j)
              rw [← this] at h2
              omega
            · intro hj0
              rcases HP.out with h1 | h1
              · omega
              · have h2 := Nat.mul_div_le T (2 ^ (j - 1))
                have h3 : 2 ^ (j - 1) * 1 ≤ 2 ^ (j - 1) * (T / 2 ^ (j - 1)) := Nat.mul_le_mul_left _ h1
                omega
          have hj0 : 0 < j := by
            refine Nat.pos_of_ne_zero fun e => ?_
            subst e
            have := hlen.1
            rw [Nat.pow_zero] at this
            omega
          have hTM : T = M / W32 ^ m := HT.out
          have hfin := blen_32 M m j (by rw [← hTM]; unfold W32; omega) (by rw [← hTM]; exact hlen) hj0
          rw [(isLen_blen M).unique hfin]
          exact ⟨rfl, rfl⟩
theorem MagIs.form {w : World} {v : Value} {M : Nat} (h : MagIs w v M) : ∃ A n cap, v = .slice A n cap ∧ n ≤ 1000000 ∧ (n = 0 ↔ M = 0) := by
  rcases h with ⟨rfl, rfl⟩ | ⟨g, n, cap, rfl, hn, hc, hl, hv⟩
  · exact ⟨none, 0, 0, rfl, by omega, by simp⟩
  · exact ⟨_, n, cap, rfl, by omega, nl32_zero n M hl⟩
theorem below_alloc (w : World) (o : Obj) : Below w.heap.size w (w.alloc o) := (Below.refl _ _).alloc (Nat.le_refl _) _
theorem Length_any (w : World) (neg : Bool) (v : Value) (M : Nat) (E : Int) (h : MagIs w v M) :
    Calls Tryd.prog 17 #[.agg #[.bool neg, v, .int .i64 E]] w fun e w' => e = .returned (.int .i64 (blen M : Nat)) ∧ Below w.heap.size w w' := by
  have hl := fun w1 h1 => length_any w1 v M (h.below (w1 := w1) h1)
  go_enter Tryd.func17, Tryd.ntmps17
  go_wp2_with fail
  have hb := below_alloc w (.cells #[.bool neg, v, .int .i64 E] 40)
  refine (hl _ hb).mono ?_
  rintro e w1 ⟨rfl, rfl⟩
  go_wp2_with fail
  go_ret
  exact ⟨rfl, hb⟩
def signM (neg : Bool) (M : Nat) : Int := if M = 0 then 0 else if neg = true then -1 else 1
theorem refSign_any (w : World) (neg : Bool) (v : Value) (M : Nat) (E : Int) (h : MagIs w v M) :
    Calls Tryd.prog 19 #[.agg #[.bool neg, v, .int .i64 E]] w fun e w' => e = .returned (.int .i64 (signM neg M)) ∧ Below w.heap.size w w' := by
  obtain ⟨A, n, cap, rfl, hn, h0⟩ := h.form
  have hb := below_alloc w (.cells #[.bool neg, .slice A n cap, .int .i64 E] 40)
  by_cases hz : n = 0
  · have hM := h0.1 hz
    subst hz
    subst hM
    clear h h0
    go_enter Tryd.func19, Tryd.ntmps19
    go_wp2_with fail
    go_ret
    exact ⟨rfl, hb⟩
  · have hM : M ≠ 0 := fun e => hz (h0.2 e)
    have hn0 : ((n : Int) == 0) = false := by rw [beq_eq_false_iff_ne]; omega
    have hs : signM neg M = if neg = true then -1 else 1 := if_neg hM
    rw [hs]
    clear h h0 hs
    cases neg with
    | true =>
      go_enter Tryd.func19, Tryd.ntmps19
      go_wp2_with fail
      go_ret
      exact ⟨rfl, hb⟩
    | false =>
      go_enter Tryd.func19, Tryd.ntmps19
      go_wp2_with fail
      go_ret
      exact ⟨rfl, hb⟩
theorem Size_any (w : World) (neg : Bool) (A : Option Addr) (n cap : Nat) (E : Int) :
    Calls Tryd.prog 38 #[.agg #[.bool neg, .slice A n cap, .int .i64 E]] w fun e w' => e = .returned (.agg #[.bool false, .slice A n cap, .int .i64 E]) ∧ Below w.heap.size w w' := by
  go_enter Tryd.func38, Tryd.ntmps38
  go_wp2_with fail
  go_returns
  exact ⟨rfl, (below_alloc w _).trans ((below_alloc _ _).mono (by simp))⟩
theorem Moved_any (w : World) (neg : Bool) (v : Value) (M : Nat) (E k : Int) (h : MagIs w v M) (hE : -1000000 ≤ E ∧ E ≤ 1000000) (hk : -1000000 ≤ k ∧ k ≤ 1000000) (hM : M ≠ 0) :
    Calls Tryd.prog 22 #[.agg #[.bool neg, v, .int .i64 E], .int .i64 k] w fun e w' => e = .returned (.agg #[.bool neg, v, .int .i64 (E + k)]) ∧ Below w.heap.size w w' := by
  obtain ⟨A, n, cap, rfl, hn, h0⟩ := h.form
  have hz : 0 < n := Nat.pos_of_ne_zero fun e => hM (h0.1 e)
  have hz' : (0 : Int) < (n : Int) := by omega
  clear h h0
  go_enter Tryd.func22, Tryd.ntmps22
  go_wp2_with fail
  go_returns
  exact ⟨rfl, (below_alloc w _).trans ((below_alloc _ _).mono (by simp))⟩
/-- The row told as one word. -/
theorem word_any (w : World) (v : Value) (M : Nat) (h : MagIs w v M) (hM : M < B64) :
    Calls Tryd.prog 40 #[v] w fun e w' => e = .returned (.int .u64 (M : Nat)) ∧ w' = w := by
  rcases h with ⟨rfl, rfl⟩ | ⟨g, n, cap, rfl, hn, hc, hl, hv⟩
  · go_enter Tryd.func40, Tryd.ntmps40
    go_wp2_with fail
    go_loop [3, 4] (fun a i => a = .int .u64 0 ∧ i = .int .i64 (-1)) (fun _ i => 0)
    case atStart => exact ⟨rfl, rfl⟩
    case round =>
      obtain ⟨rfl, rfl⟩ := hrel
      go_wp2_with fail
      go_ret
      exact ⟨rfl, rfl⟩
  · have hMn : M / W32 ^ n = 0 := Nat.div_eq_of_lt hl.1
    have HM := Lib.hid hMn
    clear hMn hl
    go_enter Tryd.func40, Tryd.ntmps40
    go_wp2_with fail
    go_loop [3, 4] (fun a i => ∃ k X : Nat, k ≤ n ∧ a = .int .u64 (X : Int) ∧ X = M / W32 ^ k ∧ i = .int .i64 ((k : Int) - 1)) (fun _ i => (intOf i + 1).toNat)
    case atStart => exact ⟨n, 0, Nat.le_refl _, rfl, HM.out.symm, rfl⟩
    case round =>
      obtain ⟨k, X, hk, rfl, hX, rfl⟩ := hrel
      by_cases h0 : k = 0
      · subst h0
        have hXM : X = M := by rw [hX, Nat.pow_zero, Nat.div_one]
        subst hXM
        have HX := Lib.hid hX
        clear hX
        go_wp2_with fail
        go_ret
        exact ⟨rfl, rfl⟩
      · obtain ⟨j, rfl⟩ : ∃ j, k = j + 1 := ⟨k - 1, by omega⟩
        have hj : ((j + 1 : Nat) : Int) - 1 = (j : Int) := by omega
        rw [hj]
        have hcell := hv.cell j (Nat.zero_le _) (by omega)
        have hdl := dg_le M j
        have hstep : X * 4294967296 + dg M j = M / W32 ^ j := by
          rw [hX]
          unfold dg
          rw [Nat.pow_succ, ← Nat.div_div_eq_div_mul]
          unfold W32
          omega
        have hlt : M / W32 ^ j < B64 := Nat.lt_of_le_of_lt (Nat.div_le_self _ _) hM
        have hXs : X * 4294967296 < B64 := by omega
        have hor : bits .or .u64 ((X : Int) * 4294967296) ((dg M j : Nat) : Int) = ((X * 4294967296 + dg M j : Nat) : Int) := by
          have h1 := u64_or_nat (X * 4294967296) (dg M j) hXs (by omega)
          rw [show ((X * 4294967296 : Nat) : Int) = (X : Int) * 4294967296 by omega] at h1
          rw [h1]
          congr 1
          have e : X * 4294967296 = 2 ^ 32 * X := Nat.mul_comm _ _
          rw [e, ← Nat.two_pow_add_eq_or_of_lt (show dg M j < 2 ^ 32 from dg_lt M j)]
        have hwr : IntKind.u64.wrap ((X : Int) * 4294967296) = (X : Int) * 4294967296 := by
          rw [IntKind.wrap_u64]
          unfold B64 at hXs
          omega
        have hj0 : (0 : Int) ≤ (j : Int) := by omega
        have HS := Lib.hid hstep
        have HX := Lib.hid hX
        clear hX hstep hlt
        go_wp2_with fail
        go_round
        case rel => exact ⟨j, X * 4294967296 + dg M j, by omega, by go_num, HS.out, by go_num⟩
        case measure => simp [intOf]
end Go.Proofs.YtopilodakphhgaaDoor
