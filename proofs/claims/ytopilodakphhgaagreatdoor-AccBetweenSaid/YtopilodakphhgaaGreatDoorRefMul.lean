/- ambitref2.times: the product of two rows of limbs. -/
import Derived.Test.YtopilodakphhgaaGreatDoorRefAdd
namespace Go.Proofs.YtopilodakphhgaaGreatDoor
set_option linter.unusedVariables false
set_option linter.unusedSimpArgs false
open Go Go.RowKit
set_option maxRecDepth 100000
/-- What lies below limb i + k of what has been summed: V before the round i, the limb x against Y's first k limbs. -/
def mulU (V x Y i k : Nat) : Nat := V % W32 ^ (i + k) + x * (Y % W32 ^ k) * W32 ^ i
theorem mulU_zero (V x Y i : Nat) : mulU V x Y i 0 = V % W32 ^ i := by
  unfold mulU
  rw [Nat.pow_zero, Nat.mod_one, Nat.mul_zero, Nat.zero_mul, Nat.add_zero, Nat.add_zero]
theorem mulU_step (V x Y i k : Nat) : mulU V x Y i (k + 1) = mulU V x Y i k + (dg V (i + k) + x * dg Y k) * W32 ^ (i + k) := by
  unfold mulU
  rw [show i + (k + 1) = i + k + 1 by omega, dg_add V, dg_add Y, Nat.mul_add, Nat.add_mul, Nat.add_mul, Nat.pow_add W32 i k]
  have : x * (dg Y k * W32 ^ k) * W32 ^ i = x * dg Y k * (W32 ^ i * W32 ^ k) := by ac_rfl
  rw [this]
  omega
theorem mul_bound (x y c d : Nat) (hx : x < W32) (hy : y < W32) (hc : c < W32) (hd : d < W32) : c + x * y + d < W32 * W32 := by
  have h1 : x * y ≤ (W32 - 1) * (W32 - 1) := Nat.mul_le_mul (by omega) (by omega)
  have h2 : (W32 - 1) * (W32 - 1) + (W32 - 1) + (W32 - 1) < W32 * W32 := by decide
  omega
theorem mulU_div (V x Y i k : Nat) : mulU V x Y i (k + 1) / W32 ^ (i + k) = mulU V x Y i k / W32 ^ (i + k) + x * dg Y k + dg V (i + k) := by
  rw [mulU_step, div_add]
  omega
/-- A round of the inner loop. -/
theorem mul_step (V x Y i k : Nat) (hx : x < W32) (hc : mulU V x Y i k / W32 ^ (i + k) < W32) :
    (mulU V x Y i k / W32 ^ (i + k) + x * dg Y k + dg V (i + k)) % W32 = dg (mulU V x Y i (k + 1)) (i + k) ∧
    (mulU V x Y i k / W32 ^ (i + k) + x * dg Y k + dg V (i + k)) / W32 = mulU V x Y i (k + 1) / W32 ^ (i + k + 1) ∧ mulU V x Y i (k + 1) / W32 ^ (i + k + 1) < W32 := by
  have h1 := mulU_div V x Y i k
  have h2 := mul_bound x (dg Y k) _ (dg V (i + k)) hx (dg_lt Y k) hc (dg_lt V (i + k))
  have h3 : mulU V x Y i (k + 1) / W32 ^ (i + k + 1) = (mulU V x Y i k / W32 ^ (i + k) + x * dg Y k + dg V (i + k)) / W32 := by
    rw [Nat.pow_succ, ← Nat.div_div_eq_div_mul, h1]
  refine ⟨?_, h3.symm, ?_⟩
  · unfold dg at h1 ⊢
    rw [h1]
  · rw [h3, Nat.div_lt_iff_lt_mul W32_pos]
    exact h2
theorem mul_below (V x Y i k j : Nat) (h : j < i + k) : dg (mulU V x Y i (k + 1)) j = dg (mulU V x Y i k) j := by
  rw [mulU_step]
  exact dg_same _ _ _ _ h
/-- The product of X's first i limbs. -/
def mulV (X Y i : Nat) : Nat := X % W32 ^ i * Y
theorem mulV_lt (X Y i m : Nat) (hY : Y < W32 ^ m) : mulV X Y i < W32 ^ (i + m) := by
  unfold mulV
  rw [Nat.pow_add]
  have h1 := Nat.mod_lt X (W32_pow i)
  rcases Nat.eq_zero_or_pos Y with h0 | h0
  · rw [h0, Nat.mul_zero]
    exact Nat.mul_pos (W32_pow i) (W32_pow m)
  · exact Nat.mul_lt_mul'' h1 hY
theorem mulU_end (X Y i m : Nat) (hY : Y < W32 ^ m) : mulU (mulV X Y i) (dg X i) Y i m = mulV X Y (i + 1) := by
  unfold mulU
  rw [Nat.mod_eq_of_lt (mulV_lt X Y i m hY), Nat.mod_eq_of_lt hY]
  unfold mulV
  rw [dg_add, Nat.add_mul]
  congr 1
  ac_rfl
set_option maxHeartbeats 16000000 in
theorem times_any (w : World) (va vb : Value) (X Y L0 : Nat) (hL0 : L0 ≤ 100000) (ha : MagIs w va X) (hb : MagIs w vb Y) (hX : X < W32 ^ L0) (hY : Y < W32 ^ L0) :
    Calls Tryz.prog 36 #[va, vb] w fun e w' => ∃ v', e = .returned v' ∧ MagIs w' v' (X * Y) ∧ Below w.heap.size w w' := by
  obtain ⟨A, n, ca, rfl, hna, hca, hla, hra⟩ := ha.limbs
  obtain ⟨B, m, cb, rfl, hmb, hcb, hlb, hrb⟩ := hb.limbs
  have hn1 := NL32_le hla hX
  have hm1 := NL32_le hlb hY
  have HX := Lib.hid hla.1
  have HY := Lib.hid hlb.1
  have hmk := run_make_32 ((n : Int) + m) ((n : Int) + m) (by omega) (Int.le_refl _) (by omega)
  obtain ⟨N, hN⟩ : ∃ N, N = n + m := ⟨_, rfl⟩
  rw [show ((n : Int) + m).toNat = N by omega] at hmk
  have HN := Lib.hid hN
  clear ha hb hX hY hla hlb hN
  go_enter Tryz.func36, Tryz.ntmps36
  go_wp2_with fail
  obtain ⟨gh, hgh⟩ : ∃ gh, gh = w.heap.size := ⟨_, rfl⟩
  have hm0 : V32 (w.alloc (.cells (zero32 N) 68)) gh N 0 N (dg (mulV X Y 0)) := by
    rw [hgh]
    refine (V32.made w N).weaken fun j a b => ⟨a, b, ?_⟩
    unfold mulV
    rw [Nat.pow_zero, Nat.mod_one, Nat.zero_mul, dg_zero]
  have hg0 : w.grownBy (w.alloc (.cells (zero32 N) 68)) (Option.some gh) := World.grownBy_alloc w _ _
  rw [← hgh]
  have HG := Lib.hid hgh
  clear hmk hgh
  go_loopw [6] (fun i wr => ∃ k : Nat, k ≤ n ∧ i = .int .i64 (k : Nat) ∧ V32 wr gh N 0 N (dg (mulV X Y k)) ∧ w.grownBy wr (Option.some gh)) (fun i _ => n - (intOf i).toNat)
  case atStart => exact ⟨0, Nat.zero_le _, rfl, hm0, hg0⟩
  case round =>
    obtain ⟨i, hi, rfl, hz, hg⟩ := hrel
    clear hm0 hg0
    by_cases hlt : i < n
    · have hlt' : (i : Int) < (n : Int) := by omega
      have hi0 : (0 : Int) ≤ (i : Int) := by omega
      obtain ⟨w1, rfl⟩ : ∃ w1 : World, w1 = wr := ⟨_, rfl⟩
      go_wp2_with fail
      go_loopw [7, 8] (fun c k wr => ∃ kk : Nat, kk ≤ m ∧ k = .int .i64 (kk : Nat) ∧ c = .int .u64 ((mulU (mulV X Y i) (dg X i) Y i kk / W32 ^ (i + kk) : Nat) : Int) ∧ mulU (mulV X Y i) (dg X i) Y i kk / W32 ^ (i + kk) < W32 ∧ V32 wr gh N 0 N (fun j => if j < i + kk then dg (mulU (mulV X Y i) (dg X i) Y i kk) j else dg (mulV X Y i) j) ∧ w.grownBy wr (Option.some gh)) (fun _ k _ => m - (intOf k).toNat)
      case atStart =>
        have e0 : mulU (mulV X Y i) (dg X i) Y i 0 / W32 ^ (i + 0) = 0 := by
          rw [mulU_zero, Nat.add_zero]
          exact Nat.div_eq_of_lt (Nat.mod_lt _ (W32_pow i))
        refine ⟨0, Nat.zero_le _, rfl, by rw [e0]; rfl, by rw [e0]; exact W32_pos, ?_, hg⟩
        refine hz.weaken fun j a b => ⟨a, b, ?_⟩
        rw [Nat.add_zero, mulU_zero]
        by_cases h : j < i
        · rw [if_pos h]
          obtain ⟨q, hq⟩ : ∃ q, mulV X Y i = mulV X Y i % W32 ^ i + q * W32 ^ i := ⟨mulV X Y i / W32 ^ i, by rw [Nat.mul_comm]; exact (Nat.mod_add_div _ _).symm⟩
          conv => lhs; rw [hq]
          exact dg_same _ _ _ _ h
        · rw [if_neg h]
      case round =>
        obtain ⟨k, hk, rfl, rfl, hcl, hz2, hg2⟩ := hrel
        clear hz hg
        have hbel : Below w.heap.size w wr := below_of_grown hg2 (by rw [HG.out]; exact Nat.le_refl _)
        by_cases hkm : k < m
        · have hkm' : (k : Int) < (m : Int) := by omega
          have hk0 : (0 : Int) ≤ (k : Int) := by omega
          obtain ⟨g1, rfl, hc1⟩ := hra.at hbel i hlt
          obtain ⟨g2, rfl, hc2⟩ := hrb.at hbel k hkm
          have hNn := HN.out
          have hc3 := hz2.cell (i + k) (Nat.zero_le _) (by omega)
          rw [if_neg (Nat.lt_irrefl _)] at hc3
          have hfo := hz2.free (i + k)
          obtain ⟨s1, s2, s3⟩ := mul_step (mulV X Y i) (dg X i) Y i k (dg_lt X i) hcl
          have hbd := mul_bound (dg X i) (dg Y k) _ (dg (mulV X Y i) (i + k)) (dg_lt X i) (dg_lt Y k) hcl (dg_lt _ _)
          have hst : ∀ q, V32 ((wr.drewN q).setCell ⟨gh, i + k, none⟩ (.int .u32 (dg (mulU (mulV X Y i) (dg X i) Y i (k + 1)) (i + k) : Nat))) gh N 0 N (fun j => if j < i + (k + 1) then dg (mulU (mulV X Y i) (dg X i) Y i (k + 1)) j else dg (mulV X Y i) j) :=
            fun q => (hz2.heap (w1 := wr.drewN q) rfl).set (i + k) _ (by omega) (by rw [if_pos (by omega)]) (fun j a b hne => ⟨a, b, by
              by_cases h : j < i + k
              · rw [if_pos h, if_pos (by omega), mul_below _ _ _ _ _ _ h]
              · rw [if_neg h, if_neg (by omega)]⟩)
          have hgs := fun q => grown_set (g := gh) (⟨hg2.os, hg2.tape, hg2.output, hg2.size, hg2.block⟩ : w.grownBy (wr.drewN q) (Option.some gh)) (i + k) (.int .u32 (dg (mulU (mulV X Y i) (dg X i) Y i (k + 1)) (i + k) : Nat))
          have hx1 := dg_le X i
          have hy1 := dg_le Y k
          have hv1 := dg_le (mulV X Y i) (i + k)
          have hD1 := dg_le (mulU (mulV X Y i) (dg X i) Y i (k + 1)) (i + k)
          rw [show i + k + 1 = i + (k + 1) by omega] at s2 s3
          have hik : (i : Int) + (k : Int) < (N : Int) := by omega
          have hik0 : (0 : Int) ≤ (i : Int) + (k : Int) := by omega
          have hki : (k : Int) < (m : Int) := hkm'
          clear hz2 hg2 hbel
          obtain ⟨K9, hK9⟩ : ∃ K9, K9 = k + 1 := ⟨_, rfl⟩
          rw [← hK9] at hst hgs s1 s2 s3 hD1
          generalize mulU (mulV X Y i) (dg X i) Y i k / W32 ^ (i + k) = c0 at *
          generalize hC1 : mulU (mulV X Y i) (dg X i) Y i K9 / W32 ^ (i + K9) = c1 at *
          generalize hD9 : dg (mulU (mulV X Y i) (dg X i) Y i K9) (i + k) = d9 at *
          generalize hX9 : dg X i = x0 at *
          generalize hY9 : dg Y k = y0 at *
          generalize hV9 : dg (mulV X Y i) (i + k) = v0 at *
          have hmulw : IntKind.u64.wrap ((x0 : Int) * (y0 : Int)) = ((x0 * y0 : Nat) : Int) := by
            rw [IntKind.wrap_u64, ← Int.natCast_mul]
            have : W32 * W32 = 18446744073709551616 := by decide
            omega
          obtain ⟨xy, hxy⟩ : ∃ xy, xy = x0 * y0 := ⟨_, rfl⟩
          rw [← hxy] at hmulw s1 s2 hbd
          have hW2 : W32 * W32 = 18446744073709551616 := by decide
          rw [hW2] at hbd
          have hw1 : IntKind.u32.wrap ((c0 : Int) + (xy : Int) + (v0 : Int)) = ((d9 : Nat) : Int) := by
            rw [IntKind.wrap_u32, ← s1]
            unfold W32
            omega
          have hw2 : ((c0 : Int) + (xy : Int) + (v0 : Int)) / 4294967296 = ((c1 : Nat) : Int) := by
            rw [← s2]
            unfold W32
            omega
          have hbi : (c0 : Int) + (xy : Int) + (v0 : Int) ≤ 18446744073709551615 := by omega
          have hbi2 : (c0 : Int) + (xy : Int) ≤ 18446744073709551615 := by omega
          have HC1 := Lib.hid hC1
          clear hxy hC1 hD9 hX9 hY9 hV9 s1 s2 hbd
          go_wp2_with fail
          go_quiet (fail)
          go_wp2_with fail
          go_roundw
          case rel => exact ⟨K9, by omega, by rw [hK9]; go_num, by rw [HC1.out], by rw [HC1.out]; exact s3, hst _, hgs _⟩
          case measure => simp [intOf]; omega
        · obtain rfl : k = m := by omega
          have hkm' : decide ((k : Int) < (k : Nat)) = false := by simp
          have hNn := HN.out
          obtain ⟨o, hco⟩ := hz2.some (i + k) (by omega)
          have hfo := hz2.free (i + k)
          have hend := mulU_end X Y i k HY.out
          have hdv : dg (mulU (mulV X Y i) (dg X i) Y i k) (i + k) = mulU (mulV X Y i) (dg X i) Y i k / W32 ^ (i + k) := Nat.mod_eq_of_lt hcl
          have hst : V32 (wr.setCell ⟨gh, i + k, none⟩ (.int .u32 ((mulU (mulV X Y i) (dg X i) Y i k / W32 ^ (i + k) : Nat) : Int))) gh N 0 N (dg (mulV X Y (i + 1))) :=
            hz2.set (i + k) _ (by omega) (by rw [← hend, hdv]) (fun j a b hne => ⟨a, b, by
              rw [← hend]
              by_cases h : j < i + k
              · rw [if_pos h]
              · rw [if_neg h]
                have h1 : W32 ^ (i + k + 1) ≤ W32 ^ j := Nat.pow_le_pow_right W32_pos (by omega)
                have h2 : mulU (mulV X Y i) (dg X i) Y i k < W32 ^ (i + k + 1) := by
                  rw [Nat.pow_succ, Nat.mul_comm, ← Nat.div_lt_iff_lt_mul (W32_pow _)]
                  exact hcl
                have h3 : mulV X Y i < W32 ^ (i + k) := mulV_lt X Y i k HY.out
                have h4 : W32 ^ (i + k) ≤ W32 ^ (i + k + 1) := Nat.pow_le_pow_right W32_pos (by omega)
                rw [dg_high _ _ (Nat.lt_of_lt_of_le h3 (Nat.le_trans h4 h1)), dg_high _ _ (Nat.lt_of_lt_of_le h2 h1)]⟩)
          have hgs := grown_set hg2 (i + k) (.int .u32 ((mulU (mulV X Y i) (dg X i) Y i k / W32 ^ (i + k) : Nat) : Int))
          have hik : (i : Int) + (k : Int) < (N : Int) := by omega
          have hik0 : (0 : Int) ≤ (i : Int) + (k : Int) := by omega
          clear hz2 hg2 hend hdv
          generalize mulU (mulV X Y i) (dg X i) Y i k / W32 ^ (i + k) = c0 at *
          have hcw : IntKind.u32.wrap (c0 : Int) = (c0 : Int) := by
            rw [IntKind.wrap_u32]
            unfold W32 at hcl
            omega
          go_wp2_with fail
          go_roundw
          case rel => exact ⟨i + 1, by omega, by go_num, hst, hgs⟩
          case measure => simp [intOf]; omega
    · obtain rfl : i = n := by omega
      have hlt' : decide ((i : Int) < (i : Nat)) = false := by simp
      have hXY : mulV X Y i = X * Y := by unfold mulV; rw [Nat.mod_eq_of_lt HX.out]
      rw [hXY] at hz
      have htr := trim_row wr gh N N (X * Y) hz (by rw [HN.out, ← hXY]; exact mulV_lt X Y i m HY.out) (Nat.le_refl _) (by have := HN.out; omega)
      have hN9 : N ≤ 1000000 := by have := HN.out; omega
      have hbel : Below w.heap.size w wr := below_of_grown hg (by rw [HG.out]; exact Nat.le_refl _)
      clear hg hXY
      go_wp2_with fail
      refine htr.mono ?_
      rintro e w1 ⟨⟨j, hj, hnl, rfl⟩, rfl⟩
      go_wp2_with fail
      go_ret
      exact ⟨_, rfl, Or.inr ⟨gh, j, N, rfl, hj, hN9, hnl, hz.weaken fun i a b => ⟨a, by omega, rfl⟩⟩, hbel⟩
end Go.Proofs.YtopilodakphhgaaGreatDoor
