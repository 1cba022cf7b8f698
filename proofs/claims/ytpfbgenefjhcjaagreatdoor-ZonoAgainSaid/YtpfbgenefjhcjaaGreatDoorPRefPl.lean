/-
  ambitref2.times: the product of two rows of limbs.
  ambitref2.level: two numbers at one power of 2.
  ambitref2.Plus: the sum of two numbers.
  ambitref2.Plus, Times, Moved of numbers as reals. ambitref2.Times of two numbers that are not 0. ambitref2: Of, Times, Moved where there is no number, or 0. ambitref2: the product of two floats, moved, as a real.
-/
import Derived.Test.YtpfbgenefjhcjaaGreatDoorPRefLo
import Derived.Test.YtpfbgenefjhcjaaGreatDoorPRefTo
import Derived.OwnWalk
namespace Go.Proofs.YtpfbgenefjhcjaaGreatDoor
set_option linter.unusedVariables false
set_option linter.unusedSimpArgs false
open Go Go.RowKit
set_option maxRecDepth 100000
/-- What lies below limb i + k of what has been summed: V before the round i, the limb x against Y's first k limbs. -/
def mulU (V x Y i k : Nat) : Nat := V % W32 ^ (i + k) + x * (Y % W32 ^ k) * W32 ^ i
theorem mulU_zero (V x Y i : Nat) : mulU V x Y i 0 = V % W32 ^ i := by
  unfold mulU
  rw [Nat.pow_zero, Nat.mod_one, Nat.mul_zero, Nat.zero_mul, Nat.add_zero, Nat.add_zero]
theorem mulU_step (V x Y i k : Nat) : mulU V x Y i (k + 1) = mulU V x Y i k + (dg V (i + k) + x * dg Y k) * W32 ^ (i + k) := by
  unfold mulU
  rw [show i + (k + 1) = i + k + 1 by omega, dg_add V, dg_add Y, Nat.mul_add, Nat.add_mul, Nat.add_mul, Nat.pow_add W32 i k]
  have : x * (dg Y k * W32 ^ k) * W32 ^ i = x * dg Y k * (W32 ^ i * W32 ^ k) := by ac_rfl
  rw [this]
  omega
theorem mul_bound (x y c d : Nat) (hx : x < W32) (hy : y < W32) (hc : c < W32) (hd : d < W32) : c + x * y + d < W32 * W32 := by
  have h1 : x * y ≤ (W32 - 1) * (W32 - 1) := Nat.mul_le_mul (by omega) (by omega)
  have h2 : (W32 - 1) * (W32 - 1) + (W32 - 1) + (W32 - 1) < W32 * W32 := by decide
  omega
theorem mulU_div (V x Y i k : Nat) : mulU V x Y i (k + 1) / W32 ^ (i + k) = mulU V x Y i k / W32 ^ (i + k) + x * dg Y k + dg V (i + k) := by
  rw [mulU_step, div_add]
  omega
/-- A round of the inner loop. -/
theorem mul_step (V x Y i k : Nat) (hx : x < W32) (hc : mulU V x Y i k / W32 ^ (i + k) < W32) :
    (mulU V x Y i k / W32 ^ (i + k) + x * dg Y k + dg V (i + k)) % W32 = dg (mulU V x Y i (k + 1)) (i + k) ∧
    (mulU V x Y i k / W32 ^ (i + k) + x * dg Y k + dg V (i + k)) / W32 = mulU V x Y i (k + 1) / W32 ^ (i + k + 1) ∧ mulU V x Y i (k + 1) / W32 ^ (i + k + 1) < W32 := by
  have h1 := mulU_div V x Y i k
  have h2 := mul_bound x (dg Y k) _ (dg V (i + k)) hx (dg_lt Y k) hc (dg_lt V (i + k))
  have h3 : mulU V x Y i (k + 1) / W32 ^ (i + k + 1) = (mulU V x Y i k / W32 ^ (i + k) + x * dg Y k + dg V (i + k)) / W32 := by
    rw [Nat.pow_succ, ← Nat.div_div_eq_div_mul, h1]
  refine ⟨?_, h3.symm, ?_⟩
  · unfold dg at h1 ⊢
    rw [h1]
  · rw [h3, Nat.div_lt_iff_lt_mul W32_pos]
    exact h2
theorem mul_below (V x Y i k j : Nat) (h : j < i + k) : dg (mulU V x Y i (k + 1)) j = dg (mulU V x Y i k) j := by
  rw [mulU_step]
  exact dg_same _ _ _ _ h
/-- The product of X's first i limbs. -/
def mulV (X Y i : Nat) : Nat := X % W32 ^ i * Y
theorem mulV_lt (X Y i m : Nat) (hY : Y < W32 ^ m) : mulV X Y i < W32 ^ (i + m) := by
  unfold mulV
  rw [Nat.pow_add]
  have h1 := Nat.mod_lt X (W32_pow i)
  rcases Nat.eq_zero_or_pos Y with h0 | h0
  · rw [h0, Nat.mul_zero]
    exact Nat.mul_pos (W32_pow i) (W32_pow m)
  · exact Nat.mul_lt_mul'' h1 hY
theorem mulU_end (X Y i m : Nat) (hY : Y < W32 ^ m) : mulU (mulV X Y i) (dg X i) Y i m = mulV X Y (i + 1) := by
  unfold mulU
  rw [Nat.mod_eq_of_lt (mulV_lt X Y i m hY), Nat.mod_eq_of_lt hY]
  unfold mulV
  rw [dg_add, Nat.add_mul]
  congr 1
  ac_rfl
set_option maxHeartbeats 16000000 in
theorem times_any (w : World) (va vb : Value) (X Y L0 : Nat) (hL0 : L0 ≤ 100000) (ha : MagIs w va X) (hb : MagIs w vb Y) (hX : X < W32 ^ L0) (hY : Y < W32 ^ L0) :
    Calls Tryz.prog 123 #[va, vb] w fun e w' => ∃ v', e = .returned v' ∧ MagIs w' v' (X * Y) ∧ Below w.heap.size w w' := by
  obtain ⟨A, n, ca, rfl, hna, hca, hla, hra⟩ := ha.limbs
  obtain ⟨B, m, cb, rfl, hmb, hcb, hlb, hrb⟩ := hb.limbs
  have hn1 := NL32_le hla hX
  have hm1 := NL32_le hlb hY
  have HX := Lib.hid hla.1
  have HY := Lib.hid hlb.1
  have hmk := run_make_32 ((n : Int) + m) ((n : Int) + m) (by omega) (Int.le_refl _) (by omega)
  obtain ⟨N, hN⟩ : ∃ N, N = n + m := ⟨_, rfl⟩
  rw [show ((n : Int) + m).toNat = N by omega] at hmk
  have HN := Lib.hid hN
  clear ha hb hX hY hla hlb hN
  go_enter Tryz.func123, Tryz.ntmps123
  go_wp2_with fail
  obtain ⟨gh, hgh⟩ : ∃ gh, gh = w.heap.size := ⟨_, rfl⟩
  have hm0 : V32 (w.alloc (.cells (zero32 N) 136)) gh N 0 N (dg (mulV X Y 0)) := by
    rw [hgh]
    refine (V32.made w N).weaken fun j a b => ⟨a, b, ?_⟩
    unfold mulV
    rw [Nat.pow_zero, Nat.mod_one, Nat.zero_mul, dg_zero]
  have hg0 : w.grownBy (w.alloc (.cells (zero32 N) 136)) (Option.some gh) := World.grownBy_alloc w _ _
  rw [← hgh]
  have HG := Lib.hid hgh
  clear hmk hgh
  go_loopw [6] (fun i wr => ∃ k : Nat, k ≤ n ∧ i = .int .i64 (k : Nat) ∧ V32 wr gh N 0 N (dg (mulV X Y k)) ∧ w.grownBy wr (Option.some gh)) (fun i _ => n - (intOf i).toNat)
  case atStart => exact ⟨0, Nat.zero_le _, rfl, hm0, hg0⟩
  case round =>
    obtain ⟨i, hi, rfl, hz, hg⟩ := hrel
    clear hm0 hg0
    by_cases hlt : i < n
    · have hlt' : (i : Int) < (n : Int) := by omega
      have hi0 : (0 : Int) ≤ (i : Int) := by omega
      obtain ⟨w1, rfl⟩ : ∃ w1 : World, w1 = wr := ⟨_, rfl⟩
      go_wp2_with fail
      go_loopw [7, 8] (fun c k wr => ∃ kk : Nat, kk ≤ m ∧ k = .int .i64 (kk : Nat) ∧ c = .int .u64 ((mulU (mulV X Y i) (dg X i) Y i kk / W32 ^ (i + kk) : Nat) : Int) ∧ mulU (mulV X Y i) (dg X i) Y i kk / W32 ^ (i + kk) < W32 ∧ V32 wr gh N 0 N (fun j => if j < i + kk then dg (mulU (mulV X Y i) (dg X i) Y i kk) j else dg (mulV X Y i) j) ∧ w.grownBy wr (Option.some gh)) (fun _ k _ => m - (intOf k).toNat)
      case atStart =>
        have e0 : mulU (mulV X Y i) (dg X i) Y i 0 / W32 ^ (i + 0) = 0 := by
          rw [mulU_zero, Nat.add_zero]
          exact Nat.div_eq_of_lt (Nat.mod_lt _ (W32_pow i))
        refine ⟨0, Nat.zero_le _, rfl, by rw [e0]; rfl, by rw [e0]; exact W32_pos, ?_, hg⟩
        refine hz.weaken fun j a b => ⟨a, b, ?_⟩
        rw [Nat.add_zero, mulU_zero]
        by_cases h : j < i
        · rw [if_pos h]
          obtain ⟨q, hq⟩ : ∃ q, mulV X Y i = mulV X Y i % W32 ^ i + q * W32 ^ i := ⟨mulV X Y i / W32 ^ i, by rw [Nat.mul_comm]; exact (Nat.mod_add_div _ _).symm⟩
          conv => lhs; rw [hq]
          exact dg_same _ _ _ _ h
        · rw [if_neg h]
      case round =>
        obtain ⟨k, hk, rfl, rfl, hcl, hz2, hg2⟩ := hrel
        clear hz hg
        have hbel : Below w.heap.size w wr := below_of_grown hg2 (by rw [HG.out]; exact Nat.le_refl _)
        by_cases hkm : k < m
        · have hkm' : (k : Int) < (m : Int) := by omega
          have hk0 : (0 : Int) ≤ (k : Int) := by omega
          obtain ⟨g1, rfl, hc1⟩ := hra.at hbel i hlt
          obtain ⟨g2, rfl, hc2⟩ := hrb.at hbel k hkm
          have hNn := HN.out
          have hc3 := hz2.cell (i + k) (Nat.zero_le _) (by omega)
          rw [if_neg (Nat.lt_irrefl _)] at hc3
          have hfo := hz2.free (i + k)
          obtain ⟨s1, s2, s3⟩ := mul_step (mulV X Y i) (dg X i) Y i k (dg_lt X i) hcl
          have hbd := mul_bound (dg X i) (dg Y k) _ (dg (mulV X Y i) (i + k)) (dg_lt X i) (dg_lt Y k) hcl (dg_lt _ _)
          have hst : ∀ q, V32 ((wr.drewN q).setCell ⟨gh, i + k, none⟩ (.int .u32 (dg (mulU (mulV X Y i) (dg X i) Y i (k + 1)) (i + k) : Nat))) gh N 0 N (fun j => if j < i + (k + 1) then dg (mulU (mulV X Y i) (dg X i) Y i (k + 1)) j else dg (mulV X Y i) j) :=
            fun q => (hz2.heap (w1 := wr.drewN q) rfl).set (i + k) _ (by omega) (by rw [if_pos (by omega)]) (fun j a b hne => ⟨a, b, by
              by_cases h : j < i + k
              · rw [if_pos h, if_pos (by omega), mul_below _ _ _ _ _ _ h]
              · rw [if_neg h, if_neg (by omega)]⟩)
          have hgs := fun q => grown_set (g := gh) (⟨hg2.os, hg2.tape, hg2.output, hg2.size, hg2.block⟩ : w.grownBy (wr.drewN q) (Option.some gh)) (i + k) (.int .u32 (dg (mulU (mulV X Y i) (dg X i) Y i (k + 1)) (i + k) : Nat))
          have hx1 := dg_le X i
          have hy1 := dg_le Y k
          have hv1 := dg_le (mulV X Y i) (i + k)
          have hD1 := dg_le (mulU (mulV X Y i) (dg X i) Y i (k + 1)) (i + k)
          rw [show i + k + 1 = i + (k + 1) by omega] at s2 s3
          have hik : (i : Int) + (k : Int) < (N : Int) := by omega
          have hik0 : (0 : Int) ≤ (i : Int) + (k : Int) := by omega
          have hki : (k : Int) < (m : Int) := hkm'
          clear hz2 hg2 hbel
          obtain ⟨K9, hK9⟩ : ∃ K9, K9 = k + 1 := ⟨_, rfl⟩
          rw [← hK9] at hst hgs s1 s2 s3 hD1
          generalize mulU (mulV X Y i) (dg X i) Y i k / W32 ^ (i + k) = c0 at *
          generalize hC1 : mulU (mulV X Y i) (dg X i) Y i K9 / W32 ^ (i + K9) = c1 at *
          generalize hD9 : dg (mulU (mulV X Y i) (dg X i) Y i K9) (i + k) = d9 at *
          generalize hX9 : dg X i = x0 at *
          generalize hY9 : dg Y k = y0 at *
          generalize hV9 : dg (mulV X Y i) (i + k) = v0 at *
          have hmulw : IntKind.u64.wrap ((x0 : Int) * (y0 : Int)) = ((x0 * y0 : Nat) : Int) := by
            rw [IntKind.wrap_u64, ← Int.natCast_mul]
            have : W32 * W32 = 18446744073709551616 := by decide
            omega
          obtain ⟨xy, hxy⟩ : ∃ xy, xy = x0 * y0 := ⟨_, rfl⟩
          rw [← hxy] at hmulw s1 s2 hbd
          have hW2 : W32 * W32 = 18446744073709551616 := by decide
          rw [hW2] at hbd
          have hw1 : IntKind.u32.wrap ((c0 : Int) + (xy : Int) + (v0 : Int)) = ((d9 : Nat) : Int) := by
            rw [IntKind.wrap_u32, ← s1]
            unfold W32
            omega
          have hw2 : ((c0 : Int) + (xy : Int) + (v0 : Int)) / 4294967296 = ((c1 : Nat) : Int) := by
            rw [← s2]
            unfold W32
            omega
          have hbi : (c0 : Int) + (xy : Int) + (v0 : Int) ≤ 18446744073709551615 := by omega
          have hbi2 : (c0 : Int) + (xy : Int) ≤ 18446744073709551615 := by omega
          have HC1 := Lib.hid hC1
          clear hxy hC1 hD9 hX9 hY9 hV9 s1 s2 hbd
          go_wp2_with fail
          go_quiet (fail)
          go_wp2_with fail
          go_roundw
          case rel => exact ⟨K9, by omega, by rw [hK9]; go_num, by rw [HC1.out], by rw [HC1.out]; exact s3, hst _, hgs _⟩
          case measure => simp [intOf]; omega
        · obtain rfl : k = m := by omega
          have hkm' : decide ((k : Int) < (k : Nat)) = false := by simp
          have hNn := HN.out
          obtain ⟨o, hco⟩ := hz2.some (i + k) (by omega)
          have hfo := hz2.free (i + k)
          have hend := mulU_end X Y i k HY.out
          have hdv : dg (mulU (mulV X Y i) (dg X i) Y i k) (i + k) = mulU (mulV X Y i) (dg X i) Y i k / W32 ^ (i + k) := Nat.mod_eq_of_lt hcl
          have hst : V32 (wr.setCell ⟨gh, i + k, none⟩ (.int .u32 ((mulU (mulV X Y i) (dg X i) Y i k / W32 ^ (i + k) : Nat) : Int))) gh N 0 N (dg (mulV X Y (i + 1))) :=
            hz2.set (i + k) _ (by omega) (by rw [← hend, hdv]) (fun j a b hne => ⟨a, b, by
              rw [← hend]
              by_cases h : j < i + k
              · rw [if_pos h]
              · rw [if_neg h]
                have h1 : W32 ^ (i + k + 1) ≤ W32 ^ j := Nat.pow_le_pow_right W32_pos (by omega)
                have h2 : mulU (mulV X Y i) (dg X i) Y i k < W32 ^ (i + k + 1) := by
                  rw [Nat.pow_succ, Nat.mul_comm, ← Nat.div_lt_iff_lt_mul (W32_pow _)]
                  exact hcl
                have h3 : mulV X Y i < W32 ^ (i + k) := mulV_lt X Y i k HY.out
                have h4 : W32 ^ (i + k) ≤ W32 ^ (i + k + 1) := Nat.pow_le_pow_right W32_pos (by omega)
                rw [dg_high _ _ (Nat.lt_of_lt_of_le h3 (Nat.le_trans h4 h1)), dg_high _ _ (Nat.lt_of_lt_of_le h2 h1)]⟩)
          have hgs := grown_set hg2 (i + k) (.int .u32 ((mulU (mulV X Y i) (dg X i) Y i k / W32 ^ (i + k) : Nat) : Int))
          have hik : (i : Int) + (k : Int) < (N : Int) := by omega
          have hik0 : (0 : Int) ≤ (i : Int) + (k : Int) := by omega
          clear hz2 hg2 hend hdv
          generalize mulU (mulV X Y i) (dg X i) Y i k / W32 ^ (i + k) = c0 at *
          have hcw : IntKind.u32.wrap (c0 : Int) = (c0 : Int) := by
            rw [IntKind.wrap_u32]
            unfold W32 at hcl
            omega
          go_wp2_with fail
          go_roundw
          case rel => exact ⟨i + 1, by omega, by go_num, hst, hgs⟩
          case measure => simp [intOf]; omega
    · obtain rfl : i = n := by omega
      have hlt' : decide ((i : Int) < (i : Nat)) = false := by simp
      have hXY : mulV X Y i = X * Y := by unfold mulV; rw [Nat.mod_eq_of_lt HX.out]
      rw [hXY] at hz
      have htr := trim_row wr gh N N (X * Y) hz (by rw [HN.out, ← hXY]; exact mulV_lt X Y i m HY.out) (Nat.le_refl _) (by have := HN.out; omega)
      have hN9 : N ≤ 1000000 := by have := HN.out; omega
      have hbel : Below w.heap.size w wr := below_of_grown hg (by rw [HG.out]; exact Nat.le_refl _)
      clear hg hXY
      go_wp2_with fail
      refine htr.mono ?_
      rintro e w1 ⟨⟨j, hj, hnl, rfl⟩, rfl⟩
      go_wp2_with fail
      go_ret
      exact ⟨_, rfl, Or.inr ⟨gh, j, N, rfl, hj, hN9, hnl, hz.weaken fun i a b => ⟨a, by omega, rfl⟩⟩, hbel⟩
end Go.Proofs.YtpfbgenefjhcjaaGreatDoor
namespace Go.Proofs.YtpfbgenefjhcjaaGreatDoor
set_option linter.unusedVariables false
set_option linter.unusedSimpArgs false
open Go Go.RowKit
set_option maxRecDepth 100000
def LevelOf (M : Nat) (E1 : Int) (N : Nat) (E2 : Int) (A B : Nat) (e : Int) : Prop :=
  (M = 0 ∧ A = 0 ∧ B = N ∧ e = E2) ∨ (M ≠ 0 ∧ N = 0 ∧ A = M ∧ B = 0 ∧ e = E1) ∨ (M ≠ 0 ∧ N ≠ 0 ∧ E2 < E1 ∧ A = M * 2 ^ (E1 - E2).toNat ∧ B = N ∧ e = E2) ∨ (M ≠ 0 ∧ N ≠ 0 ∧ E1 ≤ E2 ∧ A = M ∧ B = N * 2 ^ (E2 - E1).toNat ∧ e = E1)
theorem limbs_small {w : World} {v : Value} {M L0 : Nat} (h : MagIs w v M) (hM : M < W32 ^ L0) (hL : L0 ≤ 100000) : ∀ A n cap, v = .slice A n cap → n ≤ 100000 := fun A n cap hv => by
  rcases h with ⟨h1, _⟩ | ⟨g, n1, cap1, h1, h2, h3, h4, h5⟩
  · rw [h1] at hv; injection hv with _ e _; omega
  · rw [h1] at hv
    injection hv with _ e _
    have := NL32_le h4 hM
    omega
theorem left_sh (w : World) (v : Value) (M s L0 : Nat) (h : MagIs w v M) (hM : M < W32 ^ L0) (hL : L0 ≤ 100000) (hs : s ≤ 3000000) :
    Calls Tryz.prog 125 #[v, .int .i64 (s : Nat)] w fun e w' => ∃ v', e = .returned v' ∧ MagIs w' v' (M * 2 ^ s) ∧ Below w.heap.size w w' := by
  have := left_any w v M (s / 32) (s % 32) h (by omega) (by omega) (limbs_small h hM hL)
  rwa [show 32 * (s / 32) + s % 32 = s by omega] at this
set_option maxHeartbeats 2000000 in
theorem level_any (w : World) (n1 n2 : Bool) (v1 v2 : Value) (E1 E2 : Int) (M N L0 : Nat) (h1 : MagIs w v1 M) (h2 : MagIs w v2 N) (hL : L0 ≤ 1000) (hM : M < W32 ^ L0) (hN : N < W32 ^ L0) (hE1 : -10000 ≤ E1 ∧ E1 ≤ 10000) (hE2 : -10000 ≤ E2 ∧ E2 ≤ 10000) :
    Calls Tryz.prog 105 #[.agg #[.bool n1, v1, .int .i64 E1], .agg #[.bool n2, v2, .int .i64 E2]] w fun e w' => ∃ (va vb : Value) (x : Int) (A B : Nat), e = .returned (.tuple #[va, vb, .int .i64 x]) ∧ MagIs w' va A ∧ MagIs w' vb B ∧ Below w.heap.size w w' ∧ LevelOf M E1 N E2 A B x := by
  obtain ⟨A1, c1, k1, rfl, hc1, h10⟩ := h1.form
  obtain ⟨A2, c2, k2, rfl, hc2, h20⟩ := h2.form
  have hb1 := below_alloc w (.cells #[.bool n1, .slice A1 c1 k1, .int .i64 E1] 70)
  have hb2 := hb1.trans ((below_alloc (w.alloc (.cells #[.bool n1, .slice A1 c1 k1, .int .i64 E1] 70)) (.cells #[.bool n2, .slice A2 c2 k2, .int .i64 E2] 70)).mono (by simp))
  have hd := fun q => below_drewN' hb2 q
  by_cases hz1 : c1 = 0
  · have hM0 := h10.1 hz1
    subst hz1
    have hm2 := fun q => h2.below (hd q)
    clear h1 h2 h10 h20 hb1
    go_enter Tryz.func105, Tryz.ntmps105
    go_wp2_with fail
    go_quiet (fail)
    go_wp2_with fail
    go_ret3
    exact ⟨_, _, _, 0, N, rfl, Or.inl ⟨rfl, rfl⟩, hm2 _, hd _, Or.inl ⟨hM0, rfl, rfl, rfl⟩⟩
  · have hM0 : M ≠ 0 := fun e => hz1 (h10.2 e)
    have hc1' : ((c1 : Int) == 0) = false := by rw [beq_eq_false_iff_ne]; omega
    by_cases hz2 : c2 = 0
    · have hN0 := h20.1 hz2
      subst hz2
      have hm1 := fun q => h1.below (hd q)
      clear h1 h2 h10 h20 hb1
      go_enter Tryz.func105, Tryz.ntmps105
      go_wp2_with fail
      go_quiet (fail)
      go_wp2_with fail
      go_ret3
      exact ⟨_, _, _, M, 0, rfl, hm1 _, Or.inl ⟨rfl, rfl⟩, hd _, Or.inr (Or.inl ⟨hM0, hN0, rfl, rfl, rfl⟩)⟩
    · have hN0 : N ≠ 0 := fun e => hz2 (h20.2 e)
      have hc2' : ((c2 : Int) == 0) = false := by rw [beq_eq_false_iff_ne]; omega
      by_cases hlt : E2 < E1
      · obtain ⟨s, hs⟩ : ∃ s, s = (E1 - E2).toNat := ⟨_, rfl⟩
        have hsub : E1 - E2 = (s : Int) := by omega
        have hwsub : IntKind.i64.wrap (E1 - E2) = (s : Int) := by rw [IntKind.wrap_i64]; omega
        have hwsub2 : IntKind.i64.wrap (s : Int) = (s : Int) := by rw [IntKind.wrap_i64]; omega
        have hl := left_sh _ (.slice A1 c1 k1) M s L0 (h1.below hb2.drew) hM (by omega) (by omega)
        have hm2 := h2.below hb2.drew
        have hg1 := heap_alloc_new w (.cells #[.bool n1, .slice A1 c1 k1, .int .i64 E1] 70)
        have hg2 := heap_alloc_new (w.alloc (.cells #[.bool n1, .slice A1 c1 k1, .int .i64 E1] 70)) (.cells #[.bool n2, .slice A2 c2 k2, .int .i64 E2] 70)
        have hsz : (w.alloc (.cells #[.bool n1, .slice A1 c1 k1, .int .i64 E1] 70)).heap.size = w.heap.size + 1 := by simp
        rw [hsz] at hg2
        have hdr := hb2.drew
        have hsw : ((w.alloc (.cells #[.bool n1, .slice A1 c1 k1, .int .i64 E1] 70)).alloc (.cells #[.bool n2, .slice A2 c2 k2, .int .i64 E2] 70)).drew.heap.size = w.heap.size + 2 := by simp
        have HS := Lib.hid hs
        have hg1' := (below_alloc (w.alloc (.cells #[.bool n1, .slice A1 c1 k1, .int .i64 E1] 70)) (.cells #[.bool n2, .slice A2 c2 k2, .int .i64 E2] 70)).block w.heap.size (by rw [hsz]; omega)
        rw [hg1] at hg1'
        have x1 : ((w.alloc (.cells #[.bool n1, .slice A1 c1 k1, .int .i64 E1] 70)).alloc (.cells #[.bool n2, .slice A2 c2 k2, .int .i64 E2] 70)).cell? ⟨w.heap.size, 1, none⟩ = some (.slice A1 c1 k1) := by rw [cell_of_row _ _ _ _ _ _ hg1']; rfl
        have x2 : ((w.alloc (.cells #[.bool n1, .slice A1 c1 k1, .int .i64 E1] 70)).alloc (.cells #[.bool n2, .slice A2 c2 k2, .int .i64 E2] 70)).cell? ⟨w.heap.size, 2, none⟩ = some (.int .i64 E1) := by rw [cell_of_row _ _ _ _ _ _ hg1']; rfl
        have x3 : ((w.alloc (.cells #[.bool n1, .slice A1 c1 k1, .int .i64 E1] 70)).alloc (.cells #[.bool n2, .slice A2 c2 k2, .int .i64 E2] 70)).cell? ⟨w.heap.size + 1, 1, none⟩ = some (.slice A2 c2 k2) := by rw [cell_of_row _ _ _ _ _ _ hg2]; rfl
        have x4 : ((w.alloc (.cells #[.bool n1, .slice A1 c1 k1, .int .i64 E1] 70)).alloc (.cells #[.bool n2, .slice A2 c2 k2, .int .i64 E2] 70)).cell? ⟨w.heap.size + 1, 2, none⟩ = some (.int .i64 E2) := by rw [cell_of_row _ _ _ _ _ _ hg2]; rfl
        clear hs hg1 hg1' hg2 hsz h1 h2 h10 h20 hb1 hd hM hN
        go_enter Tryz.func105, Tryz.ntmps105
        go_wp2_with fail
        clear hb2
        generalize (w.alloc (.cells #[.bool n1, .slice A1 c1 k1, .int .i64 E1] 70)).alloc (.cells #[.bool n2, .slice A2 c2 k2, .int .i64 E2] 70) = W2 at *
        generalize hG : w.heap.size = g0 at *
        have HG := Lib.hid hG
        clear hG
        have hg0a : g0 < g0 + 2 := by omega
        have hg0b : g0 + 1 < g0 + 2 := by omega
        go_region_held3 (fun w' => w'.cell? ⟨g0, 1, none⟩ = some (.slice A1 c1 k1) ∧ w'.cell? ⟨g0, 2, none⟩ = some (.int .i64 E1) ∧ w'.cell? ⟨g0 + 1, 1, none⟩ = some (.slice A2 c2 k2) ∧ w'.cell? ⟨g0 + 1, 2, none⟩ = some (.int .i64 E2))
          (first | exact ⟨x1, x2, x3, x4⟩ | exact ⟨(hb3.cell (p := ⟨g0, 1, none⟩) (by rw [hsw]; exact hg0a)).trans x1, (hb3.cell (p := ⟨g0, 2, none⟩) (by rw [hsw]; exact hg0a)).trans x2, (hb3.cell (p := ⟨g0 + 1, 1, none⟩) (by rw [hsw]; exact hg0b)).trans x3, (hb3.cell (p := ⟨g0 + 1, 2, none⟩) (by rw [hsw]; exact hg0b)).trans x4⟩)
          (first | (go_at_call 125; refine hl.mono ?_; rintro e w3 ⟨va, rfl, hma, hb3⟩))
        all_goals go_wp2_with fail
        all_goals go_ret3
        all_goals exact ⟨_, _, _, M * 2 ^ s, N, rfl, hma, hm2.below hb3, (by rw [HG.out]; exact hdr.trans (hb3.mono (by rw [hsw]; omega))), Or.inr (Or.inr (Or.inl ⟨hM0, hN0, hlt, by rw [HS.out], rfl, rfl⟩))⟩
      · obtain ⟨s, hs⟩ : ∃ s, s = (E2 - E1).toNat := ⟨_, rfl⟩
        have hsub : E2 - E1 = (s : Int) := by omega
        have hwsub : IntKind.i64.wrap (E2 - E1) = (s : Int) := by rw [IntKind.wrap_i64]; omega
        have hwsub2 : IntKind.i64.wrap (s : Int) = (s : Int) := by rw [IntKind.wrap_i64]; omega
        have hge : decide (E2 < E1) = false := by simp; omega
        have hl := left_sh _ (.slice A2 c2 k2) N s L0 (h2.below hb2.drew) hN (by omega) (by omega)
        have hm1 := h1.below hb2.drew
        have hg1 := heap_alloc_new w (.cells #[.bool n1, .slice A1 c1 k1, .int .i64 E1] 70)
        have hg2 := heap_alloc_new (w.alloc (.cells #[.bool n1, .slice A1 c1 k1, .int .i64 E1] 70)) (.cells #[.bool n2, .slice A2 c2 k2, .int .i64 E2] 70)
        have hsz : (w.alloc (.cells #[.bool n1, .slice A1 c1 k1, .int .i64 E1] 70)).heap.size = w.heap.size + 1 := by simp
        rw [hsz] at hg2
        have hdr := hb2.drew
        have hsw : ((w.alloc (.cells #[.bool n1, .slice A1 c1 k1, .int .i64 E1] 70)).alloc (.cells #[.bool n2, .slice A2 c2 k2, .int .i64 E2] 70)).drew.heap.size = w.heap.size + 2 := by simp
        have HS := Lib.hid hs
        have hg1' := (below_alloc (w.alloc (.cells #[.bool n1, .slice A1 c1 k1, .int .i64 E1] 70)) (.cells #[.bool n2, .slice A2 c2 k2, .int .i64 E2] 70)).block w.heap.size (by rw [hsz]; omega)
        rw [hg1] at hg1'
        have x1 : ((w.alloc (.cells #[.bool n1, .slice A1 c1 k1, .int .i64 E1] 70)).alloc (.cells #[.bool n2, .slice A2 c2 k2, .int .i64 E2] 70)).cell? ⟨w.heap.size, 1, none⟩ = some (.slice A1 c1 k1) := by rw [cell_of_row _ _ _ _ _ _ hg1']; rfl
        have x2 : ((w.alloc (.cells #[.bool n1, .slice A1 c1 k1, .int .i64 E1] 70)).alloc (.cells #[.bool n2, .slice A2 c2 k2, .int .i64 E2] 70)).cell? ⟨w.heap.size, 2, none⟩ = some (.int .i64 E1) := by rw [cell_of_row _ _ _ _ _ _ hg1']; rfl
        have x3 : ((w.alloc (.cells #[.bool n1, .slice A1 c1 k1, .int .i64 E1] 70)).alloc (.cells #[.bool n2, .slice A2 c2 k2, .int .i64 E2] 70)).cell? ⟨w.heap.size + 1, 1, none⟩ = some (.slice A2 c2 k2) := by rw [cell_of_row _ _ _ _ _ _ hg2]; rfl
        have x4 : ((w.alloc (.cells #[.bool n1, .slice A1 c1 k1, .int .i64 E1] 70)).alloc (.cells #[.bool n2, .slice A2 c2 k2, .int .i64 E2] 70)).cell? ⟨w.heap.size + 1, 2, none⟩ = some (.int .i64 E2) := by rw [cell_of_row _ _ _ _ _ _ hg2]; rfl
        clear hs hg1 hg1' hg2 hsz h1 h2 h10 h20 hb1 hd hM hN
        go_enter Tryz.func105, Tryz.ntmps105
        go_wp2_with fail
        clear hb2
        generalize (w.alloc (.cells #[.bool n1, .slice A1 c1 k1, .int .i64 E1] 70)).alloc (.cells #[.bool n2, .slice A2 c2 k2, .int .i64 E2] 70) = W2 at *
        generalize hG : w.heap.size = g0 at *
        have HG := Lib.hid hG
        clear hG
        have hg0a : g0 < g0 + 2 := by omega
        have hg0b : g0 + 1 < g0 + 2 := by omega
        go_region_held3 (fun w' => w'.cell? ⟨g0, 1, none⟩ = some (.slice A1 c1 k1) ∧ w'.cell? ⟨g0, 2, none⟩ = some (.int .i64 E1) ∧ w'.cell? ⟨g0 + 1, 1, none⟩ = some (.slice A2 c2 k2) ∧ w'.cell? ⟨g0 + 1, 2, none⟩ = some (.int .i64 E2))
          (first | exact ⟨x1, x2, x3, x4⟩ | exact ⟨(hb3.cell (p := ⟨g0, 1, none⟩) (by rw [hsw]; exact hg0a)).trans x1, (hb3.cell (p := ⟨g0, 2, none⟩) (by rw [hsw]; exact hg0a)).trans x2, (hb3.cell (p := ⟨g0 + 1, 1, none⟩) (by rw [hsw]; exact hg0b)).trans x3, (hb3.cell (p := ⟨g0 + 1, 2, none⟩) (by rw [hsw]; exact hg0b)).trans x4⟩)
          (first | (go_at_call 125; refine hl.mono ?_; rintro e w3 ⟨va, rfl, hma, hb3⟩))
        all_goals go_wp2_with fail
        all_goals go_ret3
        all_goals exact ⟨_, _, _, M, N * 2 ^ s, rfl, hm1.below hb3, hma, (by rw [HG.out]; exact hdr.trans (hb3.mono (by rw [hsw]; omega))), Or.inr (Or.inr (Or.inr ⟨hM0, hN0, by omega, rfl, by rw [HS.out], rfl⟩))⟩
end Go.Proofs.YtpfbgenefjhcjaaGreatDoor
namespace Go.Proofs.YtpfbgenefjhcjaaGreatDoor
set_option linter.unusedVariables false
set_option linter.unusedSimpArgs false
open Go Go.RowKit
set_option maxRecDepth 100000
/-- What Plus tells of two numbers, of A * 2^e and B * 2^e. -/
def PlusOf (n1 n2 : Bool) (A B : Nat) : Bool × Nat := if n1 = n2 then (n1, A + B) else if B ≤ A then (n1, A - B) else (n2, B - A)
/-- A struct of three cells stored into a block of three: what is then there. -/
theorem cells3 {w : World} {g : Nat} {t : TypeId} {b0 b1 b2 : Value} (h : w.heap[g]? = some (.cells #[b0, b1, b2] t (0, 0))) :
    w.cell? ⟨g, 0, none⟩ = some b0 ∧ w.cell? ⟨g, 1, none⟩ = some b1 ∧ w.cell? ⟨g, 2, none⟩ = some b2 := by
  refine ⟨?_, ?_, ?_⟩ <;> (rw [cell_of_row _ _ _ _ _ _ h]; rfl)
def padL : Nat := 700
theorem lev_bound {M N A B L0 : Nat} {E1 E2 e : Int} (h : LevelOf M E1 N E2 A B e) (hM : M < W32 ^ L0) (hN : N < W32 ^ L0) (hE1 : -10000 ≤ E1 ∧ E1 ≤ 10000) (hE2 : -10000 ≤ E2 ∧ E2 ≤ 10000) : A < W32 ^ (L0 + padL) ∧ B < W32 ^ (L0 + padL) := by
  have hsh : ∀ X s : Nat, X < W32 ^ L0 → s ≤ 20000 → X * 2 ^ s < W32 ^ (L0 + padL) := fun X s hX hs => by
    have h1 : X * 2 ^ s < W32 ^ L0 * 2 ^ s := Nat.mul_lt_mul_of_pos_right hX (Nat.two_pow_pos s)
    refine Nat.lt_of_lt_of_le h1 ?_
    rw [Nat.pow_add]
    refine Nat.mul_le_mul_left _ ?_
    rw [W32_two]
    exact Nat.pow_le_pow_right (by decide) (by unfold padL; omega)
  have h0 : ∀ X : Nat, X < W32 ^ L0 → X < W32 ^ (L0 + padL) := fun X hX => Nat.lt_of_lt_of_le hX (Nat.pow_le_pow_right W32_pos (by omega))
  rcases h with ⟨_, rfl, rfl, _⟩ | ⟨_, _, rfl, rfl, _⟩ | ⟨_, _, _, rfl, rfl, _⟩ | ⟨_, _, _, rfl, rfl, _⟩
  · exact ⟨W32_pow _, h0 _ hN⟩
  · exact ⟨h0 _ hM, W32_pow _⟩
  · exact ⟨hsh _ _ hM (by omega), h0 _ hN⟩
  · exact ⟨h0 _ hM, hsh _ _ hN (by omega)⟩
set_option maxHeartbeats 8000000 in
theorem plus_level (w : World) (n1 n2 : Bool) (v1 v2 : Value) (E1 E2 : Int) (M N L0 : Nat) (h1 : MagIs w v1 M) (h2 : MagIs w v2 N) (hL : L0 ≤ 1000) (hM : M < W32 ^ L0) (hN : N < W32 ^ L0) (hE1 : -10000 ≤ E1 ∧ E1 ≤ 10000) (hE2 : -10000 ≤ E2 ∧ E2 ≤ 10000) :
    Calls Tryz.prog 58 #[.agg #[.bool n1, v1, .int .i64 E1], .agg #[.bool n2, v2, .int .i64 E2]] w fun e w' => ∃ (ng : Bool) (v : Value) (x : Int) (R : Nat), e = .returned (.agg #[.bool ng, v, .int .i64 x]) ∧ MagIs w' v R ∧ Below w.heap.size w w' ∧
      ((M = 0 ∧ ng = n2 ∧ R = N ∧ x = E2) ∨ (M ≠ 0 ∧ N = 0 ∧ ng = n1 ∧ R = M ∧ x = E1) ∨ ∃ (A B : Nat) (e0 : Int), M ≠ 0 ∧ N ≠ 0 ∧ LevelOf M E1 N E2 A B e0 ∧ R = (PlusOf n1 n2 A B).2 ∧ ((R = 0 ∧ x = 0 ∧ ng = false) ∨ (R ≠ 0 ∧ ng = (PlusOf n1 n2 A B).1 ∧ x = e0))) := by
  obtain ⟨A1, c1, k1, rfl, hc1, h10⟩ := h1.form
  obtain ⟨A2, c2, k2, rfl, hc2, h20⟩ := h2.form
  have hb1 := below_alloc w (.cells #[.bool n1, .slice A1 c1 k1, .int .i64 E1] 70)
  have hb2 := hb1.trans ((below_alloc (w.alloc (.cells #[.bool n1, .slice A1 c1 k1, .int .i64 E1] 70)) (.cells #[.bool n2, .slice A2 c2 k2, .int .i64 E2] 70)).mono (by simp))
  have hb3 := hb2.trans ((below_alloc ((w.alloc (.cells #[.bool n1, .slice A1 c1 k1, .int .i64 E1] 70)).alloc (.cells #[.bool n2, .slice A2 c2 k2, .int .i64 E2] 70)) (.cells #[.bool false, .slice none 0 0, .int .i64 0] 70)).mono (by simp; omega))
  have hlv := level_any _ n1 n2 _ _ E1 E2 M N L0 (h1.below hb3) (h2.below hb3) hL hM hN hE1 hE2
  have hm1 := h1.below hb3
  have hm2 := h2.below hb3
  have hg1 := heap_alloc_new w (.cells #[.bool n1, .slice A1 c1 k1, .int .i64 E1] 70)
  have hg2 := heap_alloc_new (w.alloc (.cells #[.bool n1, .slice A1 c1 k1, .int .i64 E1] 70)) (.cells #[.bool n2, .slice A2 c2 k2, .int .i64 E2] 70)
  have hg3 := heap_alloc_new ((w.alloc (.cells #[.bool n1, .slice A1 c1 k1, .int .i64 E1] 70)).alloc (.cells #[.bool n2, .slice A2 c2 k2, .int .i64 E2] 70)) (.cells #[.bool false, .slice none 0 0, .int .i64 0] 70)
  have s1 : (w.alloc (.cells #[.bool n1, .slice A1 c1 k1, .int .i64 E1] 70)).heap.size = w.heap.size + 1 := by simp
  have s2 : ((w.alloc (.cells #[.bool n1, .slice A1 c1 k1, .int .i64 E1] 70)).alloc (.cells #[.bool n2, .slice A2 c2 k2, .int .i64 E2] 70)).heap.size = w.heap.size + 1 + 1 := by simp
  rw [s1] at hg2
  rw [s2] at hg3
  have hg1' := ((below_alloc ((w.alloc (.cells #[.bool n1, .slice A1 c1 k1, .int .i64 E1] 70)).alloc (.cells #[.bool n2, .slice A2 c2 k2, .int .i64 E2] 70)) (.cells #[.bool false, .slice none 0 0, .int .i64 0] 70)).block w.heap.size (by rw [s2]; omega)).trans (((below_alloc (w.alloc (.cells #[.bool n1, .slice A1 c1 k1, .int .i64 E1] 70)) (.cells #[.bool n2, .slice A2 c2 k2, .int .i64 E2] 70)).block w.heap.size (by rw [s1]; omega)).trans hg1)
  have hg2' := ((below_alloc ((w.alloc (.cells #[.bool n1, .slice A1 c1 k1, .int .i64 E1] 70)).alloc (.cells #[.bool n2, .slice A2 c2 k2, .int .i64 E2] 70)) (.cells #[.bool false, .slice none 0 0, .int .i64 0] 70)).block (w.heap.size + 1) (by rw [s2]; omega)).trans hg2
  have s3 : (((w.alloc (.cells #[.bool n1, .slice A1 c1 k1, .int .i64 E1] 70)).alloc (.cells #[.bool n2, .slice A2 c2 k2, .int .i64 E2] 70)).alloc (.cells #[.bool false, .slice none 0 0, .int .i64 0] 70)).heap.size = w.heap.size + 3 := by simp
  clear hg1 hg2 s1 s2 hb1 hb2 h1 h2
  go_enter Tryz.func58, Tryz.ntmps58
  go_wp2_with fail
  generalize ((w.alloc (.cells #[.bool n1, .slice A1 c1 k1, .int .i64 E1] 70)).alloc (.cells #[.bool n2, .slice A2 c2 k2, .int .i64 E2] 70)).alloc (.cells #[.bool false, .slice none 0 0, .int .i64 0] 70) = W3 at *
  refine hlv.mono ?_
  rintro e w4 ⟨va, vb, e0, A, B, rfl, hA, hB, hb4, hLv⟩
  have hm1' := hm1.below hb4
  have hm2' := hm2.below hb4
  have hbel := hb3.trans (hb4.mono hb3.size)
  have q1 := (hb4.block w.heap.size (by rw [s3]; omega)).trans hg1'
  have q2 := (hb4.block (w.heap.size + 1) (by rw [s3]; omega)).trans hg2'
  have q3 := (hb4.block (w.heap.size + 1 + 1) (by rw [s3]; omega)).trans hg3
  have hsz4 : w.heap.size + 3 ≤ w4.heap.size := by rw [← s3]; exact hb4.size
  clear hlv hm1 hm2 hg1' hg2' hg3 hb4 hb3 s3
  obtain ⟨Aa, ca, ka, rfl, hca, hca0⟩ := hA.form
  obtain ⟨Ab, cb, kb, rfl, hcb, hcb0⟩ := hB.form
  obtain ⟨x10, x11, x12⟩ := cells3 q1
  obtain ⟨x20, x21, x22⟩ := cells3 q2
  have hb5 := below_alloc w4 (.cells #[.bool n1, .slice none 0 0, .int .i64 e0] 70)
  have p1 := (hb5.block w.heap.size (by omega)).trans q1
  have p2 := (hb5.block (w.heap.size + 1) (by omega)).trans q2
  have p3 := (hb5.block (w.heap.size + 1 + 1) (by omega)).trans q3
  have p8 := heap_alloc_new w4 (.cells #[.bool n1, .slice none 0 0, .int .i64 e0] 70)
  have hA5 := hA.below hb5
  have hB5 := hB.below hb5
  have hm15 := hm1'.below hb5
  have hm25 := hm2'.below hb5
  have hbel5 := hbel.trans (hb5.mono hbel.size)
  have hsz5 : (w4.alloc (.cells #[.bool n1, .slice none 0 0, .int .i64 e0] 70)).heap.size = w4.heap.size + 1 := by simp
  go_upto_region 5 with fail
  clear x10 x11 x12 x20 x21 x22 q1 q2 q3 hbel hm1' hm2' hA hB hb5
  generalize w4.alloc (.cells #[.bool n1, .slice none 0 0, .int .i64 e0] 70) = W5 at *
  generalize w4.heap.size = g8 at *
  obtain ⟨x10, x11, x12⟩ := cells3 p1
  obtain ⟨x20, x21, x22⟩ := cells3 p2
  obtain ⟨x30, x31, x32⟩ := cells3 p3
  have hf3 : ∀ j, W5.frozen? ⟨w.heap.size + 1 + 1, j, none⟩ = false := fun j => frozen_of_row W5 _ j _ _ p3
  by_cases hza : ca = 0
  · subst hza
    have hA0 : A = 0 := hca0.1 rfl
    have hM0 : M = 0 := by
      rcases hLv with ⟨h, _⟩ | ⟨h, _, h2, _⟩ | ⟨h, _, _, h2, _⟩ | ⟨h, _, _, h2, _⟩
      · exact h
      · omega
      · exfalso
        rw [hA0] at h2
        rcases Nat.mul_eq_zero.1 h2.symm with h3 | h3
        · exact h h3
        · have := Nat.two_pow_pos (E1 - E2).toNat; omega
      · omega
    go_wp2_with fail
    obtain ⟨hg9, hgr9⟩ := set3 p3 (.bool n2) (.slice A2 c2 k2) (.int .i64 E2)
    have hm9 := (hm25).other p3 hgr9
    have hb9 := (hbel5).trans (below_of_grown' hgr9 (hbel5).size (by omega))
    generalize (((W5).setCell ⟨w.heap.size + 1 + 1, 0, none⟩ (.bool n2)).setCell ⟨w.heap.size + 1 + 1, 1, none⟩ (.slice A2 c2 k2)).setCell ⟨w.heap.size + 1 + 1, 2, none⟩ (.int .i64 E2) = W9 at *
    obtain ⟨j0, j1, j2⟩ := cells3 hg9
    refine bodyPost_ret (v := .agg #[.bool n2, .slice A2 c2 k2, .int .i64 E2]) (by simp [results, Tryz.results58, go_sem, j0, j1, j2]) rfl ?_
    exact ⟨_, _, _, _, rfl, hm9, hb9, Or.inl ⟨hM0, rfl, rfl, rfl⟩⟩
  · have hA0 : A ≠ 0 := fun e => hza (hca0.2 e)
    have hM0 : M ≠ 0 := by
      rcases hLv with ⟨_, h, _⟩ | ⟨h, _⟩ | ⟨h, _⟩ | ⟨h, _⟩
      · exact absurd h hA0
      · exact h
      · exact h
      · exact h
    have hca1 : ((ca : Int) == 0) = false := by rw [beq_eq_false_iff_ne]; omega
    by_cases hzb : cb = 0
    · subst hzb
      have hB0 : B = 0 := hcb0.1 rfl
      have hN0 : N = 0 := by
        rcases hLv with ⟨h, _⟩ | ⟨_, h, _⟩ | ⟨_, _, _, _, h2, _⟩ | ⟨_, h, _, _, h2, _⟩
        · exact absurd h hM0
        · exact h
        · omega
        · exfalso
          rw [hB0] at h2
          rcases Nat.mul_eq_zero.1 h2.symm with h3 | h3
          · exact h h3
          · have := Nat.two_pow_pos (E2 - E1).toNat; omega
      go_wp2_with fail
      obtain ⟨hg9, hgr9⟩ := set3 p3 (.bool n1) (.slice A1 c1 k1) (.int .i64 E1)
      have hm9 := (hm15).other p3 hgr9
      have hb9 := (hbel5).trans (below_of_grown' hgr9 (hbel5).size (by omega))
      generalize (((W5).setCell ⟨w.heap.size + 1 + 1, 0, none⟩ (.bool n1)).setCell ⟨w.heap.size + 1 + 1, 1, none⟩ (.slice A1 c1 k1)).setCell ⟨w.heap.size + 1 + 1, 2, none⟩ (.int .i64 E1) = W9 at *
      obtain ⟨j0, j1, j2⟩ := cells3 hg9
      refine bodyPost_ret (v := .agg #[.bool n1, .slice A1 c1 k1, .int .i64 E1]) (by simp [results, Tryz.results58, go_sem, j0, j1, j2]) rfl ?_
      exact ⟨_, _, _, _, rfl, hm9, hb9, Or.inr (Or.inl ⟨hM0, hN0, rfl, rfl, rfl⟩)⟩
    · have hB0 : B ≠ 0 := fun e => hzb (hcb0.2 e)
      have hN0 : N ≠ 0 := by
        rcases hLv with ⟨h, _⟩ | ⟨_, _, _, h, _⟩ | ⟨_, h, _⟩ | ⟨_, h, _⟩
        · exact absurd h hM0
        · exact absurd h hB0
        · exact h
        · exact h
      have hcb1 : ((cb : Int) == 0) = false := by rw [beq_eq_false_iff_ne]; omega
      obtain ⟨hAb, hBb⟩ := lev_bound hLv hM hN hE1 hE2
      have hg8 : w.heap.size + 1 + 1 ≠ g8 := by omega
      have hg82 : w.heap.size + 1 ≠ g8 := by omega
      have hf8 : ∀ j, W5.frozen? ⟨g8, j, none⟩ = false := fun j => frozen_of_row W5 _ j _ _ p8
      by_cases hsame : n1 = n2
      · subst hsame
        have hop := plus_any W5 _ _ A B (L0 + padL) (by unfold padL; omega) hA5 hB5 hAb hBb
        have hR : (PlusOf n1 n1 A B).2 = A + B := by unfold PlusOf; rw [if_pos rfl]
        have hR1 : (PlusOf n1 n1 A B).1 = n1 := by unfold PlusOf; rw [if_pos rfl]
        have hRn : A + B ≠ 0 := by omega
        have HF := Lib.hid (show ∀ x ng, ((A + B = 0 ∧ x = 0 ∧ ng = false) ∨ (A + B ≠ 0 ∧ ng = n1 ∧ x = e0)) → ∃ (A' B' : Nat) (e' : Int), M ≠ 0 ∧ N ≠ 0 ∧ LevelOf M E1 N E2 A' B' e' ∧ A + B = (PlusOf n1 n1 A' B').2 ∧ ((A + B = 0 ∧ x = 0 ∧ ng = false) ∨ (A + B ≠ 0 ∧ ng = (PlusOf n1 n1 A' B').1 ∧ x = e')) from fun x ng h => ⟨A, B, e0, hM0, hN0, hLv, hR.symm, by rw [hR1]; exact h⟩)
        clear hLv hR hR1 hM0 hN0 hA0 hB0 hA5 hB5 hm15 hm25 hAb hBb
        generalize A + B = R at *
        go_wp2_with fail
        refine hop.mono ?_
        rintro e w6 ⟨v', rfl, hm6, hb6⟩
        have q3 := (hb6.block (w.heap.size + 1 + 1) (by omega)).trans p3
        have q8 := (hb6.block g8 (by omega)).trans p8
        have hbel6 := hbel5.trans (hb6.mono (by omega))
        obtain ⟨Av, cv6, kv, rfl, hcv, hcv0⟩ := hm6.form
        obtain ⟨y80, y81, y82⟩ := cells3 q8
        have hfr8 : ∀ j, w6.frozen? ⟨g8, j, none⟩ = false := fun j => frozen_of_row w6 _ j _ _ q8
        have hfr3 : ∀ j, w6.frozen? ⟨w.heap.size + 1 + 1, j, none⟩ = false := fun j => frozen_of_row w6 _ j _ _ q3
        obtain ⟨y30, y31, y32⟩ := cells3 q3
        have q8' : (w6.setCell ⟨g8, 1, none⟩ (.slice Av cv6 kv)).heap[g8]? = some (.cells #[.bool n1, .slice Av cv6 kv, .int .i64 e0] 70 (0, 0)) := heap_setCell_same w6 g8 1 _ _ _ q8
        have q3' : (w6.setCell ⟨g8, 1, none⟩ (.slice Av cv6 kv)).heap[w.heap.size + 1 + 1]? = some (.cells #[.bool false, .slice none 0 0, .int .i64 0] 70 (0, 0)) := (heap_setCell_other w6 ⟨g8, 1, none⟩ (w.heap.size + 1 + 1) _ hg8).trans q3
        have hgr := grown_set (grown_refl w6 (some g8)) 1 (.slice Av cv6 kv)
        have hm7 := hm6.other q8 hgr
        have hbel7 := hbel6.trans (below_of_grown' hgr hbel6.size (by omega))
        have hcvn : cv6 ≠ 0 := fun e => hRn (hcv0.1 e)
        have hcv1 : ((cv6 : Int) == 0) = false := by rw [beq_eq_false_iff_ne]; omega
        go_wp2_with fail
        obtain ⟨hg9, hgr9⟩ := set3 q3' (.bool n1) (.slice Av cv6 kv) (.int .i64 e0)
        have hm9 := (hm7).other q3' hgr9
        have hb9 := (hbel7).trans (below_of_grown' hgr9 (hbel7).size (by omega))
        generalize (((w6.setCell ⟨g8, 1, none⟩ (.slice Av cv6 kv)).setCell ⟨w.heap.size + 1 + 1, 0, none⟩ (.bool n1)).setCell ⟨w.heap.size + 1 + 1, 1, none⟩ (.slice Av cv6 kv)).setCell ⟨w.heap.size + 1 + 1, 2, none⟩ (.int .i64 e0) = W9 at *
        obtain ⟨j0, j1, j2⟩ := cells3 hg9
        refine bodyPost_ret (v := .agg #[.bool n1, .slice Av cv6 kv, .int .i64 e0]) (by simp [results, Tryz.results58, go_sem, j0, j1, j2]) rfl ?_
        exact ⟨_, _, _, _, rfl, hm9, hb9, Or.inr (Or.inr (HF.out _ _ (Or.inr ⟨hRn, rfl, rfl⟩)))⟩
      · have hnb : (n1 == n2) = false := by rw [beq_eq_false_iff_ne]; exact hsame
        have hcm := rcmp_any W5 _ _ A B hA5 hB5
        by_cases hge : B ≤ A
        · have hcz : (0 : Int) ≤ cmpN A B := by unfold cmpN; rw [Int.sign_nonneg_iff]; omega
          have hR : (PlusOf n1 n2 A B).2 = A - B := by unfold PlusOf; rw [if_neg hsame, if_pos hge]
          have hR1 : (PlusOf n1 n2 A B).1 = n1 := by unfold PlusOf; rw [if_neg hsame, if_pos hge]
          have hops := fun w6 (h6 : Below W5.heap.size W5 w6) => minus_any w6 _ _ A B (L0 + padL) (by unfold padL; omega) (hA5.below h6) (hB5.below h6) hAb hge
          have HF := Lib.hid (show ∀ x ng, ((A - B = 0 ∧ x = 0 ∧ ng = false) ∨ (A - B ≠ 0 ∧ ng = n1 ∧ x = e0)) → ∃ (A' B' : Nat) (e' : Int), M ≠ 0 ∧ N ≠ 0 ∧ LevelOf M E1 N E2 A' B' e' ∧ A - B = (PlusOf n1 n2 A' B').2 ∧ ((A - B = 0 ∧ x = 0 ∧ ng = false) ∨ (A - B ≠ 0 ∧ ng = (PlusOf n1 n2 A' B').1 ∧ x = e')) from fun x ng h => ⟨A, B, e0, hM0, hN0, hLv, hR.symm, by rw [hR1]; exact h⟩)
          clear hLv hR hR1 hM0 hN0 hA0 hB0 hA5 hB5 hm15 hm25 hAb hBb
          generalize A - B = R at *
          generalize cmpN A B = cv at *
          go_wp2_with fail
          refine hcm.mono ?_
          rintro e w5 ⟨rfl, hb55⟩
          have hop := hops w5 hb55
          clear hops hcm
          go_wp2_with fail
          refine hop.mono ?_
          rintro e w6 ⟨v', rfl, hm6, hb66⟩
          have hb6 := hb55.trans (hb66.mono hb55.size)
          clear hb55 hb66
          have q3 := (hb6.block (w.heap.size + 1 + 1) (by omega)).trans p3
          have q8 := (hb6.block g8 (by omega)).trans p8
          have hbel6 := hbel5.trans (hb6.mono (by omega))
          obtain ⟨Av, cv6, kv, rfl, hcv, hcv0⟩ := hm6.form
          obtain ⟨y80, y81, y82⟩ := cells3 q8
          have hfr8 : ∀ j, w6.frozen? ⟨g8, j, none⟩ = false := fun j => frozen_of_row w6 _ j _ _ q8
          have hfr3 : ∀ j, w6.frozen? ⟨w.heap.size + 1 + 1, j, none⟩ = false := fun j => frozen_of_row w6 _ j _ _ q3
          obtain ⟨y30, y31, y32⟩ := cells3 q3
          have q8' : (w6.setCell ⟨g8, 1, none⟩ (.slice Av cv6 kv)).heap[g8]? = some (.cells #[.bool n1, .slice Av cv6 kv, .int .i64 e0] 70 (0, 0)) := heap_setCell_same w6 g8 1 _ _ _ q8
          have q3' : (w6.setCell ⟨g8, 1, none⟩ (.slice Av cv6 kv)).heap[w.heap.size + 1 + 1]? = some (.cells #[.bool false, .slice none 0 0, .int .i64 0] 70 (0, 0)) := (heap_setCell_other w6 ⟨g8, 1, none⟩ (w.heap.size + 1 + 1) _ hg8).trans q3
          have hgr := grown_set (grown_refl w6 (some g8)) 1 (.slice Av cv6 kv)
          have hm7 := hm6.other q8 hgr
          have hbel7 := hbel6.trans (below_of_grown' hgr hbel6.size (by omega))
          by_cases hzv : cv6 = 0
          · subst hzv
            have hR0 := hcv0.1 rfl
            have HR0 := Lib.hid hR0
            clear hR0 hcv0 hcv
            go_wp2_with fail
            have hR0 := HR0.out
            obtain ⟨hg9, hgr9⟩ := set3 q3' (.bool false) (.slice none 0 0) (.int .i64 0)
            have hm9 := (show MagIs _ (.slice none 0 0) R from Or.inl ⟨rfl, hR0⟩).other q3' hgr9
            have hb9 := (hbel7).trans (below_of_grown' hgr9 (hbel7).size (by omega))
            generalize (((w6.setCell ⟨g8, 1, none⟩ (.slice Av 0 kv)).setCell ⟨w.heap.size + 1 + 1, 0, none⟩ (.bool false)).setCell ⟨w.heap.size + 1 + 1, 1, none⟩ (.slice none 0 0)).setCell ⟨w.heap.size + 1 + 1, 2, none⟩ (.int .i64 0) = W9 at *
            obtain ⟨j0, j1, j2⟩ := cells3 hg9
            refine bodyPost_ret (v := .agg #[.bool false, .slice none 0 0, .int .i64 0]) (by simp [results, Tryz.results58, go_sem, j0, j1, j2]) rfl ?_
            exact ⟨_, _, _, _, rfl, hm9, hb9, Or.inr (Or.inr (HF.out _ _ (Or.inl ⟨hR0, rfl, rfl⟩)))⟩
          · have hcvn : R ≠ 0 := fun e => hzv (hcv0.2 e)
            have hcv1 : ((cv6 : Int) == 0) = false := by rw [beq_eq_false_iff_ne]; omega
            go_wp2_with fail
            obtain ⟨hg9, hgr9⟩ := set3 q3' (.bool n1) (.slice Av cv6 kv) (.int .i64 e0)
            have hm9 := (hm7).other q3' hgr9
            have hb9 := (hbel7).trans (below_of_grown' hgr9 (hbel7).size (by omega))
            generalize (((w6.setCell ⟨g8, 1, none⟩ (.slice Av cv6 kv)).setCell ⟨w.heap.size + 1 + 1, 0, none⟩ (.bool n1)).setCell ⟨w.heap.size + 1 + 1, 1, none⟩ (.slice Av cv6 kv)).setCell ⟨w.heap.size + 1 + 1, 2, none⟩ (.int .i64 e0) = W9 at *
            obtain ⟨j0, j1, j2⟩ := cells3 hg9
            refine bodyPost_ret (v := .agg #[.bool n1, .slice Av cv6 kv, .int .i64 e0]) (by simp [results, Tryz.results58, go_sem, j0, j1, j2]) rfl ?_
            exact ⟨_, _, _, _, rfl, hm9, hb9, Or.inr (Or.inr (HF.out _ _ (Or.inr ⟨hcvn, rfl, rfl⟩)))⟩
        · have hcz : decide ((0 : Int) ≤ cmpN A B) = false := by
            rw [decide_eq_false_iff_not]; unfold cmpN; rw [Int.sign_nonneg_iff]; omega
          have hR : (PlusOf n1 n2 A B).2 = B - A := by unfold PlusOf; rw [if_neg hsame, if_neg hge]
          have hR1 : (PlusOf n1 n2 A B).1 = n2 := by unfold PlusOf; rw [if_neg hsame, if_neg hge]
          have hRn : B - A ≠ 0 := by omega
          have HF := Lib.hid (show ∀ x ng, ((B - A = 0 ∧ x = 0 ∧ ng = false) ∨ (B - A ≠ 0 ∧ ng = n2 ∧ x = e0)) → ∃ (A' B' : Nat) (e' : Int), M ≠ 0 ∧ N ≠ 0 ∧ LevelOf M E1 N E2 A' B' e' ∧ B - A = (PlusOf n1 n2 A' B').2 ∧ ((B - A = 0 ∧ x = 0 ∧ ng = false) ∨ (B - A ≠ 0 ∧ ng = (PlusOf n1 n2 A' B').1 ∧ x = e')) from fun x ng h => ⟨A, B, e0, hM0, hN0, hLv, hR.symm, by rw [hR1]; exact h⟩)
          have hops : ∀ w5 : World, Below W5.heap.size W5 w5 → _ := fun w5 h5 =>
            have r8 := (h5.block g8 (by omega)).trans p8
            have hgr := grown_set (grown_refl w5 (some g8)) 0 (.bool n2)
            minus_any (w5.setCell ⟨g8, 0, none⟩ (.bool n2)) _ _ B A (L0 + padL) (by unfold padL; omega) ((hB5.below h5).other r8 hgr) ((hA5.below h5).other r8 hgr) hBb (by omega)
          clear hLv hR hR1 hM0 hN0 hA0 hB0 hA5 hB5 hm15 hm25 hAb hBb hge
          generalize B - A = R at *
          generalize cmpN A B = cv at *
          go_wp2_with fail
          refine hcm.mono ?_
          rintro e w5 ⟨rfl, hb55⟩
          have hop := hops w5 hb55
          have r2 := (hb55.block (w.heap.size + 1) (by omega)).trans p2
          have r3 := (hb55.block (w.heap.size + 1 + 1) (by omega)).trans p3
          have r8 := (hb55.block g8 (by omega)).trans p8
          obtain ⟨z20, z21, z22⟩ := cells3 r2
          obtain ⟨z80, z81, z82⟩ := cells3 r8
          have hfz8 : ∀ j, w5.frozen? ⟨g8, j, none⟩ = false := fun j => frozen_of_row w5 _ j _ _ r8
          have hgr0 := grown_set (grown_refl w5 (some g8)) 0 (.bool n2)
          have r8' : (w5.setCell ⟨g8, 0, none⟩ (.bool n2)).heap[g8]? = some (.cells #[.bool n2, .slice none 0 0, .int .i64 e0] 70 (0, 0)) := heap_setCell_same w5 g8 0 _ _ _ r8
          have r3' : (w5.setCell ⟨g8, 0, none⟩ (.bool n2)).heap[w.heap.size + 1 + 1]? = some (.cells #[.bool false, .slice none 0 0, .int .i64 0] 70 (0, 0)) := (heap_setCell_other w5 ⟨g8, 0, none⟩ (w.heap.size + 1 + 1) _ hg8).trans r3
          have hbel55 := (hbel5.trans (hb55.mono (by omega))).trans (below_of_grown' hgr0 (by have := hb55.size; omega) (by omega))
          have hs55 : W5.heap.size ≤ (w5.setCell ⟨g8, 0, none⟩ (.bool n2)).heap.size := Nat.le_trans hb55.size hgr0.size
          clear hops hcm r2 r3 r8
          go_wp2_with fail
          refine hop.mono ?_
          rintro e w6 ⟨v', rfl, hm6, hb6⟩
          have q3 := (hb6.block (w.heap.size + 1 + 1) (by omega)).trans r3'
          have q8 := (hb6.block g8 (by omega)).trans r8'
          have hbel6 := hbel55.trans (hb6.mono (by omega))
          obtain ⟨Av, cv6, kv, rfl, hcv, hcv0⟩ := hm6.form
          obtain ⟨y80, y81, y82⟩ := cells3 q8
          have hfr8 : ∀ j, w6.frozen? ⟨g8, j, none⟩ = false := fun j => frozen_of_row w6 _ j _ _ q8
          have hfr3 : ∀ j, w6.frozen? ⟨w.heap.size + 1 + 1, j, none⟩ = false := fun j => frozen_of_row w6 _ j _ _ q3
          obtain ⟨y30, y31, y32⟩ := cells3 q3
          have q8' : (w6.setCell ⟨g8, 1, none⟩ (.slice Av cv6 kv)).heap[g8]? = some (.cells #[.bool n2, .slice Av cv6 kv, .int .i64 e0] 70 (0, 0)) := heap_setCell_same w6 g8 1 _ _ _ q8
          have q3' : (w6.setCell ⟨g8, 1, none⟩ (.slice Av cv6 kv)).heap[w.heap.size + 1 + 1]? = some (.cells #[.bool false, .slice none 0 0, .int .i64 0] 70 (0, 0)) := (heap_setCell_other w6 ⟨g8, 1, none⟩ (w.heap.size + 1 + 1) _ hg8).trans q3
          have hgr := grown_set (grown_refl w6 (some g8)) 1 (.slice Av cv6 kv)
          have hm7 := hm6.other q8 hgr
          have hbel7 := hbel6.trans (below_of_grown' hgr hbel6.size (by omega))
          have hcvn : cv6 ≠ 0 := fun e => hRn (hcv0.1 e)
          have hcv1 : ((cv6 : Int) == 0) = false := by rw [beq_eq_false_iff_ne]; omega
          go_wp2_with fail
          obtain ⟨hg9, hgr9⟩ := set3 q3' (.bool n2) (.slice Av cv6 kv) (.int .i64 e0)
          have hm9 := (hm7).other q3' hgr9
          have hb9 := (hbel7).trans (below_of_grown' hgr9 (hbel7).size (by omega))
          generalize (((w6.setCell ⟨g8, 1, none⟩ (.slice Av cv6 kv)).setCell ⟨w.heap.size + 1 + 1, 0, none⟩ (.bool n2)).setCell ⟨w.heap.size + 1 + 1, 1, none⟩ (.slice Av cv6 kv)).setCell ⟨w.heap.size + 1 + 1, 2, none⟩ (.int .i64 e0) = W9 at *
          obtain ⟨j0, j1, j2⟩ := cells3 hg9
          refine bodyPost_ret (v := .agg #[.bool n2, .slice Av cv6 kv, .int .i64 e0]) (by simp [results, Tryz.results58, go_sem, j0, j1, j2]) rfl ?_
          exact ⟨_, _, _, _, rfl, hm9, hb9, Or.inr (Or.inr (HF.out _ _ (Or.inr ⟨hRn, rfl, rfl⟩)))⟩
end Go.Proofs.YtpfbgenefjhcjaaGreatDoor
namespace Go.Proofs.YtpfbgenefjhcjaaGreatDoor
set_option linter.unusedVariables false
set_option linter.unusedSimpArgs false
open Go Go.RowKit
set_option maxRecDepth 100000
def sgn (neg : Bool) (m : Nat) : Int := if neg = true then -(m : Int) else (m : Int)
theorem sgn_natAbs (neg : Bool) (m : Nat) : (sgn neg m).natAbs = m := by unfold sgn; split <;> omega
theorem NumIs.def' {w : World} {neg : Bool} {v : Value} {E z : Int} : NumIs w neg v E z ↔ ∃ M : Nat, MagIs w v M ∧ (M = 0 → E = 0) ∧ -2212 ≤ E ∧ E ≤ 5000 ∧ M < W32 ^ 400 ∧ z = sgn neg (M * 2 ^ (E + 2212).toNat) := Iff.rfl
theorem PlusOf_mul (n1 n2 : Bool) (A B p : Nat) (hp : 0 < p) : sgn (PlusOf n1 n2 A B).1 ((PlusOf n1 n2 A B).2 * p) = sgn n1 (A * p) + sgn n2 (B * p) := by
  unfold PlusOf
  by_cases h : n1 = n2
  · rw [if_pos h]
    subst h
    show sgn n1 ((A + B) * p) = _
    rw [Nat.add_mul]
    unfold sgn
    split <;> omega
  · rw [if_neg h]
    by_cases hle : B ≤ A
    · rw [if_pos hle]
      show sgn n1 ((A - B) * p) = _
      have h1 : (A - B) * p = A * p - B * p := Nat.sub_mul _ _ _
      have h2 : B * p ≤ A * p := Nat.mul_le_mul_right _ hle
      rw [h1]
      unfold sgn
      cases n1 <;> cases n2 <;> simp_all <;> omega
    · rw [if_neg hle]
      show sgn n2 ((B - A) * p) = _
      have h1 : (B - A) * p = B * p - A * p := Nat.sub_mul _ _ _
      have h2 : A * p ≤ B * p := Nat.mul_le_mul_right _ (by omega)
      rw [h1]
      unfold sgn
      cases n1 <;> cases n2 <;> simp_all <;> omega
theorem level_real {M N A B : Nat} {E1 E2 e : Int} (h : LevelOf M E1 N E2 A B e) (hM : M ≠ 0) (hN : N ≠ 0) (hE1 : -2212 ≤ E1) (hE2 : -2212 ≤ E2) :
    M * 2 ^ (E1 + 2212).toNat = A * 2 ^ (e + 2212).toNat ∧ N * 2 ^ (E2 + 2212).toNat = B * 2 ^ (e + 2212).toNat ∧ (e = E1 ∨ e = E2) := by
  rcases h with ⟨h, _⟩ | ⟨_, h, _⟩ | ⟨_, _, hlt, hA, hB, he⟩ | ⟨_, _, hle, hA, hB, he⟩
  · exact absurd h hM
  · exact absurd h hN
  · rw [hA, hB, he]
    refine ⟨?_, rfl, Or.inr rfl⟩
    rw [Nat.mul_assoc, ← Nat.pow_add, show (E1 - E2).toNat + (E2 + 2212).toNat = (E1 + 2212).toNat by omega]
  · rw [hA, hB, he]
    refine ⟨rfl, ?_, Or.inl rfl⟩
    rw [Nat.mul_assoc, ← Nat.pow_add, show (E2 - E1).toNat + (E1 + 2212).toNat = (E2 + 2212).toNat by omega]
theorem NumIs.below {w w1 : World} {neg : Bool} {v : Value} {E z : Int} (h : NumIs w neg v E z) (hb : Below w.heap.size w w1) : NumIs w1 neg v E z := by
  obtain ⟨M, h1, h2⟩ := h
  exact ⟨M, h1.below hb, h2⟩
theorem plus_num (w : World) (n1 n2 : Bool) (v1 v2 : Value) (E1 E2 z1 z2 : Int) (h1 : NumIs w n1 v1 E1 z1) (h2 : NumIs w n2 v2 E2 z2) (hb : (z1 + z2).natAbs < W32 ^ 400) :
    Calls Tryz.prog 58 #[.agg #[.bool n1, v1, .int .i64 E1], .agg #[.bool n2, v2, .int .i64 E2]] w fun e w' => ∃ (ng : Bool) (v : Value) (x : Int), e = .returned (.agg #[.bool ng, v, .int .i64 x]) ∧ NumIs w' ng v x (z1 + z2) ∧ Below w.heap.size w w' := by
  obtain ⟨M, hm1, hM0, hE1, hE1', hMl, hz1⟩ := NumIs.def'.1 h1
  obtain ⟨N, hm2, hN0, hE2, hE2', hNl, hz2⟩ := NumIs.def'.1 h2
  refine (plus_level w n1 n2 v1 v2 E1 E2 M N 400 hm1 hm2 (by decide) hMl hNl (by omega) (by omega)).mono ?_
  rintro e w' ⟨ng, v, x, R, he, hmR, hbel, hcase⟩
  refine ⟨ng, v, x, he, ?_, hbel⟩
  rw [NumIs.def']
  rcases hcase with ⟨hM, rfl, rfl, rfl⟩ | ⟨hM, hN, rfl, rfl, rfl⟩ | ⟨A, B, e0, hM, hN, hL, hR, hfin⟩
  · refine ⟨R, hmR, hN0, hE2, hE2', hNl, ?_⟩
    rw [hz2, hz1, hM, Nat.zero_mul]
    unfold sgn
    split <;> simp
  · refine ⟨R, hmR, hM0, hE1, hE1', hMl, ?_⟩
    rw [hz1, hz2, hN, Nat.zero_mul]
    unfold sgn
    split <;> split <;> simp
  · obtain ⟨r1, r2, re⟩ := level_real hL hM hN hE1 hE2
    have hp := Nat.two_pow_pos (e0 + 2212).toNat
    have hreal := PlusOf_mul n1 n2 A B (2 ^ (e0 + 2212).toNat) hp
    rw [← r1, ← r2, ← hz1, ← hz2, ← hR] at hreal
    rcases hfin with ⟨hR0, rfl, rfl⟩ | ⟨hR0, rfl, rfl⟩
    · refine ⟨R, hmR, fun _ => rfl, by omega, by omega, by rw [hR0]; exact Nat.lt_of_le_of_lt (Nat.zero_le _) hMl, ?_⟩
      rw [← hreal, hR0, Nat.zero_mul, Nat.zero_mul]
      unfold sgn
      split <;> simp
    · refine ⟨R, hmR, fun h => absurd h hR0, by omega, by omega, ?_, hreal.symm⟩
      rw [← hreal, sgn_natAbs] at hb
      generalize W32 ^ 400 = T at hb ⊢
      exact Nat.lt_of_le_of_lt (Nat.le_mul_of_pos_right _ hp) hb
set_option linter.unusedVariables false
set_option linter.unusedSimpArgs false
open Go Go.RowKit
set_option maxRecDepth 100000
set_option maxHeartbeats 4000000 in
/-- Times of two numbers that are not 0. -/
theorem Times_num (w : World) (n1 n2 : Bool) (v1 v2 : Value) (E1 E2 : Int) (M N L0 : Nat) (h1 : MagIs w v1 M) (h2 : MagIs w v2 N) (hL : L0 ≤ 1000) (hM : M < W32 ^ L0) (hN : N < W32 ^ L0) (hM0 : M ≠ 0) (hN0 : N ≠ 0) (hE1 : -10000 ≤ E1 ∧ E1 ≤ 10000) (hE2 : -10000 ≤ E2 ∧ E2 ≤ 10000) :
    Calls Tryz.prog 83 #[.agg #[.bool n1, v1, .int .i64 E1], .agg #[.bool n2, v2, .int .i64 E2]] w fun e w' => ∃ v, e = .returned (.agg #[.bool (n1 != n2), v, .int .i64 (E1 + E2)]) ∧ MagIs w' v (M * N) ∧ Below w.heap.size w w' := by
  obtain ⟨A1, c1, k1, rfl, hc1, h10⟩ := h1.form
  obtain ⟨A2, c2, k2, rfl, hc2, h20⟩ := h2.form
  have hc1' : ((c1 : Int) == 0) = false := by rw [beq_eq_false_iff_ne]; intro e; exact hM0 (h10.1 (by omega))
  have hc2' : ((c2 : Int) == 0) = false := by rw [beq_eq_false_iff_ne]; intro e; exact hN0 (h20.1 (by omega))
  have hw1 : IntKind.i64.wrap (E1 + E2) = E1 + E2 := by rw [IntKind.wrap_i64]; omega
  have hb1 := below_alloc w (.cells #[.bool n1, .slice A1 c1 k1, .int .i64 E1] 70)
  have hb2 := hb1.trans ((below_alloc (w.alloc (.cells #[.bool n1, .slice A1 c1 k1, .int .i64 E1] 70)) (.cells #[.bool n2, .slice A2 c2 k2, .int .i64 E2] 70)).mono (by simp))
  have hb3 := hb2.trans ((below_alloc ((w.alloc (.cells #[.bool n1, .slice A1 c1 k1, .int .i64 E1] 70)).alloc (.cells #[.bool n2, .slice A2 c2 k2, .int .i64 E2] 70)) (.cells #[.bool false, .slice none 0 0, .int .i64 0] 70)).mono (by simp; omega))
  have htm := times_any _ _ _ M N L0 (by omega) (h1.below hb3.drew) (h2.below hb3.drew) hM hN
  have hg1 := heap_alloc_new w (.cells #[.bool n1, .slice A1 c1 k1, .int .i64 E1] 70)
  have hg2 := heap_alloc_new (w.alloc (.cells #[.bool n1, .slice A1 c1 k1, .int .i64 E1] 70)) (.cells #[.bool n2, .slice A2 c2 k2, .int .i64 E2] 70)
  have hg3 := heap_alloc_new ((w.alloc (.cells #[.bool n1, .slice A1 c1 k1, .int .i64 E1] 70)).alloc (.cells #[.bool n2, .slice A2 c2 k2, .int .i64 E2] 70)) (.cells #[.bool false, .slice none 0 0, .int .i64 0] 70)
  have s1 : (w.alloc (.cells #[.bool n1, .slice A1 c1 k1, .int .i64 E1] 70)).heap.size = w.heap.size + 1 := by simp
  have s2 : ((w.alloc (.cells #[.bool n1, .slice A1 c1 k1, .int .i64 E1] 70)).alloc (.cells #[.bool n2, .slice A2 c2 k2, .int .i64 E2] 70)).heap.size = w.heap.size + 1 + 1 := by simp
  rw [s1] at hg2
  rw [s2] at hg3
  have hg1' := ((below_alloc ((w.alloc (.cells #[.bool n1, .slice A1 c1 k1, .int .i64 E1] 70)).alloc (.cells #[.bool n2, .slice A2 c2 k2, .int .i64 E2] 70)) (.cells #[.bool false, .slice none 0 0, .int .i64 0] 70)).block w.heap.size (by rw [s2]; omega)).trans (((below_alloc (w.alloc (.cells #[.bool n1, .slice A1 c1 k1, .int .i64 E1] 70)) (.cells #[.bool n2, .slice A2 c2 k2, .int .i64 E2] 70)).block w.heap.size (by rw [s1]; omega)).trans hg1)
  have hg2' := ((below_alloc ((w.alloc (.cells #[.bool n1, .slice A1 c1 k1, .int .i64 E1] 70)).alloc (.cells #[.bool n2, .slice A2 c2 k2, .int .i64 E2] 70)) (.cells #[.bool false, .slice none 0 0, .int .i64 0] 70)).block (w.heap.size + 1) (by rw [s2]; omega)).trans hg2
  have s3 : (((w.alloc (.cells #[.bool n1, .slice A1 c1 k1, .int .i64 E1] 70)).alloc (.cells #[.bool n2, .slice A2 c2 k2, .int .i64 E2] 70)).alloc (.cells #[.bool false, .slice none 0 0, .int .i64 0] 70)).heap.size = w.heap.size + 3 := by simp
  obtain ⟨x10, x11, x12⟩ := cells3 hg1'
  obtain ⟨x20, x21, x22⟩ := cells3 hg2'
  clear hg1 hg2 s1 s2 hb1 hb2 h1 h2 h10 h20 hM hN hM0 hN0
  go_enter Tryz.func83, Tryz.ntmps83
  go_wp2_with fail
  generalize ((w.alloc (.cells #[.bool n1, .slice A1 c1 k1, .int .i64 E1] 70)).alloc (.cells #[.bool n2, .slice A2 c2 k2, .int .i64 E2] 70)).alloc (.cells #[.bool false, .slice none 0 0, .int .i64 0] 70) = W3 at *
  have t0 : w.heap.size < W3.drew.heap.size := by show w.heap.size < W3.heap.size; omega
  have t1 : w.heap.size + 1 < W3.drew.heap.size := by show w.heap.size + 1 < W3.heap.size; omega
  have t2 : w.heap.size + 1 + 1 < W3.drew.heap.size := by show w.heap.size + 1 + 1 < W3.heap.size; omega
  have x10d : W3.drew.cell? ⟨w.heap.size, 0, none⟩ = some (.bool n1) := x10
  have x12d : W3.drew.cell? ⟨w.heap.size, 2, none⟩ = some (.int .i64 E1) := x12
  have x20d : W3.drew.cell? ⟨w.heap.size + 1, 0, none⟩ = some (.bool n2) := x20
  have x22d : W3.drew.cell? ⟨w.heap.size + 1, 2, none⟩ = some (.int .i64 E2) := x22
  have hb3d : Below w.heap.size w W3.drew := hb3.drew
  have hg3d : W3.drew.heap[w.heap.size + 1 + 1]? = some (.cells #[.bool false, .slice none 0 0, .int .i64 0] 70 (0, 0)) := hg3
  have x11d : W3.drew.cell? ⟨w.heap.size, 1, none⟩ = some (.slice A1 c1 k1) := x11
  have x21d : W3.drew.cell? ⟨w.heap.size + 1, 1, none⟩ = some (.slice A2 c2 k2) := x21
  clear x10 x11 x12 x20 x21 x22 hb3 hg1' hg2' hg3
  have hne0 : some w.heap.size ≠ some (w.heap.size + 1 + 1) := by simp; omega
  have hne1 : some (w.heap.size + 1) ≠ some (w.heap.size + 1 + 1) := by simp
  go_region_held3 (fun w' => w'.cell? ⟨w.heap.size, 0, none⟩ = some (.bool n1) ∧ w'.cell? ⟨w.heap.size, 1, none⟩ = some (.slice A1 c1 k1) ∧ w'.cell? ⟨w.heap.size, 2, none⟩ = some (.int .i64 E1) ∧ w'.cell? ⟨w.heap.size + 1, 0, none⟩ = some (.bool n2) ∧ w'.cell? ⟨w.heap.size + 1, 1, none⟩ = some (.slice A2 c2 k2) ∧ w'.cell? ⟨w.heap.size + 1, 2, none⟩ = some (.int .i64 E2))
    (first | exact ⟨x10d, x11d, x12d, x20d, x21d, x22d⟩ | exact ⟨(hb6.cell (p := ⟨w.heap.size, 0, none⟩) t0).trans x10d, (hb6.cell (p := ⟨w.heap.size, 1, none⟩) t0).trans x11d, (hb6.cell (p := ⟨w.heap.size, 2, none⟩) t0).trans x12d, (hb6.cell (p := ⟨w.heap.size + 1, 0, none⟩) t1).trans x20d, (hb6.cell (p := ⟨w.heap.size + 1, 1, none⟩) t1).trans x21d, (hb6.cell (p := ⟨w.heap.size + 1, 2, none⟩) t1).trans x22d⟩ | exact ⟨(set3 q3 _ _ _).2.cell ((hb6.cell (p := ⟨w.heap.size, 0, none⟩) t0).trans x10d) hne0, (set3 q3 _ _ _).2.cell ((hb6.cell (p := ⟨w.heap.size, 1, none⟩) t0).trans x11d) hne0, (set3 q3 _ _ _).2.cell ((hb6.cell (p := ⟨w.heap.size, 2, none⟩) t0).trans x12d) hne0, (set3 q3 _ _ _).2.cell ((hb6.cell (p := ⟨w.heap.size + 1, 0, none⟩) t1).trans x20d) hne1, (set3 q3 _ _ _).2.cell ((hb6.cell (p := ⟨w.heap.size + 1, 1, none⟩) t1).trans x21d) hne1, (set3 q3 _ _ _).2.cell ((hb6.cell (p := ⟨w.heap.size + 1, 2, none⟩) t1).trans x22d) hne1⟩)
    (first | (go_at_call 123; refine htm.mono ?_; rintro e w6 ⟨v', rfl, hm6, hb6⟩; obtain ⟨Av, cv6, kv, rfl, hcv, hcv0⟩ := hm6.form; have q3 := (hb6.block _ t2).trans hg3d; obtain ⟨y30, y31, y32⟩ := cells3 q3; have hfr3 : (∀ j, w6.frozen? ⟨w.heap.size + 1 + 1, j, none⟩ = false) := (fun j => frozen_of_row w6 _ j _ _ q3); have hbel6 := hb3d.trans (hb6.mono hb3d.size)))
  go_wp2_with fail
  have q3 := (hb6.block _ t2).trans hg3d
  obtain ⟨hg9, hgr9⟩ := set3 q3 (.bool (!(n1 == n2))) (.slice Av cv6 kv) (.int .i64 (E1 + E2))
  have hm9 := hm6.other q3 hgr9
  have hb9 := hbel6.trans (below_of_grown' hgr9 hbel6.size (by omega))
  generalize ((w6.setCell ⟨w.heap.size + 1 + 1, 0, none⟩ (.bool (!(n1 == n2)))).setCell ⟨w.heap.size + 1 + 1, 1, none⟩ (.slice Av cv6 kv)).setCell ⟨w.heap.size + 1 + 1, 2, none⟩ (.int .i64 (E1 + E2)) = W9 at *
  obtain ⟨j0, j1, j2⟩ := cells3 hg9
  refine bodyPost_ret (v := .agg #[.bool (!(n1 == n2)), .slice Av cv6 kv, .int .i64 (E1 + E2)]) (by simp [results, Tryz.results83, go_sem, j0, j1, j2]) rfl ?_
  exact ⟨_, rfl, hm9, hb9⟩
set_option linter.unusedVariables false
set_option linter.unusedSimpArgs false
open Go Go.RowKit
set_option maxRecDepth 100000
theorem Of_none (w : World) (u : Nat) (hu : u < B64) (he : fexp u = 2047) :
    Calls Tryz.prog 37 #[.int .u64 (u : Nat)] w fun e w' => e = .returned (.tuple #[.agg #[.bool false, .slice none 0 0, .int .i64 0], .bool false]) ∧ Below w.heap.size w w' := by
  have h1 := and_exp u hu
  have h2 := and_man u hu
  have hul : (u : Int) ≤ 18446744073709551615 := by unfold B64 at hu; omega
  have hml := fman_lt u
  rw [he] at h1
  clear he
  generalize fman u = mn at *
  go_enter Tryz.func37, Tryz.ntmps37
  go_wp2_with fail
  go_returns
  exact ⟨rfl, below_alloc w _⟩
theorem Of_zero (w : World) (u : Nat) (hu : u < B64) (he : fexp u ≠ 2047) (hs : sig u = 0) :
    Calls Tryz.prog 37 #[.int .u64 (u : Nat)] w fun e w' => e = .returned (.tuple #[.agg #[.bool false, .slice none 0 0, .int .i64 0], .bool true]) ∧ Below w.heap.size w w' := by
  have h1 := and_exp u hu
  have h2 := and_man u hu
  have hul : (u : Int) ≤ 18446744073709551615 := by unfold B64 at hu; omega
  have h0 : fexp u = 0 ∧ fman u = 0 := by
    unfold sig at hs
    split at hs
    · exact ⟨by assumption, hs⟩
    · omega
  rw [h0.1] at h1
  rw [h0.2] at h2
  clear he hs h0
  go_enter Tryz.func37, Tryz.ntmps37
  go_wp2_with fail
  go_returns
  exact ⟨rfl, below_alloc w _⟩
theorem Moved_zero (w : World) (neg : Bool) (A : Option Addr) (cap : Nat) (E k : Int) :
    Calls Tryz.prog 124 #[.agg #[.bool neg, .slice A 0 cap, .int .i64 E], .int .i64 k] w fun e w' => e = .returned (.agg #[.bool neg, .slice A 0 cap, .int .i64 E]) ∧ Below w.heap.size w w' := by
  go_enter Tryz.func124, Tryz.ntmps124
  go_wp2_with fail
  go_returns
  exact ⟨rfl, (below_alloc w _).trans ((below_alloc _ _).mono (by simp))⟩
theorem Times_zero (w : World) (n1 n2 : Bool) (A1 A2 : Option Addr) (c1 k1 c2 k2 : Nat) (E1 E2 : Int) (h : c1 = 0 ∨ c2 = 0) (hc1 : c1 ≤ 1000000) :
    Calls Tryz.prog 83 #[.agg #[.bool n1, .slice A1 c1 k1, .int .i64 E1], .agg #[.bool n2, .slice A2 c2 k2, .int .i64 E2]] w fun e w' => e = .returned (.agg #[.bool false, .slice none 0 0, .int .i64 0]) ∧ Below w.heap.size w w' := by
  by_cases h0 : c1 = 0
  · subst h0
    clear h
    go_enter Tryz.func83, Tryz.ntmps83
    go_wp2_with fail
    go_returns
    exact ⟨rfl, ((below_alloc w _).trans ((below_alloc _ _).mono (by simp))).trans ((below_alloc _ _).mono (by simp; omega))⟩
  · obtain rfl : c2 = 0 := by omega
    have hc : ((c1 : Int) == 0) = false := by rw [beq_eq_false_iff_ne]; omega
    clear h
    go_enter Tryz.func83, Tryz.ntmps83
    go_wp2_with fail
    go_returns
    exact ⟨rfl, ((below_alloc w _).trans ((below_alloc _ _).mono (by simp))).trans ((below_alloc _ _).mono (by simp; omega))⟩
set_option linter.unusedVariables false
set_option linter.unusedSimpArgs false
open Go Go.RowKit
set_option maxRecDepth 100000
/-- What Of tells of a number. -/
def OfIs (w : World) (neg : Bool) (v : Value) (E : Int) (u : Nat) : Prop :=
  (sig u = 0 ∧ neg = false ∧ v = .slice none 0 0 ∧ E = 0) ∨ (sig u ≠ 0 ∧ neg = fneg u ∧ E = pwr u ∧ MagIs w v (sig u))
theorem OfIs.below {w w1 : World} {neg : Bool} {v : Value} {E : Int} {u : Nat} (h : OfIs w neg v E u) (hb : Below w.heap.size w w1) : OfIs w1 neg v E u := by
  rcases h with h | ⟨h1, h2, h3, h4⟩
  · exact Or.inl h
  · exact Or.inr ⟨h1, h2, h3, h4.below hb⟩
theorem OfIs.form {w : World} {neg : Bool} {v : Value} {E : Int} {u : Nat} (h : OfIs w neg v E u) : ∃ A n cap, v = .slice A n cap ∧ n ≤ 1000000 := by
  rcases h with ⟨_, _, rfl, _⟩ | ⟨_, _, _, h⟩
  · exact ⟨none, 0, 0, rfl, by omega⟩
  · obtain ⟨A, n, cap, hv, hn, _⟩ := h.form
    exact ⟨A, n, cap, hv, hn⟩
theorem Of_any (w : World) (u : Nat) (hu : u < B64) :
    Calls Tryz.prog 37 #[.int .u64 (u : Nat)] w fun e w' => ∃ (neg : Bool) (v : Value) (E : Int), e = .returned (.tuple #[.agg #[.bool neg, v, .int .i64 E], .bool (fexp u != 2047)]) ∧ (fexp u ≠ 2047 → OfIs w' neg v E u) ∧ Below w.heap.size w w' ∧ (∃ A n cap, v = .slice A n cap ∧ n ≤ 1000000) := by
  by_cases he : fexp u = 2047
  · refine (Of_none w u hu he).mono fun e w' ⟨h1, h2⟩ => ⟨false, .slice none 0 0, 0, ?_, fun h => absurd he h, h2, none, 0, 0, rfl, by omega⟩
    rw [he]
    exact h1
  · have hb : (fexp u != 2047) = true := by rw [bne_iff_ne]; exact he
    rw [hb]
    by_cases hs : sig u = 0
    · exact (Of_zero w u hu he hs).mono fun e w' ⟨h1, h2⟩ => ⟨false, .slice none 0 0, 0, h1, fun _ => Or.inl ⟨hs, rfl, rfl, rfl⟩, h2, none, 0, 0, rfl, by omega⟩
    · refine (Of_num w u hu he hs).mono fun e w' ⟨v, h1, h2, h3⟩ => ⟨fneg u, v, pwr u, h1, fun _ => Or.inr ⟨hs, rfl, rfl, h2⟩, h3, ?_⟩
      obtain ⟨A, n, cap, hv, hn, _⟩ := h2.form
      exact ⟨A, n, cap, hv, hn⟩
/-- What Times tells of two numbers. -/
def TimesIs (w : World) (neg : Bool) (v : Value) (E : Int) (a b : Nat) : Prop :=
  (sig a * sig b = 0 ∧ neg = false ∧ v = .slice none 0 0 ∧ E = 0) ∨ (sig a * sig b ≠ 0 ∧ neg = (fneg a != fneg b) ∧ E = pwr a + pwr b ∧ MagIs w v (sig a * sig b))
theorem Times_any (w : World) (n1 n2 : Bool) (v1 v2 : Value) (E1 E2 : Int) (a b : Nat) (h1 : OfIs w n1 v1 E1 a) (h2 : OfIs w n2 v2 E2 b) (ea : fexp a ≠ 2047) (eb : fexp b ≠ 2047) :
    Calls Tryz.prog 83 #[.agg #[.bool n1, v1, .int .i64 E1], .agg #[.bool n2, v2, .int .i64 E2]] w fun e w' => ∃ (neg : Bool) (v : Value) (E : Int), e = .returned (.agg #[.bool neg, v, .int .i64 E]) ∧ TimesIs w' neg v E a b ∧ Below w.heap.size w w' := by
  by_cases hz : sig a * sig b = 0
  · obtain ⟨A1, c1, k1, rfl, hc1⟩ := h1.form
    obtain ⟨A2, c2, k2, rfl, hc2⟩ := h2.form
    have h0 : c1 = 0 ∨ c2 = 0 := by
      rcases Nat.mul_eq_zero.1 hz with h | h
      · left
        rcases h1 with ⟨_, _, hv, _⟩ | ⟨hn, _⟩
        · injection hv
        · exact absurd h hn
      · right
        rcases h2 with ⟨_, _, hv, _⟩ | ⟨hn, _⟩
        · injection hv
        · exact absurd h hn
    exact (Times_zero w n1 n2 A1 A2 c1 k1 c2 k2 E1 E2 h0 hc1).mono fun e w' ⟨h3, h4⟩ => ⟨_, _, _, h3, Or.inl ⟨hz, rfl, rfl, rfl⟩, h4⟩
  · have ha : sig a ≠ 0 := fun e => hz (by rw [e, Nat.zero_mul])
    have hb : sig b ≠ 0 := fun e => hz (by rw [e, Nat.mul_zero])
    rcases h1 with ⟨h, _⟩ | ⟨_, rfl, rfl, hm1⟩
    · exact absurd h ha
    · rcases h2 with ⟨h, _⟩ | ⟨_, rfl, rfl, hm2⟩
      · exact absurd h hb
      · have hW : 9007199254740992 < W32 ^ 2 := by decide
        have p1 := pwr_ge a
        have p2 := pwr_le a ea
        have p3 := pwr_ge b
        have p4 := pwr_le b eb
        exact (Times_num w _ _ v1 v2 _ _ (sig a) (sig b) 2 hm1 hm2 (by decide) (Nat.lt_trans (sig_lt a) hW) (Nat.lt_trans (sig_lt b) hW) ha hb (by omega) (by omega)).mono fun e w' ⟨v, h3, h4, h5⟩ => ⟨_, v, _, h3, Or.inr ⟨hz, rfl, rfl, h4⟩, h5⟩
theorem moved_num (w : World) (neg : Bool) (v : Value) (E : Int) (a b : Nat) (n : Int) (h : TimesIs w neg v E a b) (ea : fexp a ≠ 2047) (eb : fexp b ≠ 2047) (hn1 : -64 ≤ n) (hn2 : n ≤ 64) :
    Calls Tryz.prog 124 #[.agg #[.bool neg, v, .int .i64 E], .int .i64 n] w fun e w' => ∃ E', e = .returned (.agg #[.bool neg, v, .int .i64 E']) ∧ NumIs w' neg v E' (prodZ a b n) ∧ Below w.heap.size w w' := by
  have p1 := pwr_ge a
  have p2 := pwr_le a ea
  have p3 := pwr_ge b
  have p4 := pwr_le b eb
  rcases h with ⟨hz, rfl, rfl, rfl⟩ | ⟨hz, rfl, rfl, hm⟩
  · refine (Moved_zero w false none 0 0 n).mono fun e w' ⟨h1, h2⟩ => ⟨0, h1, ?_, h2⟩
    rw [NumIs.def']
    have hq : prodQ a b n = 0 := by unfold prodQ; rw [hz, Nat.zero_mul]
    refine ⟨0, Or.inl ⟨rfl, rfl⟩, fun _ => rfl, by decide, by decide, ?_, ?_⟩
    · generalize (400 : Nat) = k
      exact W32_pow k
    · unfold prodZ
      rw [hq, Nat.zero_mul]
      unfold sgn
      split <;> simp
  · refine (Moved_any w _ v (sig a * sig b) (pwr a + pwr b) n hm (by omega) (by omega) hz).mono fun e w' ⟨h1, h2⟩ => ⟨pwr a + pwr b + n, h1, ?_, h2⟩
    rw [NumIs.def']
    have hM : sig a * sig b < W32 ^ 4 := by
      have h3 : sig a * sig b < 9007199254740992 * 9007199254740992 := Nat.mul_lt_mul'' (sig_lt a) (sig_lt b)
      exact Nat.lt_trans h3 (by decide)
    refine ⟨sig a * sig b, hm.below h2, fun h => absurd h hz, by omega, by omega, ?_, ?_⟩
    · have hk : ∀ k : Nat, 4 ≤ k → sig a * sig b < W32 ^ k := fun k hk => Nat.lt_of_lt_of_le hM (Nat.pow_le_pow_right W32_pos hk)
      exact hk 400 (by decide)
    · rfl
theorem NumIs.form {w : World} {neg : Bool} {v : Value} {E z : Int} (h : NumIs w neg v E z) : ∃ A n cap, v = .slice A n cap ∧ n ≤ 1000000 := by
  obtain ⟨M, hm, _⟩ := NumIs.def'.1 h
  obtain ⟨A, n, cap, hv, hn, _⟩ := hm.form
  exact ⟨A, n, cap, hv, hn⟩
theorem TimesIs.form {w : World} {neg : Bool} {v : Value} {E : Int} {a b : Nat} (h : TimesIs w neg v E a b) : ∃ A n cap, v = .slice A n cap ∧ n ≤ 1000000 := by
  rcases h with ⟨_, _, rfl, _⟩ | ⟨_, _, _, h⟩
  · exact ⟨none, 0, 0, rfl, by omega⟩
  · obtain ⟨A, n, cap, hv, hn, _⟩ := h.form
    exact ⟨A, n, cap, hv, hn⟩
end Go.Proofs.YtpfbgenefjhcjaaGreatDoor
