/- ambitref2: minus and cmp of rows of limbs. -/
import Derived.Test.YtopilodakphhgaaGreatDoorRefAdd
namespace Go.Proofs.YtopilodakphhgaaGreatDoor
set_option linter.unusedVariables false
set_option linter.unusedSimpArgs false
open Go Go.RowKit
set_option maxRecDepth 100000
theorem dg_plus_top (D n i : Nat) (hi : i < n) : dg (D + W32 ^ n) i = dg D i := by
  have := dg_same D 1 n i hi
  rwa [Nat.one_mul] at this
theorem sub_dg' (X Y i n : Nat) (hn : i < n) (hX : X < W32 ^ n) (hle : Y ≤ X) :
    (dg X i + W32 - dg Y i - borrow32 X Y i) % W32 = dg (X - Y) i ∧ (if dg X i < dg Y i + borrow32 X Y i then 1 else 0) = borrow32 X Y (i + 1) := by
  obtain ⟨h1, h2⟩ := sub_dg X Y i n hn hX (Nat.lt_of_le_of_lt hle hX)
  refine ⟨?_, h2⟩
  rw [h1, show X + W32 ^ n - Y = X - Y + W32 ^ n by omega, dg_plus_top _ n i hn]
set_option maxHeartbeats 8000000 in
theorem minus_any (w : World) (va vb : Value) (X Y L0 : Nat) (hL0 : L0 ≤ 100000) (ha : MagIs w va X) (hb : MagIs w vb Y) (hX : X < W32 ^ L0) (hle : Y ≤ X) :
    Calls Tryz.prog 35 #[va, vb] w fun e w' => ∃ v', e = .returned v' ∧ MagIs w' v' (X - Y) ∧ Below w.heap.size w w' := by
  obtain ⟨A, n, ca, rfl, hna, hca, hla, hra⟩ := ha.limbs
  obtain ⟨B, m, cb, rfl, hmb, hcb, hlb, hrb⟩ := hb.limbs
  have hn1 := NL32_le hla hX
  have hXn := hla.1
  have hYm := hlb.1
  have HX := Lib.hid hXn
  have HY := Lib.hid hYm
  have HLE := Lib.hid hle
  have hmk := run_make_32 (n : Int) (n : Int) (by omega) (Int.le_refl _) (by omega)
  rw [show (n : Int).toNat = n by omega] at hmk
  clear ha hb hX hla hlb hXn hYm hle
  go_enter Tryz.func35, Tryz.ntmps35
  go_wp2_with fail
  have hm0 : V32 (w.alloc (.cells (zero32 n) 68)) w.heap.size n 0 0 (dg (X - Y)) := (V32.made w n).weaken fun j a b => absurd b (Nat.not_lt_zero _)
  have hg0 : w.grownBy (w.alloc (.cells (zero32 n) 68)) (Option.some w.heap.size) := World.grownBy_alloc w _ _
  obtain ⟨gh, hgh⟩ : ∃ gh, gh = w.heap.size := ⟨_, rfl⟩
  rw [← hgh] at hm0 hg0
  rw [← hgh]
  have HG := Lib.hid hgh
  clear hmk hgh
  go_loopw [6, 7] (fun c i wr => ∃ k : Nat, k ≤ n ∧ i = .int .i64 (k : Nat) ∧ c = .int .u64 (borrow32 X Y k : Nat) ∧ V32 wr gh n 0 k (dg (X - Y)) ∧ w.grownBy wr (Option.some gh)) (fun _ i _ => n - (intOf i).toNat)
  case atStart => exact ⟨0, Nat.zero_le _, rfl, by rw [borrow32_zero]; rfl, hm0, hg0⟩
  case round =>
    obtain ⟨k, hk, rfl, rfl, hz, hg⟩ := hrel
    clear hm0 hg0
    have hbel : Below w.heap.size w wr := below_of_grown hg (by rw [HG.out]; exact Nat.le_refl _)
    have hcl := borrow32_le X Y k
    by_cases hlt : k < n
    · have hlt' : (k : Int) < (n : Int) := by omega
      have hk0 : (0 : Int) ≤ (k : Int) := by omega
      obtain ⟨g1, rfl, hc1⟩ := hra.at hbel k hlt
      obtain ⟨hd1, hd2⟩ := sub_dg' X Y k n hlt HX.out HLE.out
      have hx1 := dg_le X k
      have hy1 := dg_le Y k
      obtain ⟨o, hco⟩ := hz.some k (by omega)
      have hfo := hz.free k
      have hst : V32 (wr.setCell ⟨gh, k, none⟩ (.int .u32 (dg (X - Y) k : Nat))) gh n 0 (k + 1) (dg (X - Y)) :=
        hz.set k _ (by omega) rfl (fun j a b hne => ⟨a, by omega, rfl⟩)
      have hgs := grown_set hg k (.int .u32 (dg (X - Y) k : Nat))
      by_cases hkm : k < m
      · have hkm' : (k : Int) < (m : Int) := by omega
        obtain ⟨g2, rfl, hc2⟩ := hrb.at hbel k hkm
        by_cases hlow : dg X k < dg Y k + borrow32 X Y k
        · have hlow' : (dg X k : Int) < (borrow32 X Y k : Int) + (dg Y k : Int) := by omega
          rw [if_pos hlow] at hd2
          have hw : IntKind.u32.wrap ((dg X k : Int) + 4294967296 - ((borrow32 X Y k : Int) + (dg Y k : Int))) = ((dg (X - Y) k : Nat) : Int) := by
            rw [IntKind.wrap_u32, ← hd1]
            unfold W32
            omega
          clear hd1 hz hg
          have hb1 : (1 : Int) = ((borrow32 X Y (k + 1) : Nat) : Int) := by omega
          generalize borrow32 X Y k = c0 at *
          generalize hC1 : borrow32 X Y (k + 1) = c1 at *
          generalize dg X k = x0 at *
          generalize dg Y k = y0 at *
          generalize hD : dg (X - Y) k = d0 at *
          subst hd2
          have HC1 := Lib.hid hC1
          clear hD hC1 hb1
          go_wp2_with fail
          go_roundw
          case rel => exact ⟨k + 1, by omega, by go_num, by rw [HC1.out]; rfl, hst, hgs⟩
          case measure => simp [intOf]; omega
        · have hlow' : decide ((dg X k : Int) < (borrow32 X Y k : Int) + (dg Y k : Int)) = false := by simp; omega
          rw [if_neg hlow] at hd2
          have hw : IntKind.u32.wrap ((dg X k : Int) - ((borrow32 X Y k : Int) + (dg Y k : Int))) = ((dg (X - Y) k : Nat) : Int) := by
            rw [IntKind.wrap_u32, ← hd1]
            unfold W32
            omega
          have hge : (borrow32 X Y k : Int) + (dg Y k : Int) ≤ (dg X k : Int) := by omega
          clear hd1 hz hg hlow
          generalize borrow32 X Y k = c0 at *
          generalize hC1 : borrow32 X Y (k + 1) = c1 at *
          generalize dg X k = x0 at *
          generalize dg Y k = y0 at *
          generalize hD : dg (X - Y) k = d0 at *
          subst hd2
          have HC1 := Lib.hid hC1
          clear hD hC1
          go_wp2_with fail
          go_roundw
          case rel => exact ⟨k + 1, by omega, by go_num, by rw [HC1.out]; rfl, hst, hgs⟩
          case measure => simp [intOf]; omega
      · have hkm' : decide ((k : Int) < (m : Int)) = false := by simp; omega
        have hy0 : dg Y k = 0 := dg_beyond HY.out k (by omega)
        rw [hy0] at hd1 hd2
        by_cases hlow : dg X k < 0 + borrow32 X Y k
        · have hlow' : (dg X k : Int) < (borrow32 X Y k : Int) := by omega
          rw [if_pos hlow] at hd2
          have hw : IntKind.u32.wrap ((dg X k : Int) + 4294967296 - (borrow32 X Y k : Int)) = ((dg (X - Y) k : Nat) : Int) := by
            rw [IntKind.wrap_u32, ← hd1]
            unfold W32
            omega
          clear hd1 hz hg hy0 hy1
          generalize borrow32 X Y k = c0 at *
          generalize hC1 : borrow32 X Y (k + 1) = c1 at *
          generalize dg X k = x0 at *
          generalize hD : dg (X - Y) k = d0 at *
          subst hd2
          have HC1 := Lib.hid hC1
          clear hD hC1
          go_wp2_with fail
          go_roundw
          case rel => exact ⟨k + 1, by omega, by go_num, by rw [HC1.out]; rfl, hst, hgs⟩
          case measure => simp [intOf]; omega
        · have hlow' : decide ((dg X k : Int) < (borrow32 X Y k : Int)) = false := by simp; omega
          rw [if_neg hlow] at hd2
          have hw : IntKind.u32.wrap ((dg X k : Int) - (borrow32 X Y k : Int)) = ((dg (X - Y) k : Nat) : Int) := by
            rw [IntKind.wrap_u32, ← hd1]
            unfold W32
            omega
          have hge : (borrow32 X Y k : Int) ≤ (dg X k : Int) := by omega
          clear hd1 hz hg hlow hy0 hy1
          generalize borrow32 X Y k = c0 at *
          generalize hC1 : borrow32 X Y (k + 1) = c1 at *
          generalize dg X k = x0 at *
          generalize hD : dg (X - Y) k = d0 at *
          subst hd2
          have HC1 := Lib.hid hC1
          clear hD hC1
          go_wp2_with fail
          go_roundw
          case rel => exact ⟨k + 1, by omega, by go_num, by rw [HC1.out]; rfl, hst, hgs⟩
          case measure => simp [intOf]; omega
    · obtain rfl : k = n := by omega
      have hlt' : decide ((k : Int) < (k : Nat)) = false := by simp
      have htr := trim_row wr gh k k (X - Y) hz (Nat.lt_of_le_of_lt (Nat.sub_le _ _) HX.out) (Nat.le_refl _) (by omega)
      have hn10 : k ≤ 1000000 := by omega
      clear hg hcl
      generalize borrow32 X Y k = c0 at *
      go_wp2_with fail
      refine htr.mono ?_
      rintro e w1 ⟨⟨j, hj, hnl, rfl⟩, rfl⟩
      go_wp2_with fail
      go_ret
      exact ⟨_, rfl, Or.inr ⟨gh, j, k, rfl, hj, hn10, hnl, hz.weaken fun i a b => ⟨a, by omega, rfl⟩⟩, hbel⟩
theorem len_less {n m X Y : Nat} (hx : NL32 n X) (hy : NL32 m Y) (h : n < m) : X < Y := by
  have h1 := hy.2 (by omega)
  have h2 : W32 ^ n ≤ W32 ^ (m - 1) := Nat.pow_le_pow_right W32_pos (by omega)
  have := hx.1
  omega
theorem below_drewN' {B : Nat} {w w1 : World} (h : Below B w w1) (q : Nat) : Below B w (w1.drewN q) := ⟨h.os, h.tape, h.output, h.size, h.block⟩
/-- Above limb k the two are the same; limb k decides. -/
theorem limb_less (X Y k : Nat) (he : X / W32 ^ (k + 1) = Y / W32 ^ (k + 1)) (h : dg X k < dg Y k) : X < Y := by
  have h1 := Nat.div_add_mod X (W32 ^ (k + 1))
  have h2 := Nat.div_add_mod Y (W32 ^ (k + 1))
  rw [dg_add] at h1 h2
  rw [he] at h1
  have h3 := Nat.mod_lt X (W32_pow k)
  have h4 : (dg X k + 1) * W32 ^ k ≤ dg Y k * W32 ^ k := Nat.mul_le_mul_right _ h
  rw [Nat.add_mul, Nat.one_mul] at h4
  generalize X % W32 ^ k = xm at *
  generalize Y % W32 ^ k = ym at *
  omega
theorem limb_same (X Y k : Nat) (he : X / W32 ^ (k + 1) = Y / W32 ^ (k + 1)) (h : dg X k = dg Y k) : X / W32 ^ k = Y / W32 ^ k := by
  have h1 : ∀ Z : Nat, Z / W32 ^ k = Z / W32 ^ (k + 1) * W32 + dg Z k := fun Z => by
    unfold dg
    rw [Nat.pow_succ, ← Nat.div_div_eq_div_mul]
    have := Nat.div_add_mod (Z / W32 ^ k) W32
    rw [Nat.mul_comm] at this
    exact this.symm
  rw [h1 X, h1 Y, he, h]
set_option maxHeartbeats 4000000 in
theorem rcmp_any (w : World) (va vb : Value) (X Y : Nat) (ha : MagIs w va X) (hb : MagIs w vb Y) :
    Calls Tryz.prog 34 #[va, vb] w fun e w' => e = .returned (.int .i64 (cmpN X Y)) ∧ Below w.heap.size w w' := by
  obtain ⟨A, n, ca, rfl, hna, hca, hla, hra⟩ := ha.limbs
  obtain ⟨B, m, cb, rfl, hmb, hcb, hlb, hrb⟩ := hb.limbs
  clear ha hb
  rcases Nat.lt_trichotomy n m with hlt | heq | hgt
  · rw [cmpN_lt (len_less hla hlb hlt)]
    have h1 : ((n : Int) != (m : Int)) = true := by rw [bne_iff_ne]; omega
    have h2 : (n : Int) < (m : Int) := by omega
    clear hra hrb hla hlb hlt
    go_enter Tryz.func34, Tryz.ntmps34
    go_wp2_with fail
    go_ret
    exact ⟨rfl, Below.refl _ _⟩
  · subst heq
    have hX0 : X / W32 ^ n = 0 := Nat.div_eq_of_lt hla.1
    have hY0 : Y / W32 ^ n = 0 := Nat.div_eq_of_lt hlb.1
    have HE := Lib.hid (hX0.trans hY0.symm)
    clear hX0 hY0 hla hlb
    go_enter Tryz.func34, Tryz.ntmps34
    go_wp2_with fail
    go_loopw [5] (fun i wr => ∃ k : Nat, k ≤ n ∧ i = .int .i64 ((k : Int) - 1) ∧ X / W32 ^ k = Y / W32 ^ k ∧ Below w.heap.size w wr) (fun i _ => (intOf i + 1).toNat)
    case atStart => exact ⟨n, Nat.le_refl _, rfl, HE.out, Below.refl _ _⟩
    case round =>
      obtain ⟨k, hk, rfl, he, hbel⟩ := hrel
      have HE2 := Lib.hid he
      clear he
      by_cases h0 : k = 0
      · subst h0
        have hXY : X = Y := by
          have := HE2.out
          rwa [Nat.pow_zero, Nat.div_one, Nat.div_one] at this
        subst hXY
        go_wp2_with fail
        go_ret
        exact ⟨congrArg (fun z => Ending.returned (Value.int .i64 z)) (cmpN_eq rfl).symm, hbel⟩
      · obtain ⟨j, rfl⟩ : ∃ j, k = j + 1 := ⟨k - 1, by omega⟩
        have hj : ((j + 1 : Nat) : Int) - 1 = (j : Int) := by omega
        rw [hj]
        have hj0 : (0 : Int) ≤ (j : Int) := by omega
        have hjn : (j : Int) < (n : Int) := by omega
        obtain ⟨g1, rfl, hc1⟩ := hra.at hbel j (by omega)
        obtain ⟨g2, rfl, hc2⟩ := hrb.at hbel j (by omega)
        have hx1 := dg_le X j
        have hy1 := dg_le Y j
        rcases Nat.lt_trichotomy (dg X j) (dg Y j) with hl | hs | hg
        · have HR := Lib.hid (cmpN_lt (limb_less X Y j HE2.out hl))
          have h1 : (dg X j : Int) < (dg Y j : Int) := by omega
          have h1n : decide (dg X j < dg Y j) = true := by simp; omega
          generalize dg X j = x0 at *
          generalize dg Y j = y0 at *
          go_wp2_with fail
          go_quiet (fail)
          go_wp2_with fail
          go_ret
          exact ⟨congrArg (fun z => Ending.returned (Value.int .i64 z)) HR.out.symm, below_drewN' hbel _⟩
        · have HR := Lib.hid (limb_same X Y j HE2.out hs)
          have h1 : decide ((dg X j : Int) < (dg Y j : Int)) = false := by simp; omega
          have h2 : decide ((dg Y j : Int) < (dg X j : Int)) = false := by simp; omega
          have h1n : decide (dg X j < dg Y j) = false := by simp; omega
          have h2n : decide (dg Y j < dg X j) = false := by simp; omega
          clear hs
          generalize dg X j = x0 at *
          generalize dg Y j = y0 at *
          go_wp2_with fail
          go_quiet (fail)
          go_wp2_with fail
          go_quiet (fail)
          go_wp2_with fail
          go_roundw
          case rel => exact ⟨j, by omega, by go_num, HR.out, below_drewN' hbel _⟩
          case measure => simp [intOf]
        · have HR := Lib.hid (cmpN_gt (limb_less Y X j HE2.out.symm hg))
          have h1 : decide ((dg X j : Int) < (dg Y j : Int)) = false := by simp; omega
          have h2 : (dg Y j : Int) < (dg X j : Int) := by omega
          have h1n : decide (dg X j < dg Y j) = false := by simp; omega
          have h2n : decide (dg Y j < dg X j) = true := by simp; omega
          clear hg
          generalize dg X j = x0 at *
          generalize dg Y j = y0 at *
          go_wp2_with fail
          go_quiet (fail)
          go_wp2_with fail
          go_quiet (fail)
          go_wp2_with fail
          go_ret
          exact ⟨congrArg (fun z => Ending.returned (Value.int .i64 z)) HR.out.symm, below_drewN' (below_drewN' hbel _) _⟩
  · rw [cmpN_gt (len_less hlb hla hgt)]
    have h1 : ((n : Int) != (m : Int)) = true := by rw [bne_iff_ne]; omega
    have h2 : decide ((n : Int) < (m : Int)) = false := by simp; omega
    have h2n : decide (n < m) = false := by simp; omega
    clear hra hrb hla hlb hgt
    go_enter Tryz.func34, Tryz.ntmps34
    go_wp2_with fail
    go_ret
    exact ⟨rfl, Below.refl _ _⟩
end Go.Proofs.YtopilodakphhgaaGreatDoor
