/- ambitref2: plus, minus, cmp of rows of limbs. -/
import Derived.Test.YtopilodakphhgaaGreatDoorRefLow
import Derived.Deep.CutRange
import Derived.BigQuiet
namespace Go.Proofs.YtopilodakphhgaaGreatDoor
set_option linter.unusedVariables false
set_option linter.unusedSimpArgs false
open Go Go.RowKit
set_option maxRecDepth 100000
def carry32 (X Y i : Nat) : Nat := (X % W32 ^ i + Y % W32 ^ i) / W32 ^ i
def borrow32 (X Y i : Nat) : Nat := if X % W32 ^ i < Y % W32 ^ i then 1 else 0
theorem carry32_zero (X Y : Nat) : carry32 X Y 0 = 0 := by simp [carry32, Nat.mod_one]
theorem borrow32_zero (X Y : Nat) : borrow32 X Y 0 = 0 := by simp [borrow32, Nat.mod_one]
theorem carry32_le (X Y i : Nat) : carry32 X Y i ≤ 1 := by
  unfold carry32
  have h1 := Nat.mod_lt X (W32_pow i)
  have h2 := Nat.mod_lt Y (W32_pow i)
  have : (X % W32 ^ i + Y % W32 ^ i) / W32 ^ i < 2 := (Nat.div_lt_iff_lt_mul (W32_pow i)).2 (by omega)
  omega
theorem borrow32_le (X Y i : Nat) : borrow32 X Y i ≤ 1 := by unfold borrow32; split <;> omega
theorem add_dg (X Y i : Nat) : (dg X i + dg Y i + carry32 X Y i) % W32 = dg (X + Y) i ∧ (dg X i + dg Y i + carry32 X Y i) / W32 = carry32 X Y (i + 1) := by
  have hp := W32_pow i
  have e : (X % W32 ^ (i + 1) + Y % W32 ^ (i + 1)) = (X % W32 ^ i + Y % W32 ^ i) + W32 ^ i * (dg X i + dg Y i) := by
    rw [dg_add X i, dg_add Y i, Nat.mul_add, Nat.mul_comm (W32 ^ i), Nat.mul_comm (W32 ^ i)]; omega
  have e1 : (X % W32 ^ (i + 1) + Y % W32 ^ (i + 1)) / W32 ^ i = dg X i + dg Y i + carry32 X Y i := by
    rw [e, Nat.add_mul_div_left _ _ hp, carry32]; omega
  constructor
  · rw [← e1]
    unfold dg
    have h3 : (X + Y) % W32 ^ (i + 1) = (X % W32 ^ (i + 1) + Y % W32 ^ (i + 1)) % W32 ^ (i + 1) := Nat.add_mod _ _ _
    have h4 : ∀ Z : Nat, Z / W32 ^ i % W32 = Z % W32 ^ (i + 1) / W32 ^ i := fun Z => by
      rw [Nat.pow_succ, Nat.mod_mul_right_div_self]
    rw [h4, h4 (X + Y), h3]
  · rw [← e1, Nat.div_div_eq_div_mul, ← Nat.pow_succ]; rfl
theorem sub_dg (X Y i : Nat) (n : Nat) (hn : i < n) (hX : X < W32 ^ n) (hY : Y < W32 ^ n) :
    (dg X i + W32 - dg Y i - borrow32 X Y i) % W32 = dg (X + W32 ^ n - Y) i ∧ (if dg X i < dg Y i + borrow32 X Y i then 1 else 0) = borrow32 X Y (i + 1) := by
  have hp := W32_pow i
  have eX := dg_add X i
  have eY := dg_add Y i
  have lX := dg_lt X i
  have lY := dg_lt Y i
  have mX := Nat.mod_lt X hp
  have mY := Nat.mod_lt Y hp
  have hb : borrow32 X Y i = if X % W32 ^ i < Y % W32 ^ i then 1 else 0 := rfl
  have hb1 : borrow32 X Y (i + 1) = if X % W32 ^ (i + 1) < Y % W32 ^ (i + 1) then 1 else 0 := rfl
  constructor
  · -- modulo B^(i+1)
    have h4 : ∀ Z : Nat, Z / W32 ^ i % W32 = Z % W32 ^ (i + 1) / W32 ^ i := fun Z => by
      rw [Nat.pow_succ, Nat.mod_mul_right_div_self]
    obtain ⟨d, rfl⟩ : ∃ d, n = i + 1 + d := ⟨n - (i + 1), by omega⟩
    have hN : W32 ^ (i + 1 + d) = W32 ^ (i + 1) * W32 ^ d := Nat.pow_add _ _ _
    have hZ : (X + W32 ^ (i + 1 + d) - Y) % W32 ^ (i + 1) = (X % W32 ^ (i + 1) + W32 ^ (i + 1) - Y % W32 ^ (i + 1)) % W32 ^ (i + 1) := by
      have q1 := Nat.div_add_mod X (W32 ^ (i + 1))
      have q2 := Nat.div_add_mod Y (W32 ^ (i + 1))
      have r2 := Nat.mod_lt Y (W32_pow (i + 1))
      generalize W32 ^ (i + 1) = M at *
      have hYd : Y / M < W32 ^ d := by
        rw [Nat.div_lt_iff_lt_mul (by omega)]; rw [Nat.mul_comm, ← hN]; exact hY
      obtain ⟨s, hs⟩ : ∃ s, W32 ^ d = Y / M + 1 + s := ⟨W32 ^ d - (Y / M + 1), by omega⟩
      have e : X + W32 ^ (i + 1 + d) - Y = (X % M + M - Y % M) + M * (X / M + s) := by
        rw [hN, hs]
        have a1 : M * (Y / M + 1 + s) = M * (Y / M) + M + M * s := by rw [Nat.mul_add, Nat.mul_add, Nat.mul_one]
        have a2 : M * (X / M + s) = M * (X / M) + M * s := Nat.mul_add _ _ _
        rw [a1, a2]
        omega
      rw [e, Nat.add_mul_mod_self_left]
    unfold dg at eX eY lX lY ⊢
    rw [h4 (X + W32 ^ (i + 1 + d) - Y), hZ]
    rw [hb]
    generalize X / W32 ^ i % W32 = x at *
    generalize Y / W32 ^ i % W32 = y at *
    rw [eX, eY, Nat.pow_succ]
    generalize X % W32 ^ i = p at *
    generalize Y % W32 ^ i = q at *
    generalize W32 ^ i = M at *
    have e : p + x * M + M * W32 - (q + y * M) = (if p < q then p + M - q else p - q) + M * (x + W32 - y - if p < q then 1 else 0) := by
      have a1 : M * W32 = M * y + M * (W32 - y) := by rw [← Nat.mul_add]; congr 1; omega
      have a2 : x * M = M * x := Nat.mul_comm _ _
      have a3 : y * M = M * y := Nat.mul_comm _ _
      by_cases h : p < q
      · rw [if_pos h, if_pos h, a1, a2, a3]
        have a4 : M * (x + W32 - y - 1) = M * x + M * (W32 - y) - M := by
          have : M ≤ M * (W32 - y) := Nat.le_mul_of_pos_right _ (by omega)
          rw [Nat.sub_sub, Nat.add_sub_assoc (by omega), show W32 - (y + 1) = W32 - y - 1 from by omega, Nat.mul_add, Nat.mul_sub_one]
          omega
        rw [a4]
        have : M ≤ M * (W32 - y) := Nat.le_mul_of_pos_right _ (by omega)
        omega
      · have a5 : M * (x + W32 - y) = M * x + M * (W32 - y) := by rw [Nat.add_sub_assoc (by omega), Nat.mul_add]
        rw [if_neg h, if_neg h, a1, a2, a3, Nat.sub_zero, a5]
        omega
    have hz : (if p < q then p + M - q else p - q) < M := by split <;> omega
    rw [e, Nat.mod_mul_right_div_self, Nat.add_mul_div_left _ _ (by omega), Nat.div_eq_of_lt hz, Nat.zero_add]
  · rw [hb1, hb, eX, eY]
    generalize dg X i = x at *
    generalize dg Y i = y at *
    generalize X % W32 ^ i = p at *
    generalize Y % W32 ^ i = q at *
    generalize W32 ^ i = M at *
    by_cases h : p < q
    · rw [if_pos h]
      by_cases hxy : x < y + 1
      · rw [if_pos hxy, if_pos]
        have : x * M ≤ y * M := Nat.mul_le_mul_right _ (by omega)
        omega
      · rw [if_neg hxy, if_neg]
        have : (y + 1) * M ≤ x * M := Nat.mul_le_mul_right _ (by omega)
        rw [Nat.add_mul, Nat.one_mul] at this
        omega
    · rw [if_neg h]
      by_cases hxy : x < y + 0
      · rw [if_pos hxy, if_pos]
        have : (x + 1) * M ≤ y * M := Nat.mul_le_mul_right _ (by omega)
        rw [Nat.add_mul, Nat.one_mul] at this
        omega
      · rw [if_neg hxy, if_neg]
        have : y * M ≤ x * M := Nat.mul_le_mul_right _ (by omega)
        omega
/-- The limbs of a row, as they lie. -/
def Limbs (w : World) (A : Option Addr) (n M : Nat) : Prop := ∀ i, i < n → ∃ g, A = some ⟨g, 0, none⟩ ∧ g < w.heap.size ∧ w.cell? ⟨g, i, none⟩ = some (.int .u32 (dg M i : Nat))
theorem Limbs.at {w wr : World} {A : Option Addr} {n M : Nat} (h : Limbs w A n M) (hb : Below w.heap.size w wr) (i : Nat) (hi : i < n) : ∃ g, A = some ⟨g, 0, none⟩ ∧ wr.cell? ⟨g, i, none⟩ = some (.int .u32 (dg M i : Nat)) := by
  obtain ⟨g, h1, h2, h3⟩ := h i hi
  exact ⟨g, h1, by rw [hb.cell h2]; exact h3⟩
theorem MagIs.limbs {w : World} {v : Value} {M : Nat} (h : MagIs w v M) : ∃ A n cap, v = .slice A n cap ∧ n ≤ cap ∧ cap ≤ 1000000 ∧ NL32 n M ∧ Limbs w A n M := by
  rcases h with ⟨rfl, rfl⟩ | ⟨g, n, cap, rfl, hn, hc, hl, hv⟩
  · exact ⟨none, 0, 0, rfl, Nat.le_refl _, by omega, ⟨by decide, fun h => absurd h (Nat.lt_irrefl 0)⟩, fun i hi => absurd hi (Nat.not_lt_zero _)⟩
  · exact ⟨_, n, cap, rfl, hn, hc, hl, fun i hi => ⟨g, rfl, hv.lt, hv.cell i (Nat.zero_le _) hi⟩⟩
theorem dg_beyond {n M : Nat} (h : M < W32 ^ n) (i : Nat) (hi : n ≤ i) : dg M i = 0 := dg_high M i (Nat.lt_of_lt_of_le h (Nat.pow_le_pow_right W32_pos hi))
theorem carry_top (X Y n : Nat) (hX : X < W32 ^ n) (hY : Y < W32 ^ n) : carry32 X Y n = dg (X + Y) n := by
  unfold carry32 dg
  rw [Nat.mod_eq_of_lt hX, Nat.mod_eq_of_lt hY, Nat.mod_eq_of_lt]
  have : (X + Y) / W32 ^ n < 2 := (Nat.div_lt_iff_lt_mul (W32_pow n)).2 (by omega)
  unfold W32
  unfold W32 at this
  omega
set_option maxHeartbeats 4000000 in
theorem plus_any (w : World) (va vb : Value) (X Y L0 : Nat) (hL0 : L0 ≤ 100000) (ha : MagIs w va X) (hb : MagIs w vb Y) (hX : X < W32 ^ L0) (hY : Y < W32 ^ L0) :
    Calls Tryz.prog 33 #[va, vb] w fun e w' => ∃ v', e = .returned v' ∧ MagIs w' v' (X + Y) ∧ Below w.heap.size w w' := by
  obtain ⟨A, n, ca, rfl, hna, hca, hla, hra⟩ := ha.limbs
  obtain ⟨B, m, cb, rfl, hmb, hcb, hlb, hrb⟩ := hb.limbs
  have hn1 := NL32_le hla hX
  have hm1 := NL32_le hlb hY
  clear ha hb hX hY
  go_enter Tryz.func33, Tryz.ntmps33
  go_upto_if 12 with fail
  go_cut [0, 1] from 8 to 14 (fun a b wx => (∃ (A' : Option Addr) (n' ca' : Nat) (B' : Option Addr) (m' cb' X' Y' : Nat), a = .slice A' n' ca' ∧ b = .slice B' m' cb' ∧ m' ≤ n' ∧ n' ≤ 100000 ∧ n' ≤ ca' ∧ m' ≤ cb' ∧ NL32 n' X' ∧ NL32 m' Y' ∧ Limbs w A' n' X' ∧ Limbs w B' m' Y' ∧ X' + Y' = X + Y) ∧ w = wx)
  case first =>
    by_cases hlt : n < m
    · have hlt' : (n : Int) < (m : Int) := by omega
      have hlt2 : decide ((n : Int) < (m : Int)) = true := by simp; omega
      go_wp2_with fail
      go_meet
      case rel => exact ⟨⟨B, m, cb, A, n, ca, Y, X, rfl, rfl, by omega, by omega, hmb, hna, hlb, hla, hrb, hra, by omega⟩, rfl⟩
    · have hlt' : decide ((n : Int) < (m : Int)) = false := by simp; omega
      go_wp2_with fail
      go_meet
      case rel => exact ⟨⟨A, n, ca, B, m, cb, X, Y, rfl, rfl, by omega, by omega, hna, hmb, hla, hlb, hra, hrb, rfl⟩, rfl⟩
  case rest =>
    obtain ⟨⟨A', n', ca', B', m', cb', X', Y', ea, eb, hmn, hn9, hnc, hmc, hlx, hly, hrx, hry, hsum⟩, rfl⟩ := hcut
    subst ea eb
    have HSUM := Lib.hid hsum
    clear hra hrb hla hlb hn1 hm1 hsum hna hca hmb hcb
    have hmk := run_make_32 ((n' : Int) + 1) ((n' : Int) + 1) (by omega) (Int.le_refl _) (by omega)
    rw [show ((n' : Int) + 1).toNat = n' + 1 by omega] at hmk
    have hYn : Y' < W32 ^ n' := Nat.lt_of_lt_of_le hly.1 (Nat.pow_le_pow_right W32_pos hmn)
    have HX := Lib.hid hlx.1
    have HY := Lib.hid hly.1
    have HYn := Lib.hid hYn
    clear hlx hly hYn
    go_wp2_with fail
    have hm0 : V32 (w.alloc (.cells (zero32 (n' + 1)) 68)) w.heap.size (n' + 1) 0 0 (dg (X' + Y')) := (V32.made w (n' + 1)).weaken fun j a b => absurd b (Nat.not_lt_zero _)
    have hg0 : w.grownBy (w.alloc (.cells (zero32 (n' + 1)) 68)) (Option.some w.heap.size) := World.grownBy_alloc w _ _
    obtain ⟨gh, hgh⟩ : ∃ gh, gh = w.heap.size := ⟨_, rfl⟩
    rw [← hgh] at hm0 hg0
    rw [← hgh]
    have HG := Lib.hid hgh
    clear hmk hgh
    go_loopw [6, 7] (fun c i wr => ∃ k : Nat, k ≤ n' ∧ i = .int .i64 (k : Nat) ∧ c = .int .u64 (carry32 X' Y' k : Nat) ∧ V32 wr gh (n' + 1) 0 k (dg (X' + Y')) ∧ w.grownBy wr (Option.some gh)) (fun _ i _ => n' - (intOf i).toNat)
    case atStart => exact ⟨0, Nat.zero_le _, rfl, by rw [carry32_zero]; rfl, hm0, hg0⟩
    case round =>
      obtain ⟨k, hk, rfl, rfl, hz, hg⟩ := hrel
      clear hm0 hg0
      have hbel : Below w.heap.size w wr := below_of_grown hg (by rw [HG.out]; exact Nat.le_refl _)
      have hcl := carry32_le X' Y' k
      by_cases hlt : k < n'
      · have hlt' : (k : Int) < (n' : Int) := by omega
        have hk0 : (0 : Int) ≤ (k : Int) := by omega
        obtain ⟨g1, rfl, hc1⟩ := hrx.at hbel k hlt
        obtain ⟨hd1, hd2⟩ := add_dg X' Y' k
        have hx1 := dg_le X' k
        have hy1 := dg_le Y' k
        obtain ⟨o, hco⟩ := hz.some k (by omega)
        have hfo := hz.free k
        have hst : V32 (wr.setCell ⟨gh, k, none⟩ (.int .u32 (dg (X' + Y') k : Nat))) gh (n' + 1) 0 (k + 1) (dg (X' + Y')) :=
          hz.set k _ (by omega) rfl (fun j a b hne => ⟨a, by omega, rfl⟩)
        have hgs := grown_set hg k (.int .u32 (dg (X' + Y') k : Nat))
        have hkn1 : (k : Int) < (n' : Int) + 1 := by omega
        by_cases hkm : k < m'
        · have hkm' : (k : Int) < (m' : Int) := by omega
          obtain ⟨g2, rfl, hc2⟩ := hry.at hbel k hkm
          have hw : IntKind.u32.wrap ((carry32 X' Y' k : Int) + (dg X' k : Int) + (dg Y' k : Int)) = ((dg (X' + Y') k : Nat) : Int) := by
            rw [IntKind.wrap_u32, ← hd1]
            unfold W32
            omega
          have hq : ((carry32 X' Y' k : Int) + (dg X' k : Int) + (dg Y' k : Int)) / 4294967296 = ((carry32 X' Y' (k + 1) : Nat) : Int) := by
            rw [← hd2]
            unfold W32
            omega
          clear hd1 hd2 hz hg
          generalize carry32 X' Y' k = c0 at *
          generalize hC1 : carry32 X' Y' (k + 1) = c1 at *
          have HC1 := Lib.hid hC1
          clear hC1
          generalize dg X' k = x0 at *
          generalize dg Y' k = y0 at *
          generalize hD : dg (X' + Y') k = d0 at *
          clear hD
          go_wp2_with fail
          go_roundw
          case rel => exact ⟨k + 1, by omega, by go_num, by rw [HC1.out], hst, hgs⟩
          case measure => simp [intOf]; omega
        · have hkm' : decide ((k : Int) < (m' : Int)) = false := by simp; omega
          have hy0 : dg Y' k = 0 := dg_beyond HY.out k (by omega)
          rw [hy0] at hd1 hd2
          have hw : IntKind.u32.wrap ((carry32 X' Y' k : Int) + (dg X' k : Int)) = ((dg (X' + Y') k : Nat) : Int) := by
            rw [IntKind.wrap_u32, ← hd1]
            unfold W32
            omega
          have hq : ((carry32 X' Y' k : Int) + (dg X' k : Int)) / 4294967296 = ((carry32 X' Y' (k + 1) : Nat) : Int) := by
            rw [← hd2]
            unfold W32
            omega
          clear hd1 hd2 hz hg hy0 hy1
          generalize carry32 X' Y' k = c0 at *
          generalize hC1 : carry32 X' Y' (k + 1) = c1 at *
          have HC1 := Lib.hid hC1
          clear hC1
          generalize dg X' k = x0 at *
          generalize hD : dg (X' + Y') k = d0 at *
          clear hD
          go_wp2_with fail
          go_roundw
          case rel => exact ⟨k + 1, by omega, by go_num, by rw [HC1.out], hst, hgs⟩
          case measure => simp [intOf]; omega
      · obtain rfl : k = n' := by omega
        have hlt' : decide ((k : Int) < (k : Nat)) = false := by simp
        have htop := carry_top X' Y' k HX.out HYn.out
        have hst : V32 (wr.setCell ⟨gh, k, none⟩ (.int .u32 (carry32 X' Y' k : Nat))) gh (k + 1) 0 (k + 1) (dg (X' + Y')) :=
          hz.set k _ (by omega) htop (fun j a b hne => ⟨a, by omega, rfl⟩)
        have hgs := grown_set hg k (.int .u32 (carry32 X' Y' k : Nat))
        obtain ⟨o, hco⟩ := hz.some k (by omega)
        have hfo := hz.free k
        have hw : IntKind.u32.wrap (carry32 X' Y' k : Int) = ((carry32 X' Y' k : Nat) : Int) := by rw [IntKind.wrap_u32]; omega
        have htr := trim_row _ gh (k + 1) (k + 1) (X' + Y') hst (by
          have h1 := HX.out
          have h2 := HYn.out
          rw [Nat.pow_succ]
          have : W32 ^ k * 2 ≤ W32 ^ k * W32 := Nat.mul_le_mul_left _ (by decide)
          omega) (Nat.le_refl _) (by omega)
        have hb9 := below_of_grown hgs (by rw [HG.out]; exact Nat.le_refl _)
        have hn10 : k + 1 ≤ 1000000 := by omega
        have hk0 : (0 : Int) ≤ (k : Int) := by omega
        clear hz hg hbel htop hcl hgs
        generalize carry32 X' Y' k = c0 at *
        go_wp2_with fail
        refine htr.mono ?_
        rintro e w1 ⟨⟨j, hj, hnl, rfl⟩, rfl⟩
        go_wp2_with fail
        go_ret
        exact ⟨_, rfl, by rw [← HSUM.out]; exact Or.inr ⟨gh, j, k + 1, rfl, hj, hn10, hnl, hst.weaken fun i a b => ⟨a, by omega, rfl⟩⟩, hb9⟩
end Go.Proofs.YtopilodakphhgaaGreatDoor
