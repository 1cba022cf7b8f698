/- ambitref2.left: a row of limbs shifted up. -/
import Derived.Test.YtopilodakphhgaaDoorRefLen
namespace Go.Proofs.YtopilodakphhgaaDoor
set_option linter.unusedVariables false
set_option linter.unusedSimpArgs false
open Go Go.RowKit
set_option maxRecDepth 100000
theorem dg_zero (k : Nat) : dg 0 k = 0 := by unfold dg; rw [Nat.zero_div]; rfl
theorem dg_high (V k : Nat) (h : V < W32 ^ k) : dg V k = 0 := by unfold dg; rw [Nat.div_eq_of_lt h]; rfl
theorem dg_same (V Y p j : Nat) (h : j < p) : dg (V + Y * W32 ^ p) j = dg V j := by
  unfold dg
  obtain ⟨d, rfl⟩ : ∃ d, p = j + 1 + d := ⟨p - (j + 1), by omega⟩
  rw [show W32 ^ (j + 1 + d) = W32 ^ j * (W32 * W32 ^ d) by rw [Nat.pow_add, Nat.pow_add, Nat.pow_one, Nat.mul_assoc], Nat.mul_left_comm, Nat.add_mul_div_left _ _ (W32_pow j), Nat.mul_left_comm, Nat.add_mul_mod_self_left]
theorem div_add (V Y p : Nat) : (V + Y * W32 ^ p) / W32 ^ p = V / W32 ^ p + Y := by
  rw [Nat.mul_comm, Nat.add_mul_div_left _ _ (W32_pow p)]
theorem low_aux (c x r : Nat) (hr : r ≤ 31) (hc : c < 2 ^ r) : c ||| (x * 2 ^ r % W32) = (c + x * 2 ^ r) % W32 := by
  have hr2 : 2 ^ r ≤ 2 ^ 31 := Nat.pow_le_pow_right (by decide) hr
  have hW : W32 = 2 ^ r * 2 ^ (32 - r) := by rw [← Nat.pow_add, show r + (32 - r) = 32 by omega]; rfl
  have hcW : c < W32 := Nat.lt_of_lt_of_le hc (Nat.le_trans hr2 (by decide))
  have h2 : x * 2 ^ r % W32 = 2 ^ r * (x % 2 ^ (32 - r)) := by
    conv => lhs; rw [hW, Nat.mul_comm x, Nat.mul_mod_mul_left]
  have h3 : c + x * 2 ^ r % W32 < W32 := by
    have h4 : x % 2 ^ (32 - r) + 1 ≤ 2 ^ (32 - r) := Nat.mod_lt _ (Nat.two_pow_pos _)
    have h5 : 2 ^ r * (x % 2 ^ (32 - r) + 1) ≤ 2 ^ r * 2 ^ (32 - r) := Nat.mul_le_mul_left _ h4
    rw [Nat.mul_add, Nat.mul_one, ← h2, ← hW] at h5
    omega
  rw [Nat.add_mod, Nat.mod_eq_of_lt hcW, Nat.mod_eq_of_lt h3, h2, Nat.or_comm, ← Nat.two_pow_add_eq_or_of_lt hc, Nat.add_comm]
theorem high_aux (c x r : Nat) (hr : r ≤ 31) (hx : x < W32) (hc : c < 2 ^ r) : (c + x * 2 ^ r) / W32 = x * 2 ^ r / W32 ∧ x * 2 ^ r / W32 < W32 := by
  have hW : W32 = 2 ^ r * 2 ^ (32 - r) := by rw [← Nat.pow_add, show r + (32 - r) = 32 by omega]; rfl
  have hp := Nat.two_pow_pos r
  have e1 : (c + x * 2 ^ r) / W32 = x / 2 ^ (32 - r) := by
    conv => lhs; rw [hW, ← Nat.div_div_eq_div_mul, Nat.add_mul_div_right _ _ hp, Nat.div_eq_of_lt hc, Nat.zero_add]
  have e2 : x * 2 ^ r / W32 = x / 2 ^ (32 - r) := by
    conv => lhs; rw [hW, ← Nat.div_div_eq_div_mul, Nat.mul_div_cancel _ hp]
  exact ⟨e1.trans e2.symm, e2 ▸ Nat.lt_of_le_of_lt (Nat.div_le_self _ _) hx⟩
theorem top_lt (V r p : Nat) (hV : V < W32 ^ p * 2 ^ r) : V / W32 ^ p < 2 ^ r := by
  rw [Nat.div_lt_iff_lt_mul (W32_pow p), Nat.mul_comm]
  exact hV
/-- One round: what stands, a limb's low part joined, its high part laid above. -/
theorem left_low (V x r p : Nat) (hr : r ≤ 31) (hV : V < W32 ^ p * 2 ^ r) : dg V p ||| (x * 2 ^ r % W32) = dg (V + x * 2 ^ r * W32 ^ p) p := by
  have hc := top_lt V r p hV
  have hcW : V / W32 ^ p < W32 := Nat.lt_of_lt_of_le hc (Nat.le_trans (Nat.pow_le_pow_right (by decide) hr) (by decide : (2 : Nat) ^ 31 ≤ W32))
  unfold dg
  rw [div_add, Nat.mod_eq_of_lt hcW]
  exact low_aux _ x r hr hc
theorem left_high (V x r p : Nat) (hr : r ≤ 31) (hx : x < W32) (hV : V < W32 ^ p * 2 ^ r) : x * 2 ^ r / W32 = dg (V + x * 2 ^ r * W32 ^ p) (p + 1) := by
  obtain ⟨h1, h2⟩ := high_aux _ x r hr hx (top_lt V r p hV)
  unfold dg
  rw [Nat.pow_succ, ← Nat.div_div_eq_div_mul, div_add, h1, Nat.mod_eq_of_lt h2]
theorem left_above (V x r p j : Nat) (hr : r ≤ 31) (hx : x < W32) (hV : V < W32 ^ p * 2 ^ r) (hj : p + 1 < j) : dg (V + x * 2 ^ r * W32 ^ p) j = 0 ∧ dg V j = 0 := by
  have hr2 : 2 ^ r ≤ 2 ^ 31 := Nat.pow_le_pow_right (by decide) hr
  have h1 : W32 ^ p * 2 ^ r ≤ W32 ^ p * W32 := Nat.mul_le_mul_left _ (by unfold W32; omega)
  have h2 : W32 ^ p * W32 * W32 ≤ W32 ^ j := by
    rw [← Nat.pow_succ, ← Nat.pow_succ]
    exact Nat.pow_le_pow_right W32_pos (by omega)
  have h3 : W32 ^ p * W32 * 1 ≤ W32 ^ p * W32 * W32 := Nat.mul_le_mul_left _ W32_pos
  refine ⟨dg_high _ _ ?_, dg_high _ _ (by omega)⟩
  have h4 : x * 2 ^ r * W32 ^ p ≤ (W32 - 1) * 2 ^ 31 * W32 ^ p := Nat.mul_le_mul_right _ (Nat.mul_le_mul (by omega) hr2)
  have h5 : (W32 - 1) * 2 ^ 31 * W32 ^ p + W32 ^ p * W32 ≤ W32 ^ p * W32 * W32 := by
    have : (W32 - 1) * 2 ^ 31 + W32 ≤ W32 * W32 := by decide
    have := Nat.mul_le_mul_left (W32 ^ p) this
    rw [Nat.mul_add, ← Nat.mul_assoc (W32 ^ p) W32 W32] at this
    rw [Nat.mul_comm ((W32 - 1) * 2 ^ 31)]
    exact this
  omega
/-- What has been laid behind i limbs. -/
def part (M q r i : Nat) : Nat := M % W32 ^ i * 2 ^ r * W32 ^ q
theorem part_step (M q r i : Nat) : part M q r (i + 1) = part M q r i + dg M i * 2 ^ r * W32 ^ (i + q) := by
  unfold part
  rw [dg_add, Nat.add_mul, Nat.add_mul, Nat.pow_add]
  congr 1
  ac_rfl
theorem part_lt (M q r i : Nat) : part M q r i < W32 ^ (i + q) * 2 ^ r := by
  unfold part
  have h1 : M % W32 ^ i < W32 ^ i := Nat.mod_lt _ (W32_pow i)
  rw [Nat.pow_add, show M % W32 ^ i * 2 ^ r * W32 ^ q = M % W32 ^ i * (W32 ^ q * 2 ^ r) by ac_rfl, Nat.mul_assoc]
  exact Nat.mul_lt_mul_of_pos_right h1 (Nat.mul_pos (W32_pow q) (Nat.two_pow_pos r))
theorem part_end (M q r n : Nat) (h : M < W32 ^ n) : part M q r n = M * 2 ^ (32 * q + r) := by
  unfold part
  rw [Nat.mod_eq_of_lt h, W32_two, Nat.mul_assoc, ← Nat.pow_add, Nat.add_comm r]
theorem part_zero (M q r : Nat) : part M q r 0 = 0 := by unfold part; rw [Nat.pow_zero, Nat.mod_one, Nat.zero_mul, Nat.zero_mul]
theorem part_high (M q r k : Nat) (hr : r ≤ 31) : dg (part M q r k) (k + q + 1) = 0 := by
  refine dg_high _ _ (Nat.lt_of_lt_of_le (part_lt M q r k) ?_)
  rw [Nat.pow_succ]
  exact Nat.mul_le_mul_left _ (Nat.le_trans (Nat.pow_le_pow_right (by decide) hr) (by decide : (2 : Nat) ^ 31 ≤ W32))
set_option maxHeartbeats 4000000 in
theorem left_any (w : World) (v : Value) (M q r : Nat) (h : MagIs w v M) (hq : q ≤ 100000) (hr : r ≤ 31) (hn : ∀ A n cap, v = .slice A n cap → n ≤ 100000) :
    Calls Tryd.prog 58 #[v, .int .i64 ((32 * q + r : Nat) : Int)] w fun e w' => ∃ v', e = .returned v' ∧ MagIs w' v' (M * 2 ^ (32 * q + r)) ∧ Below w.heap.size w w' := by
  by_cases hM : M = 0
  · subst hM
    obtain ⟨A, n, cap, rfl, _, h0⟩ := h.form
    obtain rfl : n = 0 := h0.2 rfl
    go_enter Tryd.func58, Tryd.ntmps58
    go_wp2_with fail
    go_ret
    exact ⟨_, rfl, Or.inl ⟨rfl, by simp⟩, Below.refl _ _⟩
  · rcases h with ⟨_, h0⟩ | ⟨g, n, cap, rfl, hnc, hc, hl, hv⟩
    · exact absurd h0 hM
    · have hn1 := hn _ _ _ rfl
      have hnp : 0 < n := Nat.pos_of_ne_zero fun e => hM ((nl32_zero n M hl).1 e)
      have hn0 : ((n : Int) == 0) = false := by rw [beq_eq_false_iff_ne]; omega
      obtain ⟨s, hs⟩ : ∃ s, s = 32 * q + r := ⟨_, rfl⟩
      have hquo : Int.tdiv (s : Int) 32 = (q : Nat) := by rw [Int.tdiv_eq_ediv_of_nonneg (by omega)]; omega
      have hrem : Int.tmod (s : Int) 32 = (r : Nat) := by rw [Int.tmod_eq_emod_of_nonneg (by omega)]; omega
      have hmk := run_make_32 ((n : Int) + q + 1) ((n : Int) + q + 1) (by omega) (Int.le_refl _) (by omega)
      obtain ⟨N, hN⟩ : ∃ N, N = n + q + 1 := ⟨_, rfl⟩
      have hNt : ((n : Int) + q + 1).toNat = N := by omega
      rw [hNt] at hmk
      rw [← hs]
      have hs0 : (0 : Int) ≤ (s : Int) := by omega
      have hsl : s ≤ 4000000 := by omega
      have HS := Lib.hid hs
      have HN := Lib.hid hN
      have HL := Lib.hid hl
      clear hs hNt hN hl hn
      go_enter Tryd.func58, Tryd.ntmps58
      go_wp2_with fail
      obtain ⟨gh, hgh⟩ : ∃ gh, gh = w.heap.size := ⟨_, rfl⟩
      have hm0 : V32 (w.alloc (.cells (zero32 N) 64)) gh N 0 N (dg (part M q r 0)) := by
        rw [hgh, part_zero]
        exact (V32.made w N).weaken fun j a b => ⟨a, b, (dg_zero j).symm⟩
      have hg0 : w.grownBy (w.alloc (.cells (zero32 N) 64)) (Option.some gh) := World.grownBy_alloc w _ _
      have hgw : g ≠ gh := by have := hv.lt; omega
      rw [← hgh]
      have HG := Lib.hid hgh
      clear hmk hgh
      go_loopw [6] (fun i wr => ∃ k : Nat, k ≤ n ∧ i = .int .i64 (k : Nat) ∧ V32 wr gh N 0 N (dg (part M q r k)) ∧ w.grownBy wr (Option.some gh)) (fun i _ => n - (intOf i).toNat)
      case atStart => exact ⟨0, Nat.zero_le _, rfl, hm0, hg0⟩
      case round =>
        obtain ⟨k, hk, rfl, hz, hg⟩ := hrel
        clear hm0 hg0
        by_cases hlt : k < n
        · have hlt' : (k : Int) < (n : Int) := by omega
          have hk0 : (0 : Int) ≤ (k : Int) := by omega
          have hcx := (hv.grown hg (fun e => hgw (by injection e))).cell k (Nat.zero_le _) hlt
          have hxW := dg_lt M k
          have hV := part_lt M q r k
          have hps := part_step M q r k
          have hlow := left_low (part M q r k) (dg M k) r (k + q) hr hV
          have hhigh := left_high (part M q r k) (dg M k) r (k + q) hr hxW hV
          rw [← hps] at hlow hhigh
          have hsame : ∀ j, j ≠ k + q → j ≠ k + q + 1 → dg (part M q r k) j = dg (part M q r (k + 1)) j := fun j h1 h2 => by
            rw [hps]
            rcases Nat.lt_or_ge j (k + q) with h3 | h3
            · exact (dg_same _ _ _ _ h3).symm
            · obtain ⟨h4, h5⟩ := left_above (part M q r k) (dg M k) r (k + q) j hr hxW hV (by omega)
              rw [h4, h5]
          have hp0 := part_high M q r k hr
          have hNn := HN.out
          have hdV := dg_lt (part M q r k) (k + q)
          have hD1l := dg_lt (part M q r (k + 1)) (k + q)
          have hD2l := dg_lt (part M q r (k + 1)) (k + q + 1)
          have hc1 := hz.cell (k + q) (Nat.zero_le _) (by omega)
          have hf1 := hz.free (k + q)
          have hc2 := hz.cell (k + q + 1) (Nat.zero_le _) (by omega)
          rw [hp0] at hc2
          obtain ⟨x, hx⟩ : ∃ x, x = dg M k := ⟨_, rfl⟩
          obtain ⟨y, hy⟩ : ∃ y, y = x * 2 ^ r := ⟨_, rfl⟩
          obtain ⟨o, ho⟩ : ∃ o, o = dg (part M q r k) (k + q) := ⟨_, rfl⟩
          obtain ⟨D1, hD1⟩ : ∃ D1, D1 = dg (part M q r (k + 1)) (k + q) := ⟨_, rfl⟩
          obtain ⟨D2, hD2⟩ : ∃ D2, D2 = dg (part M q r (k + 1)) (k + q + 1) := ⟨_, rfl⟩
          rw [← hx] at hcx hxW hlow hhigh
          rw [← hy, ← ho, ← hD1] at hlow
          rw [← hy, ← hD2] at hhigh
          rw [← ho] at hc1 hdV
          rw [← hD1] at hD1l
          rw [← hD2] at hD2l
          have hset1 : V32 (wr.setCell ⟨gh, k + q, none⟩ (.int .u32 (D1 : Nat))) gh N 0 N (fun j => if j = k + q then D1 else dg (part M q r k) j) :=
            hz.set (k + q) D1 (by omega) (by rw [if_pos rfl]) (fun j a b hne => ⟨a, b, (if_neg hne).symm⟩)
          have hc2' := hset1.cell (k + q + 1) (Nat.zero_le _) (by omega)
          rw [if_neg (by omega), hp0] at hc2'
          have hf2' := hset1.free (k + q + 1)
          have hset2 : V32 ((wr.setCell ⟨gh, k + q, none⟩ (.int .u32 (D1 : Nat))).setCell ⟨gh, k + q + 1, none⟩ (.int .u32 (D2 : Nat))) gh N 0 N (dg (part M q r (k + 1))) :=
            hset1.set (k + q + 1) D2 (by omega) hD2 (fun j a b hne => ⟨a, b, by
              by_cases h1 : j = k + q
              · rw [if_pos h1, h1, hD1]
              · rw [if_neg h1]; exact hsame j h1 hne⟩)
          have hg2 := grown_set (grown_set hg (k + q) (.int .u32 (D1 : Nat))) (k + q + 1) (.int .u32 (D2 : Nat))
          have hr2 : 2 ^ r ≤ 2 ^ 31 := Nat.pow_le_pow_right (by decide) hr
          have hyl : y < 9223372036854775808 := by
            rw [hy]
            have h1 : x * 2 ^ r ≤ (W32 - 1) * 2 ^ 31 := Nat.mul_le_mul (by omega) hr2
            exact Nat.lt_of_le_of_lt h1 (by decide)
          have hxs : IntKind.u64.wrap ((x : Int) * 2 ^ r) = ((y : Nat) : Int) := by
            have e : ((y : Nat) : Int) = (x : Int) * 2 ^ r := by rw [hy, Int.natCast_mul, Int.natCast_pow]; rfl
            rw [← e, IntKind.wrap_u64]
            omega
          obtain ⟨lo, hlo⟩ : ∃ lo, lo = y % W32 := ⟨_, rfl⟩
          have hw32 : IntKind.u32.wrap ((y : Nat) : Int) = ((lo : Nat) : Int) := by
            rw [IntKind.wrap_u32, hlo]; rfl
          have hor1 : bits .or .u32 ((o : Nat) : Int) ((lo : Nat) : Int) = ((D1 : Nat) : Int) := by
            rw [Go.u32_or_nat o lo hdV (by rw [hlo]; exact Nat.mod_lt _ W32_pos), hlo, hlow]
          have hdiv : ((y : Nat) : Int) / 4294967296 = ((D2 : Nat) : Int) := by rw [← hhigh]; rfl
          have hor2 : bits .or .u32 0 ((D2 : Nat) : Int) = ((D2 : Nat) : Int) := by
            have := Go.u32_or_nat 0 D2 (by decide) hD2l
            rw [Nat.zero_or] at this
            exact this
          have hxl : (x : Int) ≤ 4294967295 := by unfold W32 at hxW; omega
          have hD1i : (D1 : Int) ≤ 4294967295 := by unfold W32 at hD1l; omega
          have hD2i : (D2 : Int) ≤ 4294967295 := by unfold W32 at hD2l; omega
          have hoi : (o : Int) ≤ 4294967295 := by unfold W32 at hdV; omega
          have hb1 : (k : Int) + (q : Int) < (N : Int) := by omega
          have hb2 : (k : Int) + (q : Int) + 1 < (N : Int) := by omega
          have hb3 : (0 : Int) ≤ (k : Int) + (q : Int) + 1 := by omega
          have hb4 : (0 : Int) ≤ (k : Int) + (q : Int) := by omega
          clear hx hy hlo ho hD1 hD2 hlow hhigh hsame hp0 hset1 hc2 hz hg hps hV hr2 hNn hdV hD1l hD2l hxW
          go_wp2_with fail
          go_roundw
          case rel => exact ⟨k + 1, by omega, by go_num, hset2, hg2⟩
          case measure => simp [intOf]; omega
        · obtain rfl : k = n := by omega
          have hlt' : decide ((k : Int) < (k : Nat)) = false := by simp
          have htr := trim_row wr gh N N (part M q r k) hz (by
            have h1 := part_lt M q r k
            rw [HN.out, Nat.pow_succ]
            exact Nat.lt_of_lt_of_le h1 (Nat.mul_le_mul_left _ (Nat.le_trans (Nat.pow_le_pow_right (by decide) hr) (by decide : (2 : Nat) ^ 31 ≤ W32)))) (Nat.le_refl _) (by have := HN.out; omega)
          rw [part_end M q r k HL.out.1, ← HS.out] at *
          have hbel := below_of_grown hg (by rw [HG.out]; exact Nat.le_refl _)
          have hN9 : N ≤ 1000000 := by have := HN.out; omega
          clear hg hnc
          go_wp2_with fail
          refine htr.mono ?_
          rintro e w1 ⟨⟨j, hj, hnl, rfl⟩, rfl⟩
          go_wp2_with fail
          go_ret
          exact ⟨_, rfl, Or.inr ⟨gh, j, N, rfl, hj, hN9, hnl, hz.weaken fun i a b => ⟨a, by omega, rfl⟩⟩, hbel⟩
end Go.Proofs.YtopilodakphhgaaDoor
