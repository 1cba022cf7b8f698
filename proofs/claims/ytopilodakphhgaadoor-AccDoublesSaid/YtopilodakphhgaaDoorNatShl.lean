/- math/big's lshVU (its Go twin): words shifted up. -/
import Derived.Test.YtopilodakphhgaaDoorNatShr
namespace Go.Proofs.YtopilodakphhgaaDoor
set_option linter.unusedVariables false
set_option linter.unusedSimpArgs false
open Go Go.RowKit
set_option maxRecDepth 100000
theorem wd_shl_zero (M s : Nat) : wd (M * 2 ^ s) 0 = wd M 0 * 2 ^ s % B64 := by
  unfold wd
  rw [Nat.pow_zero, Nat.div_one, Nat.div_one, Nat.mod_mul_mod]
theorem wd_shl (M s j : Nat) (hs1 : 1 ≤ s) (hs : s ≤ 63) : wd (M * 2 ^ s) (j + 1) = (wd M (j + 1) * 2 ^ s % B64 ||| wd M j / 2 ^ (64 - s)) := by
  have e2 : M / B64 ^ (j + 1) = M / B64 ^ j / B64 := by rw [Nat.pow_succ, Nat.div_div_eq_div_mul]
  have hB : B64 = 2 ^ s * 2 ^ (64 - s) := by rw [← Nat.pow_add, show s + (64 - s) = 64 by omega]; rfl
  have h1 : 0 < 2 ^ s := Nat.two_pow_pos s
  have h2 : 0 < 2 ^ (64 - s) := Nat.two_pow_pos _
  have e1 : M * 2 ^ s / B64 ^ (j + 1) = M / B64 ^ j / 2 ^ (64 - s) := by
    rw [Nat.pow_succ, Nat.div_div_eq_div_mul]
    conv => lhs; rw [hB]
    rw [show (2 ^ s * 2 ^ (64 - s)) ^ j * (2 ^ s * 2 ^ (64 - s)) = 2 ^ s * ((2 ^ s * 2 ^ (64 - s)) ^ j * 2 ^ (64 - s)) by ac_rfl, Nat.mul_comm M, Nat.mul_div_mul_left _ _ h1, ← hB]
  unfold wd
  rw [e1, e2]
  generalize M / B64 ^ j = N
  have h3 : N % B64 / 2 ^ (64 - s) = N / 2 ^ (64 - s) % 2 ^ s := by
    conv => lhs; rw [hB, Nat.mul_comm (2 ^ s)]
    rw [Nat.mod_mul_right_div_self]
  have h4 : N / B64 % B64 * 2 ^ s % B64 = 2 ^ s * (N / B64 % 2 ^ (64 - s)) := by
    rw [Nat.mod_mul_mod, Nat.mul_comm (N / B64)]
    conv => lhs; rw [hB]
    rw [Nat.mul_mod_mul_left, hB]
  have h5 : N / 2 ^ (64 - s) % B64 = N / 2 ^ (64 - s) % 2 ^ s + 2 ^ s * (N / B64 % 2 ^ (64 - s)) := by
    conv => lhs; rw [hB, Nat.mod_mul]
    rw [Nat.div_div_eq_div_mul, Nat.mul_comm (2 ^ (64 - s)), ← hB]
  rw [h5, h3, h4, ← Nat.two_pow_add_eq_or_of_lt (Nat.mod_lt _ h1), Nat.add_comm]
/-- The word that goes out above. -/
theorem wd_shl_top (M s m : Nat) (hs1 : 1 ≤ s) (hs : s ≤ 63) (h0 : 0 < m) (hM : M < B64 ^ m) : wd (M * 2 ^ s) m = wd M (m - 1) / 2 ^ (64 - s) := by
  obtain ⟨j, rfl⟩ : ∃ j, m = j + 1 := ⟨m - 1, by omega⟩
  have h := wd_shl M s j hs1 hs
  have hz : wd M (j + 1) = 0 := by unfold wd; rw [Nat.div_eq_of_lt hM]; rfl
  rw [hz, Nat.zero_mul, Nat.zero_mod, Nat.zero_or] at h
  exact h
theorem shl_val (M s k : Nat) (hs1 : 1 ≤ s) (hs : s ≤ 63) : bits BinOp.or IntKind.u64 (IntKind.u64.wrap (((wd M (k + 1) : Nat) : Int) * 2 ^ s)) (((wd M k : Nat) : Int) / 2 ^ (64 - s)) = (wd (M * 2 ^ s) (k + 1) : Nat) := by
  have e1 : (((wd M k : Nat) : Int) / 2 ^ (64 - s)) = ((wd M k / 2 ^ (64 - s) : Nat) : Int) := by rw [Int.natCast_ediv, Int.natCast_pow]; rfl
  have e2 : IntKind.u64.wrap (((wd M (k + 1) : Nat) : Int) * 2 ^ s) = ((wd M (k + 1) * 2 ^ s % B64 : Nat) : Int) := by
    rw [IntKind.wrap_u64, Int.natCast_emod, Int.natCast_mul, Int.natCast_pow]; rfl
  rw [e1, e2, u64_or_nat (wd M (k + 1) * 2 ^ s % B64) (wd M k / 2 ^ (64 - s)) (show _ < B64 from Nat.mod_lt _ B64_pos) (Nat.lt_of_le_of_lt (Nat.div_le_self _ _) (wd_lt M k)), wd_shl M s k hs1 hs]
theorem run_lshVU (args : Array Value) (w : World) : (callFunc 89 args).run Tryd.prog w = .ok (.enter 62 args) w := by kernel_rfl
set_option maxHeartbeats 2000000 in
theorem lshVU_any (w : World) (g cap d m h caph M s cz cx lo hi : Nat) (F : Nat → Nat) (hz : Vec w g cap lo hi F) (hx : Vec w h caph 0 m (wd M)) (hM : M < B64 ^ m) (hne : h ≠ g) (h0 : 0 < m) (hn : d + m ≤ cap) (hcap : cap ≤ 1000000) (hs1 : 1 ≤ s) (hs : s ≤ 63) :
    Calls Tryd.prog 62 #[.slice (Option.some ⟨g, d, none⟩) m cz, .slice (Option.some ⟨h, 0, none⟩) m cx, .int .u64 (s : Nat)] w fun e w' => e = .returned (.int .u64 (wd (M * 2 ^ s) m : Nat)) ∧ Vec w' g cap d (d + m) (fun j => wd (M * 2 ^ s) (j - d)) ∧ w.grownBy w' (Option.some g) := by
  have hs0 : (((s : Nat) : Int) == 0) = false := by rw [beq_eq_false_iff_ne]; omega
  have hn0 : (((m : Nat) : Int) == 0) = false := by rw [beq_eq_false_iff_ne]; omega
  have ha := and63 s hs
  have hb := and63 (64 - s) (by omega)
  have hsub : ((64 - s : Nat) : Int) = 64 - (s : Int) := by omega
  rw [hsub] at hb
  have hx0 := hx.cell (m - 1) (Nat.zero_le _) (by omega)
  have hm1 : ((m : Int) - 1).toNat = m - 1 := by omega
  have hl0 := wd_le M (m - 1)
  have htop := wd_shl_top M s m hs1 hs h0 hM
  have htop' : (wd (M * 2 ^ s) m : Int) = ((wd M (m - 1) : Nat) : Int) / 2 ^ (64 - s) := by rw [htop, Int.natCast_ediv, Int.natCast_pow]; rfl
  have HT := Lib.hid htop'
  clear htop htop'
  go_enter Tryd.func62, Tryd.ntmps62
  go_wp2_with fail
  clear hx0 hl0
  go_loopw [8] (fun kk wr => ∃ k : Nat, k < m ∧ kk = .int .i64 k ∧ Vec wr g cap (d + k + 1) (d + m) (fun j => wd (M * 2 ^ s) (j - d)) ∧ w.grownBy wr (Option.some g)) (fun kk _ => (intOf kk).toNat)
  case atStart => exact ⟨m - 1, by omega, congrArg _ (by omega), hz.weaken' (fun j a b => by omega), grown_refl _ _⟩
  case round =>
    obtain ⟨k, hk, rfl, hv, hg⟩ := hrel
    have hxr := hx.grown hg (fun e => hne (by injection e))
    obtain ⟨v, hc⟩ := hv.some (d + k) (by omega)
    have hf := hv.free (d + k)
    have hstep : Vec (wr.setCell ⟨g, d + k, none⟩ (.int .u64 (wd (M * 2 ^ s) k : Nat))) g cap (d + k) (d + m) (fun j => wd (M * 2 ^ s) (j - d)) :=
      hv.set (d + k) _ (by omega) (by rw [show d + k - d = k by omega]) (fun j a b hne => ⟨by omega, b, rfl⟩)
    have hgs := grown_set hg (d + k) (.int .u64 (wd (M * 2 ^ s) k : Nat))
    have hx1 := hxr.cell k (Nat.zero_le _) (by omega)
    have hl1 := wd_le M k
    by_cases hlt : 0 < k
    · obtain ⟨i, rfl⟩ : ∃ i, k = i + 1 := ⟨k - 1, by omega⟩
      have hx2 := hxr.cell i (Nat.zero_le _) (by omega)
      have hl2 := wd_le M i
      go_wp2_with fail
      go_region
      go_wp2_with fail
      rw [shl_val M s i hs1 hs]
      go_roundw
      case rel => exact ⟨i, by omega, by go_num, hstep, grown_drew hgs⟩
      case measure => simp [intOf]
    · obtain rfl : k = 0 := by omega
      have hw0 : IntKind.u64.wrap (((wd M 0 : Nat) : Int) * 2 ^ s) = (wd (M * 2 ^ s) 0 : Nat) := by
        rw [wd_shl_zero, IntKind.wrap_u64, Int.natCast_emod, Int.natCast_mul, Int.natCast_pow]; rfl
      simp only [Nat.add_zero] at hc hf hstep hgs
      go_wp2_with fail
      go_ret
      exact ⟨congrArg (fun n => Ending.returned (.int .u64 n)) HT.out.symm, hstep, hgs⟩
end Go.Proofs.YtopilodakphhgaaDoor
