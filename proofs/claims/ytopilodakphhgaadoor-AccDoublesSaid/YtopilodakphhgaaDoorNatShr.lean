/- math/big's rshVU (its Go twin): words shifted down. -/
import Derived.Test.YtopilodakphhgaaDoorNatSetBytes
namespace Go.Proofs.YtopilodakphhgaaDoor
set_option linter.unusedVariables false
set_option linter.unusedSimpArgs false
open Go Go.RowKit
set_option maxRecDepth 100000
theorem B64_two : B64 = 2 ^ 64 := rfl
theorem wd_shr (M q s j : Nat) (hs1 : 1 ≤ s) (hs : s ≤ 63) : wd (M / 2 ^ (64 * q + s)) j = (wd M (q + j) / 2 ^ s ||| wd M (q + j + 1) * 2 ^ (64 - s) % B64) := by
  have e1 : M / 2 ^ (64 * q + s) / B64 ^ j = M / B64 ^ (q + j) / 2 ^ s := by
    rw [B64_two, ← Nat.pow_mul, ← Nat.pow_mul, Nat.div_div_eq_div_mul, Nat.div_div_eq_div_mul, ← Nat.pow_add, ← Nat.pow_add]
    congr 2
    rw [Nat.mul_add]; omega
  have e2 : M / B64 ^ (q + j + 1) = M / B64 ^ (q + j) / B64 := by rw [Nat.pow_succ, Nat.div_div_eq_div_mul]
  unfold wd
  rw [e1, e2]
  generalize M / B64 ^ (q + j) = N
  have hB : B64 = 2 ^ s * 2 ^ (64 - s) := by rw [← Nat.pow_add, show s + (64 - s) = 64 by omega]; rfl
  have h1 : 0 < 2 ^ s := Nat.two_pow_pos s
  have h2 : 0 < 2 ^ (64 - s) := Nat.two_pow_pos _
  have h3 : N % B64 / 2 ^ s = N / 2 ^ s % 2 ^ (64 - s) := by rw [hB, Nat.mod_mul_right_div_self]
  have h4 : N / B64 % B64 * 2 ^ (64 - s) % B64 = 2 ^ (64 - s) * (N / B64 % 2 ^ s) := by
    rw [Nat.mod_mul_mod, Nat.mul_comm (N / B64)]
    conv => lhs; rw [hB, Nat.mul_comm (2 ^ s)]
    rw [Nat.mul_mod_mul_left, hB, Nat.mul_comm (2 ^ (64 - s)) (2 ^ s)]
  have h5 : N / 2 ^ s % B64 = N / 2 ^ s % 2 ^ (64 - s) + 2 ^ (64 - s) * (N / B64 % 2 ^ s) := by
    conv => lhs; rw [hB, Nat.mul_comm (2 ^ s), Nat.mod_mul]
    rw [Nat.div_div_eq_div_mul, ← hB]
  rw [h5, h3, h4, Nat.or_comm, ← Nat.two_pow_add_eq_or_of_lt (Nat.mod_lt _ h2), Nat.add_comm]
/-- The highest word: nothing comes from above. -/
theorem wd_shr_top (M q s n : Nat) (hs1 : 1 ≤ s) (hs : s ≤ 63) (h0 : 0 < n) (hM : M < B64 ^ (q + n)) : wd (M / 2 ^ (64 * q + s)) (n - 1) = wd M (q + n - 1) / 2 ^ s := by
  have h := wd_shr M q s (n - 1) hs1 hs
  have hz : wd M (q + (n - 1) + 1) = 0 := by
    unfold wd
    rw [show q + (n - 1) + 1 = q + n by omega, Nat.div_eq_of_lt hM]
    rfl
  rw [hz, Nat.zero_mul, Nat.zero_mod, Nat.or_zero, show q + (n - 1) = q + n - 1 by omega] at h
  exact h
theorem shr_val (M q s k : Nat) (hs1 : 1 ≤ s) (hs : s ≤ 63) : bits BinOp.or IntKind.u64 (((wd M (q + k) : Nat) : Int) / 2 ^ s) (IntKind.u64.wrap (((wd M (q + (k + 1)) : Nat) : Int) * 2 ^ (64 - s))) = (wd (M / 2 ^ (64 * q + s)) k : Nat) := by
  have e1 : (((wd M (q + k) : Nat) : Int) / 2 ^ s) = ((wd M (q + k) / 2 ^ s : Nat) : Int) := by rw [Int.natCast_ediv, Int.natCast_pow]; rfl
  have e2 : IntKind.u64.wrap (((wd M (q + (k + 1)) : Nat) : Int) * 2 ^ (64 - s)) = ((wd M (q + k + 1) * 2 ^ (64 - s) % B64 : Nat) : Int) := by
    rw [IntKind.wrap_u64, Int.natCast_emod, Int.natCast_mul, Int.natCast_pow]; rfl
  rw [e1, e2, u64_or_nat (wd M (q + k) / 2 ^ s) (wd M (q + k + 1) * 2 ^ (64 - s) % B64) (Nat.lt_of_le_of_lt (Nat.div_le_self _ _) (wd_lt M (q + k))) (show _ < B64 from Nat.mod_lt _ B64_pos), wd_shr M q s k hs1 hs]
theorem run_rshVU (args : Array Value) (w : World) : (callFunc 85 args).run Tryd.prog w = .ok (.enter 63 args) w := by kernel_rfl
theorem and63 (s : Nat) (hs : s ≤ 63) : bits .and .u64 (s : Int) 63 = (s : Nat) := by
  have h := u64_and_nat s 63 (by omega) (by decide)
  rw [show s &&& 63 = s % 64 from Nat.and_two_pow_sub_one_eq_mod _ 6, Nat.mod_eq_of_lt (by omega)] at h
  exact h
set_option maxHeartbeats 2000000 in
theorem rshVU_any (w : World) (g cap n h caph M q s cz cx lo hi : Nat) (F : Nat → Nat) (hz : Vec w g cap lo hi F) (hx : Vec w h caph 0 (q + n) (wd M)) (hM : M < B64 ^ (q + n)) (hne : h ≠ g) (h0 : 0 < n) (hn : n ≤ cap) (hcap : cap ≤ 1000000) (hq : q ≤ 1000000) (hs1 : 1 ≤ s) (hs : s ≤ 63) :
    Calls Tryd.prog 63 #[.slice (Option.some ⟨g, 0, none⟩) n cz, .slice (Option.some ⟨h, q, none⟩) n cx, .int .u64 (s : Nat)] w fun e w' => (∃ c : Int, e = .returned (.int .u64 c)) ∧ Vec w' g cap 0 n (wd (M / 2 ^ (64 * q + s))) ∧ w.grownBy w' (Option.some g) := by
  have hs0 : (((s : Nat) : Int) == 0) = false := by rw [beq_eq_false_iff_ne]; omega
  have hn0 : (((n : Nat) : Int) == 0) = false := by rw [beq_eq_false_iff_ne]; omega
  have ha := and63 s hs
  have hb := and63 (64 - s) (by omega)
  have hsub : ((64 - s : Nat) : Int) = 64 - (s : Int) := by omega
  rw [hsub] at hb
  have hx0 := hx.cell q (Nat.zero_le _) (by omega)
  have hl0 := wd_le M q
  go_enter Tryd.func63, Tryd.ntmps63
  go_wp2_with fail
  clear hx0 hl0
  go_loopw [8] (fun kk wr => ∃ k : Nat, k + 1 ≤ n ∧ kk = .int .i64 ((k : Int) + 1) ∧ Vec wr g cap 0 k (wd (M / 2 ^ (64 * q + s))) ∧ w.grownBy wr (Option.some g)) (fun kk _ => n + 1 - (intOf kk).toNat)
  case atStart => exact ⟨0, by omega, rfl, (by obtain ⟨cur, a1, a2, _⟩ := hz; exact ⟨cur, a1, a2, fun j _ hj => absurd hj (Nat.not_lt_zero j)⟩), grown_refl _ _⟩
  case round =>
    obtain ⟨k, hk, rfl, hv, hg⟩ := hrel
    have hxr := hx.grown hg (fun e => hne (by injection e))
    obtain ⟨v, hc⟩ := hv.some k (by omega)
    have hf := hv.free k
    have hstep : Vec (wr.setCell ⟨g, k, none⟩ (.int .u64 (wd (M / 2 ^ (64 * q + s)) k : Nat))) g cap 0 (k + 1) (wd (M / 2 ^ (64 * q + s))) :=
      hv.set k _ (by omega) rfl (fun j _ hj hne => ⟨Nat.zero_le _, by omega, rfl⟩)
    have hgs := grown_set hg k (.int .u64 (wd (M / 2 ^ (64 * q + s)) k : Nat))
    by_cases hlt : k + 1 < n
    · have hx1 := hxr.cell (q + k) (Nat.zero_le _) (by omega)
      have hx2 := hxr.cell (q + (k + 1)) (Nat.zero_le _) (by omega)
      have hl1 := wd_le M (q + k)
      have hl2 := wd_le M (q + (k + 1))
      go_wp2_with fail
      go_region
      go_wp2_with fail
      rw [shr_val M q s k hs1 hs]
      go_roundw
      case rel => exact ⟨k + 1, by omega, by go_num, hstep, grown_drew hgs⟩
      case measure => simp [intOf]; omega
    · obtain rfl : n = k + 1 := by omega
      have hx1 := hxr.cell (q + k) (Nat.zero_le _) (by omega)
      have hl1 := wd_le M (q + k)
      have hlast : (((wd M (q + k) : Nat) : Int) / 2 ^ s) = (wd (M / 2 ^ (64 * q + s)) k : Nat) := by
        have h := wd_shr_top M q s (k + 1) hs1 hs (by omega) hM
        rw [show k + 1 - 1 = k by omega, show q + (k + 1) - 1 = q + k by omega] at h
        rw [h, Int.natCast_ediv, Int.natCast_pow]; rfl
      have HL := Lib.hid hlast
      clear hlast
      go_wp2_with fail
      go_ret
      rw [HL.out]
      exact ⟨⟨_, rfl⟩, hstep, hgs⟩
end Go.Proofs.YtopilodakphhgaaDoor
