/- (nat).rsh into a new row. -/
import Derived.Test.YtopilodakphhgaaDoorNatShr
import Derived.Test.YtopilodakphhgaaDoorNatCopy
namespace Go.Proofs.YtopilodakphhgaaDoor
set_option linter.unusedVariables false
set_option linter.unusedSimpArgs false
open Go Go.RowKit
set_option maxRecDepth 100000
/-- A row made behind w's blocks, or none. -/
def NewRow (w : World) (B : Option Addr) : Prop := ∀ a, B = Option.some a → w.heap.size ≤ a.block
theorem natIs_zero (w : World) : NatIs w none 0 0 0 := ⟨⟨by rw [Nat.pow_zero]; omega, fun h => absurd h (Nat.lt_irrefl 0)⟩, Or.inl ⟨rfl, rfl, rfl⟩⟩
theorem B64_pow (m : Nat) : B64 ^ m = 2 ^ (64 * m) := by rw [B64_two, ← Nat.pow_mul]
theorem shr_zero (M m s : Nat) (h : M < B64 ^ m) (hq : m ≤ s / 64) : M / 2 ^ s = 0 := by
  rw [B64_pow] at h
  exact Nat.div_eq_of_lt (Nat.lt_of_lt_of_le h (Nat.pow_le_pow_right (by omega) (by omega)))
theorem shr_lt (M m s k : Nat) (h : M < B64 ^ m) (hk : m = s / 64 + k) : M / 2 ^ s < B64 ^ k := by
  rw [B64_pow] at *
  rw [Nat.div_lt_iff_lt_mul (Nat.two_pow_pos s), ← Nat.pow_add]
  exact Nat.lt_of_lt_of_le h (Nat.pow_le_pow_right (by omega) (by omega))
theorem wd_shr_whole (M q j : Nat) : wd (M / 2 ^ (64 * q)) j = wd M (q + j) := by
  unfold wd
  rw [Nat.div_div_eq_div_mul, B64_two, ← Nat.pow_mul, ← Nat.pow_mul, ← Nat.pow_add]
  congr 3
  rw [Nat.mul_add]
set_option maxHeartbeats 2000000 in
theorem rsh_nil (w : World) (A : Option Addr) (m cx M s : Nat) (h : NatIs w A m cx M) (hs1 : 1 ≤ s) (hs : s ≤ 50000) (hm : m ≤ 50000) :
    Calls Tryd.prog 68 #[.slice none 0 0, .slice A m cx, .int .u64 (s : Nat)] w fun e w' => (∃ B n cap, e = .returned (.slice B n cap) ∧ NatIs w' B n cap (M / 2 ^ s) ∧ NewRow w B) ∧ Below w.heap.size w w' := by
  have hs0 : (((s : Nat) : Int) == 0) = false := by rw [beq_eq_false_iff_ne]; omega
  obtain ⟨q, hq⟩ : ∃ q, s / 64 = q := ⟨_, rfl⟩
  obtain ⟨r, hr⟩ : ∃ r, s % 64 = r := ⟨_, rfl⟩
  have hqi : ((s : Nat) : Int) / 64 = (q : Nat) := by omega
  have hri : ((s : Nat) : Int) % 64 = (r : Nat) := by omega
  have hq1 : q ≤ 1000 := by omega
  have hr1 : r ≤ 63 := by omega
  have HQ := Lib.hid hq
  have HR := Lib.hid hr
  have hlt := h.1.1
  have hrow := h.2
  clear h hq hr
  by_cases hk : m ≤ q
  · have hd : decide ((m : Int) - (q : Int) ≤ 0) = true := by simp; omega
    have hz := Lib.hid (shr_zero M m s hlt (by rw [HQ.out]; exact hk))
    clear hrow
    go_enter Tryd.func68, Tryd.ntmps68
    go_wp2_with fail
    go_ret
    exact ⟨⟨none, 0, 0, rfl, by rw [hz.out]; exact natIs_zero _, fun _ h => by cases h⟩, Below.refl _ _⟩
  · have hd : decide ((m : Int) - (q : Int) ≤ 0) = false := by simp; omega
    obtain ⟨h0, hA, _⟩ | ⟨g, rfl, hc1, hc2, hv⟩ := hrow
    · exfalso; omega
    · obtain ⟨k, hkm⟩ : ∃ k, m = q + k := ⟨m - q, by omega⟩
      have hk0 : 0 < k := by omega
      have hqk : (m : Int) - (q : Int) = (k : Nat) := by omega
      have hmk : (m : Int) - (k : Int) = (q : Nat) := by omega
      have hkl : k ≤ 50000 := by omega
      have hqm : (q : Int) ≤ (m : Int) := by omega
      have HKM := Lib.hid hkm
      have hgl := hv.lt
      have hML := Lib.hid (shr_lt M m s k hlt (by rw [HQ.out]; exact hkm))
      clear hkm hk
      go_enter Tryd.func68, Tryd.ntmps68
      go_wp2_with fail
      refine (make_nil k hk0 (by omega) _).mono ?_
      rintro e w1 ⟨cap, hc1', hc2', rfl, rfl⟩
      have hv1 := hv.below ((Below.refl w.heap.size w).alloc (Nat.le_refl _) (Obj.cells (zeroWords cap) 102))
      have hz1 := Vec.made w cap
      have hb1 : Below w.heap.size w (w.alloc (Obj.cells (zeroWords cap) 102)) := (Below.refl _ _).alloc (Nat.le_refl _) _
      generalize hW : w.alloc (Obj.cells (zeroWords cap) 102) = W at *
      clear hW
      have hmq : m - q = k := by omega
      have hvq : Vec W g cx q (q + k) (wd M) := hv1.weaken (Nat.zero_le _) (by omega) (fun _ _ _ => rfl)
      have hgv : g ≠ w.heap.size := by omega
      by_cases hr0 : r = 0
      · subst hr0
        have HF : ∀ j, 0 ≤ j → j < k → (0 ≤ j ∧ j < 0 + k ∧ wd (M / 2 ^ s) j = wd M (q + (j - 0))) ∨ ((j < 0 ∨ 0 + k ≤ j) ∧ 0 ≤ j ∧ j < cap ∧ wd (M / 2 ^ s) j = 0) := fun j _ hj =>
          Or.inl ⟨Nat.zero_le _, by omega, by
            have hs64 : s = 64 * q := by have := HQ.out; have := HR.out; omega
            rw [hs64, wd_shr_whole, Nat.sub_zero]⟩
        have HFF := Lib.hid HF
        clear HF
        go_wp2_with (refine wpList_copy_vec rfl (.tmp 40) (.tmp 45) 84 84 rfl Tryd.underlying84 w.heap.size 0 g q k cap (cx - q) cap cx 0 cap 0 k (fun _ => 0) (wd (M / 2 ^ s)) (wd M) rfl rfl hz1 hvq (by omega) HFF.out ?_; intro w2 hv2 hg2)
        have hb2 := below_of_grown (grown_trans (grown_of_below hb1) hg2) (Nat.le_refl _)
        clear hg2 hb1 hz1 hvq hv1
        refine (norm_row _ w.heap.size k cap (M / 2 ^ s) hv2 hML.out hc1' (by omega)).mono ?_
        rintro e w3 ⟨⟨n, hn, hnorm, rfl⟩, rfl⟩
        go_wp2_with fail
        go_ret
        exact ⟨⟨_, n, cap, rfl, ⟨hnorm, Or.inr ⟨w.heap.size, rfl, by omega, by omega, hv2.weaken (Nat.le_refl _) hn (fun _ _ _ => rfl)⟩⟩, fun a h => by injection h with h; rw [← h]; exact Nat.le_refl _⟩, hb2⟩
      · have hr0' : (((r : Nat) : Int) == 0) = false := by rw [beq_eq_false_iff_ne]; omega
        have hrv := run_rshVU
        have hs64 := Lib.hid (show 64 * q + r = s by have := HQ.out; have := HR.out; omega)
        go_wp2_with fail
        refine (rshVU_any _ w.heap.size cap k g cx M q r cap (cx - q) 0 cap (fun _ => 0) hz1 (by rw [← HKM.out]; exact hv1) (by rw [← HKM.out]; exact hlt) hgv hk0 hc1' (by omega) (by omega) (by omega) hr1).mono ?_
        rw [hs64.out]
        rintro e w2 ⟨⟨c, rfl⟩, hv2, hg2⟩
        have hb2 := below_of_grown (grown_trans (grown_of_below hb1) hg2) (Nat.le_refl _)
        clear hg2 hb1 hz1 hvq hv1
        go_wp2_with fail
        refine (norm_row _ w.heap.size k cap (M / 2 ^ s) hv2 hML.out hc1' (by omega)).mono ?_
        rintro e w3 ⟨⟨n, hn, hnorm, rfl⟩, rfl⟩
        go_wp2_with fail
        go_ret
        exact ⟨⟨_, n, cap, rfl, ⟨hnorm, Or.inr ⟨w.heap.size, rfl, by omega, by omega, hv2.weaken (Nat.le_refl _) hn (fun _ _ _ => rfl)⟩⟩, fun a h => by injection h with h; rw [← h]; exact Nat.le_refl _⟩, hb2⟩
end Go.Proofs.YtopilodakphhgaaDoor
