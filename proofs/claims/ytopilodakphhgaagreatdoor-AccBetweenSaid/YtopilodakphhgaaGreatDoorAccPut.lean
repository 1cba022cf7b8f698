/- (*Acc).put: three words added at a bit's place, or taken away. -/
import Derived.Test.YtopilodakphhgaaGreatDoorAccLow
import Derived.BigRegion
import Derived.RegionTactic
import Derived.Outline
namespace Go.Proofs.YtopilodakphhgaaGreatDoor
set_option linter.unusedVariables false
set_option linter.unusedSimpArgs false
open Go Go.RowKit
set_option maxRecDepth 100000
def vCells (V : Nat) : Array Value := #[.int .u64 (wd V 0 : Nat), .int .u64 (wd V 1 : Nat), .int .u64 (wd V 2 : Nat)]
theorem vCells_get (V k : Nat) (h : k < 3) : (vCells V)[k]? = some (.int .u64 (wd V k : Nat)) := by
  match k, h with
  | 0, _ => rfl
  | 1, _ => rfl
  | 2, _ => rfl
structure PutRel (w wr : World) (b vb V : Nat) (S X n : Nat) : Prop where
  acc : AccAt wr b (mix n S X) false
  vec : wr.heap[vb]? = some (.cells (vCells V) 88 (0, 0))
  grown : w.grownBy wr (some b)
theorem PutRel.step {w wr : World} {b vb V S X n : Nat} (h : PutRel w wr b vb V S X n) (hn : n < 76) (hb : vb ≠ b) : PutRel w (wr.setCell ⟨b, n, none⟩ (.int .u64 (wd S n : Nat))).drew b vb V S X (n + 1) := by
  refine ⟨?_, ?_, ?_⟩
  · have := heap_setCell_same wr b n _ _ (.int .u64 (wd S n : Nat)) h.acc
    rw [acc_step n S X false _ rfl hn] at this
    exact this
  · exact (heap_setCell_other wr ⟨b, n, none⟩ vb _ hb).trans h.vec
  · exact ⟨h.grown.os, h.grown.tape, h.grown.output, by
      have := h.grown.size
      show _ ≤ (wr.setCell _ _).heap.size
      rw [show (wr.setCell ⟨b, n, none⟩ (.int .u64 (wd S n : Nat))).heap.size = wr.heap.size by simp [World.setCell]]
      exact this, fun k hk hr => (heap_setCell_other wr ⟨b, n, none⟩ k _ (fun e => hr (by rw [e]))).trans (h.grown.block k hk hr)⟩
theorem wd_top (S j : Nat) (h : j < 76) : wd (S % TOP) j = wd S j := by
  have := wd_mix_lt 76 j S 0 h
  rwa [mix_all 76 S 0 (Bpow_pos 76)] at this
theorem put_all (S X : Nat) (hX : X < TOP) : mix 76 S X = S % TOP := mix_all 76 S X hX
theorem wd_shift (V i k : Nat) : wd (V * B64 ^ i) (i + k) = wd V k := by
  unfold wd
  rw [Nat.pow_add, ← Nat.div_div_eq_div_mul, Nat.mul_div_cancel _ (Bpow_pos i)]
theorem wd_high (V k : Nat) (h : V < B64 ^ 3) (hk : 3 ≤ k) : wd V k = 0 := by
  unfold wd
  rw [Nat.div_eq_of_lt (Nat.lt_of_lt_of_le h (Nat.pow_le_pow_right B64_pos hk))]
  rfl
theorem shift_lt (V i k : Nat) (h : V < B64 ^ 3) (hk : 3 ≤ k) : V * B64 ^ i < B64 ^ (i + k) := by
  rw [Nat.pow_add, Nat.mul_comm]
  exact Nat.mul_lt_mul_of_pos_left (Nat.lt_of_lt_of_le h (Nat.pow_le_pow_right B64_pos hk)) (Bpow_pos i)
theorem put_carry (X Y V i : Nat) (h : V * B64 ^ i = Y) : carry X Y (i + 0) = 0 := by
  subst h
  unfold carry
  rw [Nat.add_zero, Nat.mul_mod_left, Nat.add_zero]
  exact Nat.div_eq_of_lt (Nat.mod_lt _ (Bpow_pos i))
theorem put_borrow (X Y V i : Nat) (h : V * B64 ^ i = Y) : borrow X Y (i + 0) = 0 := by
  subst h
  unfold borrow
  rw [Nat.add_zero, Nat.mul_mod_left, if_neg (Nat.not_lt_zero _)]
theorem put_start (X Y V i : Nat) (h : V * B64 ^ i = Y) : mix (i + 0) (X + Y) X = X := by
  subst h
  unfold mix
  rw [Nat.add_zero, Nat.add_mul_mod_self_right, Nat.add_comm, Nat.mul_comm]
  exact Nat.div_add_mod X _
theorem put_start_minus (X Y V i : Nat) (h : V * B64 ^ i = Y) (hV : V < B64 ^ 3) (hi : i ≤ 65) : mix (i + 0) (X + TOP - Y) X = X := by
  have hlt : Y < B64 ^ (i + 3) := by subst h; exact shift_lt V i 3 hV (Nat.le_refl 3)
  have hle : B64 ^ (i + 3) ≤ TOP := Nat.pow_le_pow_right B64_pos (by omega)
  obtain ⟨d, hd⟩ : ∃ d, TOP = B64 ^ i * d := ⟨B64 ^ (76 - i), by rw [← Nat.pow_add]; unfold TOP; congr 1; omega⟩
  have e : (X + TOP - Y) % B64 ^ i = X % B64 ^ i := by
    subst h
    have hVd : V ≤ d := by
      rw [hd, Nat.mul_comm] at hle
      have : V * B64 ^ i < d * B64 ^ i := Nat.lt_of_lt_of_le hlt hle
      exact Nat.le_of_lt (Nat.lt_of_mul_lt_mul_right this)
    have : X + TOP - V * B64 ^ i = X + (d - V) * B64 ^ i := by
      rw [Nat.sub_mul, Nat.mul_comm d, ← hd]
      have : V * B64 ^ i ≤ TOP := Nat.le_of_lt (Nat.lt_of_lt_of_le hlt hle)
      omega
    rw [this, Nat.add_mul_mod_self_right]
  unfold mix
  rw [Nat.add_zero, e, Nat.add_comm, Nat.mul_comm]
  exact Nat.div_add_mod X _
theorem put_done (X Y n : Nat) (hY : Y < B64 ^ n) (hc : carry X Y n = 0) : accCells (mix n (X + Y) X) false = accCells ((X + Y) % TOP) false := by
  refine accCells_ext (fun j hj => ?_) false
  rw [wd_top _ _ hj]
  by_cases h : j < n
  · rw [wd_mix_lt _ _ _ _ h]
  · rw [wd_mix_ge _ _ _ _ (by omega)]
    obtain ⟨d, rfl⟩ : ∃ d, j = n + d := ⟨j - n, by omega⟩
    have e : (X + Y) / B64 ^ n = X / B64 ^ n := by
      have h1 := Nat.div_add_mod X (B64 ^ n)
      have h2 := Bpow_pos n
      unfold carry at hc
      rw [Nat.mod_eq_of_lt hY] at hc
      have h3 : X % B64 ^ n + Y < B64 ^ n := by
        rcases Nat.div_eq_zero_iff.1 hc with h | h
        · omega
        · exact h
      have h4 : X + Y = (X % B64 ^ n + Y) + B64 ^ n * (X / B64 ^ n) := by omega
      rw [h4, Nat.add_mul_div_left _ _ h2, Nat.div_eq_of_lt h3, Nat.zero_add]
    unfold wd
    rw [Nat.pow_add, ← Nat.div_div_eq_div_mul, ← Nat.div_div_eq_div_mul, e]
theorem put_done_minus (X Y n : Nat) (hX : X < TOP) (hY : Y < B64 ^ n) (hc : borrow X Y n = 0) : accCells (mix n (X + TOP - Y) X) false = accCells ((X + TOP - Y) % TOP) false := by
  have h1 := Nat.div_add_mod X (B64 ^ n)
  have h2 := Bpow_pos n
  have h3 : Y ≤ X % B64 ^ n := by
    unfold borrow at hc
    rw [Nat.mod_eq_of_lt hY] at hc
    split at hc
    · cases hc
    · omega
  have hle : X % B64 ^ n ≤ X := Nat.mod_le _ _
  have e0 : (X + TOP - Y) % TOP = X - Y := by
    rw [show X + TOP - Y = (X - Y) + TOP by omega, Nat.add_mod_right, Nat.mod_eq_of_lt (by omega)]
  refine accCells_ext (fun j hj => ?_) false
  by_cases h : j < n
  · rw [wd_mix_lt _ _ _ _ h, wd_top _ _ hj]
  · rw [wd_mix_ge _ _ _ _ (by omega), e0]
    obtain ⟨d, rfl⟩ : ∃ d, j = n + d := ⟨j - n, by omega⟩
    have e : (X - Y) / B64 ^ n = X / B64 ^ n := by
      have h4 : X - Y = (X % B64 ^ n - Y) + B64 ^ n * (X / B64 ^ n) := by omega
      have h5 : X % B64 ^ n - Y < B64 ^ n := Nat.lt_of_le_of_lt (Nat.sub_le _ _) (Nat.mod_lt _ h2)
      rw [h4, Nat.add_mul_div_left _ _ h2, Nat.div_eq_of_lt h5, Nat.zero_add]
    unfold wd
    rw [Nat.pow_add, ← Nat.div_div_eq_div_mul, ← Nat.div_div_eq_div_mul, e]
set_option maxHeartbeats 1000000 in
theorem put_plus (w : World) (b X V at_ i : Nat) (h : AccAt w b X false) (hX : X < TOP) (hV : V < B64 ^ 3) (hi : at_ / 64 = i) (hi65 : i ≤ 65) :
    Calls Tryz.prog 50 #[.pointer (some ⟨b, 0, none⟩), .agg (vCells V), .int .i64 (at_ : Nat), .bool false] w fun e w' => e = .returned (.tuple #[]) ∧ FitAt w' b ((X + V * B64 ^ i) % TOP) ∧ w.grownBy w' (some b) := by
  have hb := h.lt
  have hvb : w.heap.size ≠ b := by omega
  have he : ((at_ : Nat) : Int) / 64 = (i : Int) := by omega
  have hat : at_ ≤ 100000 := by omega
  have hh := h.alloc (Obj.cells (vCells V) 88)
  clear hi
  go_enter Tryz.func50, Tryz.ntmps50
  go_wp2_with fail
  generalize hS : V * B64 ^ i = Y at *
  have HS := Lib.hid hS
  have HY3 : ∀ k, 3 ≤ k → Hid (Y < B64 ^ (i + k)) := fun k hk => by have := shift_lt V i k hV hk; rw [hS] at this; exact Lib.hid this
  clear hS he
  go_loopw [9, 10] (fun c kk wr => ∃ k : Nat, i + k ≤ 76 ∧ kk = .int .i64 k ∧ c = .int .u64 (carry X Y (i + k) : Nat) ∧ PutRel w wr b w.heap.size V ((X + Y)) X (i + k)) (fun _ kk _ => 76 - (intOf kk).toNat)
  case atStart => exact ⟨0, by omega, rfl, by rw [put_carry X Y V i HS.out]; rfl, ⟨by rw [put_start X Y V i HS.out]; exact hh, heap_alloc_new w _, World.grownBy_alloc _ _ _⟩⟩
  case round =>
    obtain ⟨k, hk, rfl, rfl, hrel⟩ := hrel
    by_cases hlt : i + k < 76
    · have hc : wr.cell? ⟨b, i + k, none⟩ = some (.int .u64 (wd X (i + k) : Nat)) := by rw [hrel.acc.cell _ hlt, wd_mix_ge _ _ _ _ (Nat.le_refl _)]
      have hfz : wr.frozen? ⟨b, i + k, none⟩ = false := frozen_of_row wr b _ _ _ hrel.acc
      have hcl := carry_le X Y (i + k)
      have hw := add_word X Y (i + k)
      have hn : ((i : Int) + (k : Int)).toNat = i + k := by omega
      have hlt' : (i : Int) + (k : Int) < 76 := by omega
      have hstep := hrel.step hlt hvb
      by_cases h3 : k < 3
      · have hv : wr.cell? ⟨w.heap.size, k, none⟩ = some (.int .u64 (wd V k : Nat)) := by rw [cell_of_row wr _ _ _ _ _ hrel.vec]; exact vCells_get V k h3
        have hd : wd Y (i + k) = wd V k := by rw [← HS.out]; exact wd_shift V i k
        rw [hd] at hw
        have hs := run_add_nat (wd X (i + k)) (wd V k) (carry X Y (i + k)) _ _ hcl hw.1 hw.2
        clear hw hd
        go_wp2_with fail
        go_region
        go_wp2_with fail
        go_roundw
        case rel => exact ⟨k + 1, by omega, by go_num, rfl, hstep⟩
        case measure => simp [intOf]; omega
      · have hd : wd Y (i + k) = 0 := by rw [← HS.out, wd_shift]; exact wd_high V k hV (by omega)
        rw [hd] at hw
        have h3' : decide ((k : Int) < 3) = false := by simp; omega
        by_cases hz : carry X Y (i + k) = 0
        · have hz' : ((carry X Y (i + k) : Nat) == (0 : Int)) = true := by rw [beq_iff_eq]; omega
          have Hz := Lib.hid hz
          have hA : AccAt wr b ((X + Y) % TOP) false := by have := hrel.acc; unfold AccAt at this ⊢; rw [this, put_done X Y (i + k) (HY3 k (by omega)).out Hz.out]
          have hg := hrel.grown
          clear hw hd hz hrel hstep hcl
          go_wp2_with fail
          refine (fit_any _ b ((X + Y) % TOP) hA (Nat.mod_lt _ TOP_pos)).mono ?_
          rintro e w1 ⟨rfl, hf, hg1⟩
          go_wp2_with fail
          go_end0
          exact ⟨rfl, by rw [HS.out]; exact hf, grown_trans hg hg1⟩
        · have hz' : ((carry X Y (i + k) : Nat) == (0 : Int)) = false := by rw [beq_eq_false_iff_ne]; omega
          have hs := run_add_zero (wd X (i + k)) (carry X Y (i + k)) _ _ hcl hw.1 hw.2
          clear hw hd hz
          go_wp2_with fail
          go_region
          go_wp2_with fail
          go_roundw
          case rel => exact ⟨k + 1, by omega, by go_num, rfl, hstep⟩
          case measure => simp [intOf]; omega
    · have hlt' : decide ((i : Int) + (k : Int) < 76) = false := by simp; omega
      have hA : AccAt wr b ((X + Y) % TOP) false := by have := hrel.acc; rw [show i + k = 76 by omega, put_all _ _ hX] at this; exact this
      have hg := hrel.grown
      clear hrel
      go_wp2_with fail
      refine (fit_any _ b ((X + Y) % TOP) hA (Nat.mod_lt _ TOP_pos)).mono ?_
      rintro e w1 ⟨rfl, hf, hg1⟩
      go_wp2_with fail
      go_end0
      exact ⟨rfl, by rw [HS.out]; exact hf, grown_trans hg hg1⟩
set_option maxHeartbeats 1000000 in
theorem put_minus (w : World) (b X V at_ i : Nat) (h : AccAt w b X false) (hX : X < TOP) (hV : V < B64 ^ 3) (hi : at_ / 64 = i) (hi65 : i ≤ 65) :
    Calls Tryz.prog 50 #[.pointer (some ⟨b, 0, none⟩), .agg (vCells V), .int .i64 (at_ : Nat), .bool true] w fun e w' => e = .returned (.tuple #[]) ∧ FitAt w' b ((X + TOP - V * B64 ^ i) % TOP) ∧ w.grownBy w' (some b) := by
  have hb := h.lt
  have hvb : w.heap.size ≠ b := by omega
  have he : ((at_ : Nat) : Int) / 64 = (i : Int) := by omega
  have hat : at_ ≤ 100000 := by omega
  have hh := h.alloc (Obj.cells (vCells V) 88)
  clear hi
  go_enter Tryz.func50, Tryz.ntmps50
  go_wp2_with fail
  generalize hS : V * B64 ^ i = Y at *
  have HS := Lib.hid hS
  have HY3 : ∀ k, 3 ≤ k → Hid (Y < B64 ^ (i + k)) := fun k hk => by have := shift_lt V i k hV hk; rw [hS] at this; exact Lib.hid this
  clear hS he
  have HYT := Lib.hid (Nat.lt_of_lt_of_le (HY3 3 (Nat.le_refl 3)).out (Nat.pow_le_pow_right B64_pos (by omega : i + 3 ≤ 76)))
  go_loopw [9, 10] (fun c kk wr => ∃ k : Nat, i + k ≤ 76 ∧ kk = .int .i64 k ∧ c = .int .u64 (borrow X Y (i + k) : Nat) ∧ PutRel w wr b w.heap.size V ((X + TOP - Y)) X (i + k)) (fun _ kk _ => 76 - (intOf kk).toNat)
  case atStart => exact ⟨0, by omega, rfl, by rw [put_borrow X Y V i HS.out]; rfl, ⟨by rw [put_start_minus X Y V i HS.out hV hi65]; exact hh, heap_alloc_new w _, World.grownBy_alloc _ _ _⟩⟩
  case round =>
    obtain ⟨k, hk, rfl, rfl, hrel⟩ := hrel
    by_cases hlt : i + k < 76
    · have hc : wr.cell? ⟨b, i + k, none⟩ = some (.int .u64 (wd X (i + k) : Nat)) := by rw [hrel.acc.cell _ hlt, wd_mix_ge _ _ _ _ (Nat.le_refl _)]
      have hfz : wr.frozen? ⟨b, i + k, none⟩ = false := frozen_of_row wr b _ _ _ hrel.acc
      have hcl := borrow_le X Y (i + k)
      have hw := sub_word X Y (i + k) 76 hlt hX HYT.out
      have hn : ((i : Int) + (k : Int)).toNat = i + k := by omega
      have hlt' : (i : Int) + (k : Int) < 76 := by omega
      have hstep := hrel.step hlt hvb
      by_cases h3 : k < 3
      · have hv : wr.cell? ⟨w.heap.size, k, none⟩ = some (.int .u64 (wd V k : Nat)) := by rw [cell_of_row wr _ _ _ _ _ hrel.vec]; exact vCells_get V k h3
        have hd : wd Y (i + k) = wd V k := by rw [← HS.out]; exact wd_shift V i k
        rw [hd] at hw
        have hs := run_sub_nat (wd X (i + k)) (wd V k) (borrow X Y (i + k)) _ _ hcl hw.1 hw.2
        clear hw hd
        go_wp2_with fail
        go_region
        go_wp2_with fail
        go_roundw
        case rel => exact ⟨k + 1, by omega, by go_num, rfl, hstep⟩
        case measure => simp [intOf]; omega
      · have hd : wd Y (i + k) = 0 := by rw [← HS.out, wd_shift]; exact wd_high V k hV (by omega)
        rw [hd] at hw
        have h3' : decide ((k : Int) < 3) = false := by simp; omega
        by_cases hz : borrow X Y (i + k) = 0
        · have hz' : ((borrow X Y (i + k) : Nat) == (0 : Int)) = true := by rw [beq_iff_eq]; omega
          have Hz := Lib.hid hz
          have hA : AccAt wr b ((X + TOP - Y) % TOP) false := by have := hrel.acc; unfold AccAt at this ⊢; rw [this, put_done_minus X Y (i + k) hX (HY3 k (by omega)).out Hz.out]
          have hg := hrel.grown
          clear hw hd hz hrel hstep hcl
          go_wp2_with fail
          refine (fit_any _ b ((X + TOP - Y) % TOP) hA (Nat.mod_lt _ TOP_pos)).mono ?_
          rintro e w1 ⟨rfl, hf, hg1⟩
          go_wp2_with fail
          go_end0
          exact ⟨rfl, by rw [HS.out]; exact hf, grown_trans hg hg1⟩
        · have hz' : ((borrow X Y (i + k) : Nat) == (0 : Int)) = false := by rw [beq_eq_false_iff_ne]; omega
          have hs := run_sub_nil (wd X (i + k)) (borrow X Y (i + k)) _ _ hcl hw.1 hw.2
          clear hw hd hz
          go_wp2_with fail
          go_region
          go_wp2_with fail
          go_roundw
          case rel => exact ⟨k + 1, by omega, by go_num, rfl, hstep⟩
          case measure => simp [intOf]; omega
    · have hlt' : decide ((i : Int) + (k : Int) < 76) = false := by simp; omega
      have hA : AccAt wr b ((X + TOP - Y) % TOP) false := by have := hrel.acc; rw [show i + k = 76 by omega, put_all _ _ hX] at this; exact this
      have hg := hrel.grown
      clear hrel
      go_wp2_with fail
      refine (fit_any _ b ((X + TOP - Y) % TOP) hA (Nat.mod_lt _ TOP_pos)).mono ?_
      rintro e w1 ⟨rfl, hf, hg1⟩
      go_wp2_with fail
      go_end0
      exact ⟨rfl, by rw [HS.out]; exact hf, grown_trans hg hg1⟩
end Go.Proofs.YtopilodakphhgaaGreatDoor
