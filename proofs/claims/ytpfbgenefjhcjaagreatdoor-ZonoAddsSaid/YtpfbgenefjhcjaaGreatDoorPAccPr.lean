/-
 (*Acc).put: three words added at a bit's place, or taken away.
 A float64's parts: sign, significand, exponent; acc.split tells them. (*Acc).Prod: a product is added. (*Acc).Prod, where it makes the Acc bad. An Acc's real as an Int (in units of the least bit), or bad; Prod and Add in these words.
-/
import Derived.Test.YtpfbgenefjhcjaaGreatDoorPNatLo
import Derived.Test.YtpfbgenefjhcjaaGreatDoorPShelf
import Derived.BigRegion
import Derived.RegionTactic
import Derived.Outline
import Derived.Laws.BitsAllLaws
namespace Go.Proofs.YtpfbgenefjhcjaaGreatDoor
set_option linter.unusedVariables false
set_option linter.unusedSimpArgs false
open Go Go.RowKit
set_option maxRecDepth 100000
def vCells (V : Nat) : Array Value := #[.int .u64 (wd V 0 : Nat), .int .u64 (wd V 1 : Nat), .int .u64 (wd V 2 : Nat)]
theorem vCells_get (V k : Nat) (h : k < 3) : (vCells V)[k]? = some (.int .u64 (wd V k : Nat)) := by
 match k, h with
 | 0, _ => rfl
 | 1, _ => rfl
 | 2, _ => rfl
structure PutRel (w wr : World) (b vb V : Nat) (S X n : Nat) : Prop where
 acc : AccAt wr b (mix n S X) false
 vec : wr.heap[vb]? = some (.cells (vCells V) 175 (0, 0))
 grown : w.grownBy wr (some b)
theorem PutRel.step {w wr : World} {b vb V S X n : Nat} (h : PutRel w wr b vb V S X n) (hn : n < 76) (hb : vb ≠ b) : PutRel w (wr.setCell ⟨b, n, none⟩ (.int .u64 (wd S n : Nat))).drew b vb V S X (n + 1) := by
 refine ⟨?_, ?_, ?_⟩
 ·have := heap_setCell_same wr b n _ _ (.int .u64 (wd S n : Nat)) h.acc
  rw [acc_step n S X false _ rfl hn] at this
  exact this
 ·exact (heap_setCell_other wr ⟨b, n, none⟩ vb _ hb).trans h.vec
 ·exact ⟨h.grown.os, h.grown.tape, h.grown.output, by
   have := h.grown.size
   show _ ≤ (wr.setCell _ _).heap.size
   rw [show (wr.setCell ⟨b, n, none⟩ (.int .u64 (wd S n : Nat))).heap.size = wr.heap.size by simp [World.setCell]]
   exact this, fun k hk hr => (heap_setCell_other wr ⟨b, n, none⟩ k _ (fun e => hr (by rw [e]))).trans (h.grown.block k hk hr)⟩
theorem wd_top (S j : Nat) (h : j < 76) : wd (S % TOP) j = wd S j := by
 have := wd_mix_lt 76 j S 0 h
 rwa [mix_all 76 S 0 (Bpow_pos 76)] at this
theorem put_all (S X : Nat) (hX : X < TOP) : mix 76 S X = S % TOP := mix_all 76 S X hX
theorem wd_shift (V i k : Nat) : wd (V * B64 ^ i) (i + k) = wd V k := by
 unfold wd
 rw [Nat.pow_add, ← Nat.div_div_eq_div_mul, Nat.mul_div_cancel _ (Bpow_pos i)]
theorem wd_high (V k : Nat) (h : V < B64 ^ 3) (hk : 3 ≤ k) : wd V k = 0 := by
 unfold wd
 rw [Nat.div_eq_of_lt (Nat.lt_of_lt_of_le h (Nat.pow_le_pow_right B64_pos hk))]
 rfl
theorem shift_lt (V i k : Nat) (h : V < B64 ^ 3) (hk : 3 ≤ k) : V * B64 ^ i < B64 ^ (i + k) := by
 rw [Nat.pow_add, Nat.mul_comm]
 exact Nat.mul_lt_mul_of_pos_left (Nat.lt_of_lt_of_le h (Nat.pow_le_pow_right B64_pos hk)) (Bpow_pos i)
theorem put_carry (X Y V i : Nat) (h : V * B64 ^ i = Y) : carry X Y (i + 0) = 0 := by
 subst h
 unfold carry
 rw [Nat.add_zero, Nat.mul_mod_left, Nat.add_zero]
 exact Nat.div_eq_of_lt (Nat.mod_lt _ (Bpow_pos i))
theorem put_borrow (X Y V i : Nat) (h : V * B64 ^ i = Y) : borrow X Y (i + 0) = 0 := by
 subst h
 unfold borrow
 rw [Nat.add_zero, Nat.mul_mod_left, if_neg (Nat.not_lt_zero _)]
theorem put_start (X Y V i : Nat) (h : V * B64 ^ i = Y) : mix (i + 0) (X + Y) X = X := by
 subst h
 unfold mix
 rw [Nat.add_zero, Nat.add_mul_mod_self_right, Nat.add_comm, Nat.mul_comm]
 exact Nat.div_add_mod X _
theorem put_start_minus (X Y V i : Nat) (h : V * B64 ^ i = Y) (hV : V < B64 ^ 3) (hi : i ≤ 65) : mix (i + 0) (X + TOP - Y) X = X := by
 have hlt : Y < B64 ^ (i + 3) := by subst h; exact shift_lt V i 3 hV (Nat.le_refl 3)
 have hle : B64 ^ (i + 3) ≤ TOP := Nat.pow_le_pow_right B64_pos (by omega)
 obtain ⟨d, hd⟩ : ∃ d, TOP = B64 ^ i * d := ⟨B64 ^ (76 - i), by rw [← Nat.pow_add]; unfold TOP; congr 1; omega⟩
 have e : (X + TOP - Y) % B64 ^ i = X % B64 ^ i := by
  subst h
  have hVd : V ≤ d := by
   rw [hd, Nat.mul_comm] at hle
   have : V * B64 ^ i < d * B64 ^ i := Nat.lt_of_lt_of_le hlt hle
   exact Nat.le_of_lt (Nat.lt_of_mul_lt_mul_right this)
  have : X + TOP - V * B64 ^ i = X + (d - V) * B64 ^ i := by
   rw [Nat.sub_mul, Nat.mul_comm d, ← hd]
   have : V * B64 ^ i ≤ TOP := Nat.le_of_lt (Nat.lt_of_lt_of_le hlt hle)
   omega
  rw [this, Nat.add_mul_mod_self_right]
 unfold mix
 rw [Nat.add_zero, e, Nat.add_comm, Nat.mul_comm]
 exact Nat.div_add_mod X _
theorem put_done (X Y n : Nat) (hY : Y < B64 ^ n) (hc : carry X Y n = 0) : accCells (mix n (X + Y) X) false = accCells ((X + Y) % TOP) false := by
 refine accCells_ext (fun j hj => ?_) false
 rw [wd_top _ _ hj]
 by_cases h : j < n
 ·rw [wd_mix_lt _ _ _ _ h]
 ·rw [wd_mix_ge _ _ _ _ (by omega)]
  obtain ⟨d, rfl⟩ : ∃ d, j = n + d := ⟨j - n, by omega⟩
  have e : (X + Y) / B64 ^ n = X / B64 ^ n := by
   have h1 := Nat.div_add_mod X (B64 ^ n)
   have h2 := Bpow_pos n
   unfold carry at hc
   rw [Nat.mod_eq_of_lt hY] at hc
   have h3 : X % B64 ^ n + Y < B64 ^ n := by
    rcases Nat.div_eq_zero_iff.1 hc with h | h
    ·omega
    ·exact h
   have h4 : X + Y = (X % B64 ^ n + Y) + B64 ^ n * (X / B64 ^ n) := by omega
   rw [h4, Nat.add_mul_div_left _ _ h2, Nat.div_eq_of_lt h3, Nat.zero_add]
  unfold wd
  rw [Nat.pow_add, ← Nat.div_div_eq_div_mul, ← Nat.div_div_eq_div_mul, e]
theorem put_done_minus (X Y n : Nat) (hX : X < TOP) (hY : Y < B64 ^ n) (hc : borrow X Y n = 0) : accCells (mix n (X + TOP - Y) X) false = accCells ((X + TOP - Y) % TOP) false := by
 have h1 := Nat.div_add_mod X (B64 ^ n)
 have h2 := Bpow_pos n
 have h3 : Y ≤ X % B64 ^ n := by
  unfold borrow at hc
  rw [Nat.mod_eq_of_lt hY] at hc
  split at hc
  ·cases hc
  ·omega
 have hle : X % B64 ^ n ≤ X := Nat.mod_le _ _
 have e0 : (X + TOP - Y) % TOP = X - Y := by
  rw [show X + TOP - Y = (X - Y) + TOP by omega, Nat.add_mod_right, Nat.mod_eq_of_lt (by omega)]
 refine accCells_ext (fun j hj => ?_) false
 by_cases h : j < n
 ·rw [wd_mix_lt _ _ _ _ h, wd_top _ _ hj]
 ·rw [wd_mix_ge _ _ _ _ (by omega), e0]
  obtain ⟨d, rfl⟩ : ∃ d, j = n + d := ⟨j - n, by omega⟩
  have e : (X - Y) / B64 ^ n = X / B64 ^ n := by
   have h4 : X - Y = (X % B64 ^ n - Y) + B64 ^ n * (X / B64 ^ n) := by omega
   have h5 : X % B64 ^ n - Y < B64 ^ n := Nat.lt_of_le_of_lt (Nat.sub_le _ _) (Nat.mod_lt _ h2)
   rw [h4, Nat.add_mul_div_left _ _ h2, Nat.div_eq_of_lt h5, Nat.zero_add]
  unfold wd
  rw [Nat.pow_add, ← Nat.div_div_eq_div_mul, ← Nat.div_div_eq_div_mul, e]
set_option maxHeartbeats 1000000 in
theorem put_plus (w : World) (b X V at_ i : Nat) (h : AccAt w b X false) (hX : X < TOP) (hV : V < B64 ^ 3) (hi : at_ / 64 = i) (hi65 : i ≤ 65) :
  Calls Tryz.prog 120 #[.pointer (some ⟨b, 0, none⟩), .agg (vCells V), .int .i64 (at_ : Nat), .bool false] w fun e w' => e = .returned (.tuple #[]) ∧ FitAt w' b ((X + V * B64 ^ i) % TOP) ∧ w.grownBy w' (some b) := by
 have hb := h.lt
 have hvb : w.heap.size ≠ b := by omega
 have he : ((at_ : Nat) : Int) / 64 = (i : Int) := by omega
 have hat : at_ ≤ 100000 := by omega
 have hh := h.alloc (Obj.cells (vCells V) 175)
 clear hi
 go_enter Tryz.func120, Tryz.ntmps120
 go_wp2_with fail
 generalize hS : V * B64 ^ i = Y at *
 have HS := Lib.hid hS
 have HY3 : ∀ k, 3 ≤ k → Hid (Y < B64 ^ (i + k)) := fun k hk => by have := shift_lt V i k hV hk; rw [hS] at this; exact Lib.hid this
 clear hS he
 go_loopw [9, 10] (fun c kk wr => ∃ k : Nat, i + k ≤ 76 ∧ kk = .int .i64 k ∧ c = .int .u64 (carry X Y (i + k) : Nat) ∧ PutRel w wr b w.heap.size V ((X + Y)) X (i + k)) (fun _ kk _ => 76 - (intOf kk).toNat)
 case atStart => exact ⟨0, by omega, rfl, by rw [put_carry X Y V i HS.out]; rfl, ⟨by rw [put_start X Y V i HS.out]; exact hh, heap_alloc_new w _, World.grownBy_alloc _ _ _⟩⟩
 case round =>
  obtain ⟨k, hk, rfl, rfl, hrel⟩ := hrel
  by_cases hlt : i + k < 76
  ·have hc : wr.cell? ⟨b, i + k, none⟩ = some (.int .u64 (wd X (i + k) : Nat)) := by rw [hrel.acc.cell _ hlt, wd_mix_ge _ _ _ _ (Nat.le_refl _)]
   have hfz : wr.frozen? ⟨b, i + k, none⟩ = false := frozen_of_row wr b _ _ _ hrel.acc
   have hcl := carry_le X Y (i + k)
   have hw := add_word X Y (i + k)
   have hn : ((i : Int) + (k : Int)).toNat = i + k := by omega
   have hlt' : (i : Int) + (k : Int) < 76 := by omega
   have hstep := hrel.step hlt hvb
   by_cases h3 : k < 3
   ·have hv : wr.cell? ⟨w.heap.size, k, none⟩ = some (.int .u64 (wd V k : Nat)) := by rw [cell_of_row wr _ _ _ _ _ hrel.vec]; exact vCells_get V k h3
    have hd : wd Y (i + k) = wd V k := by rw [← HS.out]; exact wd_shift V i k
    rw [hd] at hw
    have hs := run_add_nat (wd X (i + k)) (wd V k) (carry X Y (i + k)) _ _ hcl hw.1 hw.2
    clear hw hd
    go_wp2_with fail
    go_region
    go_wp2_with fail
    go_roundw
    case rel => exact ⟨k + 1, by omega, by go_num, rfl, hstep⟩
    case measure => simp [intOf]; omega
   ·have hd : wd Y (i + k) = 0 := by rw [← HS.out, wd_shift]; exact wd_high V k hV (by omega)
    rw [hd] at hw
    have h3' : decide ((k : Int) < 3) = false := by simp; omega
    by_cases hz : carry X Y (i + k) = 0
    ·have hz' : ((carry X Y (i + k) : Nat) == (0 : Int)) = true := by rw [beq_iff_eq]; omega
     have Hz := Lib.hid hz
     have hA : AccAt wr b ((X + Y) % TOP) false := by have := hrel.acc; unfold AccAt at this ⊢; rw [this, put_done X Y (i + k) (HY3 k (by omega)).out Hz.out]
     have hg := hrel.grown
     clear hw hd hz hrel hstep hcl
     go_wp2_with fail
     refine (fit_any _ b ((X + Y) % TOP) hA (Nat.mod_lt _ TOP_pos)).mono ?_
     rintro e w1 ⟨rfl, hf, hg1⟩
     go_wp2_with fail
     go_end0
     exact ⟨rfl, by rw [HS.out]; exact hf, grown_trans hg hg1⟩
    ·have hz' : ((carry X Y (i + k) : Nat) == (0 : Int)) = false := by rw [beq_eq_false_iff_ne]; omega
     have hs := run_add_zero (wd X (i + k)) (carry X Y (i + k)) _ _ hcl hw.1 hw.2
     clear hw hd hz
     go_wp2_with fail
     go_region
     go_wp2_with fail
     go_roundw
     case rel => exact ⟨k + 1, by omega, by go_num, rfl, hstep⟩
     case measure => simp [intOf]; omega
  ·have hlt' : decide ((i : Int) + (k : Int) < 76) = false := by simp; omega
   have hA : AccAt wr b ((X + Y) % TOP) false := by have := hrel.acc; rw [show i + k = 76 by omega, put_all _ _ hX] at this; exact this
   have hg := hrel.grown
   clear hrel
   go_wp2_with fail
   refine (fit_any _ b ((X + Y) % TOP) hA (Nat.mod_lt _ TOP_pos)).mono ?_
   rintro e w1 ⟨rfl, hf, hg1⟩
   go_wp2_with fail
   go_end0
   exact ⟨rfl, by rw [HS.out]; exact hf, grown_trans hg hg1⟩
set_option maxHeartbeats 1000000 in
theorem put_minus (w : World) (b X V at_ i : Nat) (h : AccAt w b X false) (hX : X < TOP) (hV : V < B64 ^ 3) (hi : at_ / 64 = i) (hi65 : i ≤ 65) :
  Calls Tryz.prog 120 #[.pointer (some ⟨b, 0, none⟩), .agg (vCells V), .int .i64 (at_ : Nat), .bool true] w fun e w' => e = .returned (.tuple #[]) ∧ FitAt w' b ((X + TOP - V * B64 ^ i) % TOP) ∧ w.grownBy w' (some b) := by
 have hb := h.lt
 have hvb : w.heap.size ≠ b := by omega
 have he : ((at_ : Nat) : Int) / 64 = (i : Int) := by omega
 have hat : at_ ≤ 100000 := by omega
 have hh := h.alloc (Obj.cells (vCells V) 175)
 clear hi
 go_enter Tryz.func120, Tryz.ntmps120
 go_wp2_with fail
 generalize hS : V * B64 ^ i = Y at *
 have HS := Lib.hid hS
 have HY3 : ∀ k, 3 ≤ k → Hid (Y < B64 ^ (i + k)) := fun k hk => by have := shift_lt V i k hV hk; rw [hS] at this; exact Lib.hid this
 clear hS he
 have HYT := Lib.hid (Nat.lt_of_lt_of_le (HY3 3 (Nat.le_refl 3)).out (Nat.pow_le_pow_right B64_pos (by omega : i + 3 ≤ 76)))
 go_loopw [9, 10] (fun c kk wr => ∃ k : Nat, i + k ≤ 76 ∧ kk = .int .i64 k ∧ c = .int .u64 (borrow X Y (i + k) : Nat) ∧ PutRel w wr b w.heap.size V ((X + TOP - Y)) X (i + k)) (fun _ kk _ => 76 - (intOf kk).toNat)
 case atStart => exact ⟨0, by omega, rfl, by rw [put_borrow X Y V i HS.out]; rfl, ⟨by rw [put_start_minus X Y V i HS.out hV hi65]; exact hh, heap_alloc_new w _, World.grownBy_alloc _ _ _⟩⟩
 case round =>
  obtain ⟨k, hk, rfl, rfl, hrel⟩ := hrel
  by_cases hlt : i + k < 76
  ·have hc : wr.cell? ⟨b, i + k, none⟩ = some (.int .u64 (wd X (i + k) : Nat)) := by rw [hrel.acc.cell _ hlt, wd_mix_ge _ _ _ _ (Nat.le_refl _)]
   have hfz : wr.frozen? ⟨b, i + k, none⟩ = false := frozen_of_row wr b _ _ _ hrel.acc
   have hcl := borrow_le X Y (i + k)
   have hw := sub_word X Y (i + k) 76 hlt hX HYT.out
   have hn : ((i : Int) + (k : Int)).toNat = i + k := by omega
   have hlt' : (i : Int) + (k : Int) < 76 := by omega
   have hstep := hrel.step hlt hvb
   by_cases h3 : k < 3
   ·have hv : wr.cell? ⟨w.heap.size, k, none⟩ = some (.int .u64 (wd V k : Nat)) := by rw [cell_of_row wr _ _ _ _ _ hrel.vec]; exact vCells_get V k h3
    have hd : wd Y (i + k) = wd V k := by rw [← HS.out]; exact wd_shift V i k
    rw [hd] at hw
    have hs := run_sub_nat (wd X (i + k)) (wd V k) (borrow X Y (i + k)) _ _ hcl hw.1 hw.2
    clear hw hd
    go_wp2_with fail
    go_region
    go_wp2_with fail
    go_roundw
    case rel => exact ⟨k + 1, by omega, by go_num, rfl, hstep⟩
    case measure => simp [intOf]; omega
   ·have hd : wd Y (i + k) = 0 := by rw [← HS.out, wd_shift]; exact wd_high V k hV (by omega)
    rw [hd] at hw
    have h3' : decide ((k : Int) < 3) = false := by simp; omega
    by_cases hz : borrow X Y (i + k) = 0
    ·have hz' : ((borrow X Y (i + k) : Nat) == (0 : Int)) = true := by rw [beq_iff_eq]; omega
     have Hz := Lib.hid hz
     have hA : AccAt wr b ((X + TOP - Y) % TOP) false := by have := hrel.acc; unfold AccAt at this ⊢; rw [this, put_done_minus X Y (i + k) hX (HY3 k (by omega)).out Hz.out]
     have hg := hrel.grown
     clear hw hd hz hrel hstep hcl
     go_wp2_with fail
     refine (fit_any _ b ((X + TOP - Y) % TOP) hA (Nat.mod_lt _ TOP_pos)).mono ?_
     rintro e w1 ⟨rfl, hf, hg1⟩
     go_wp2_with fail
     go_end0
     exact ⟨rfl, by rw [HS.out]; exact hf, grown_trans hg hg1⟩
    ·have hz' : ((borrow X Y (i + k) : Nat) == (0 : Int)) = false := by rw [beq_eq_false_iff_ne]; omega
     have hs := run_sub_nil (wd X (i + k)) (borrow X Y (i + k)) _ _ hcl hw.1 hw.2
     clear hw hd hz
     go_wp2_with fail
     go_region
     go_wp2_with fail
     go_roundw
     case rel => exact ⟨k + 1, by omega, by go_num, rfl, hstep⟩
     case measure => simp [intOf]; omega
  ·have hlt' : decide ((i : Int) + (k : Int) < 76) = false := by simp; omega
   have hA : AccAt wr b ((X + TOP - Y) % TOP) false := by have := hrel.acc; rw [show i + k = 76 by omega, put_all _ _ hX] at this; exact this
   have hg := hrel.grown
   clear hrel
   go_wp2_with fail
   refine (fit_any _ b ((X + TOP - Y) % TOP) hA (Nat.mod_lt _ TOP_pos)).mono ?_
   rintro e w1 ⟨rfl, hf, hg1⟩
   go_wp2_with fail
   go_end0
   exact ⟨rfl, by rw [HS.out]; exact hf, grown_trans hg hg1⟩
end Go.Proofs.YtpfbgenefjhcjaaGreatDoor
namespace Go.Proofs.YtpfbgenefjhcjaaGreatDoor
set_option linter.unusedVariables false
set_option linter.unusedSimpArgs false
open Go Go.RowKit
def fexp (u : Nat) : Nat := u / 4503599627370496 % 2048
def fman (u : Nat) : Nat := u % 4503599627370496
def fneg (u : Nat) : Bool := u / 9223372036854775808 == 1
/-- A number's significand, and the power of 2 of its lowest bit. -/
def sig (u : Nat) : Nat := if fexp u = 0 then fman u else fman u + 4503599627370496
def pwr (u : Nat) : Int := if fexp u = 0 then -1074 else (fexp u : Int) - 1075
theorem fexp_lt (u : Nat) : fexp u < 2048 := Nat.mod_lt _ (by decide)
theorem fman_lt (u : Nat) : fman u < 4503599627370496 := Nat.mod_lt _ (by decide)
theorem and_exp (u : Nat) (hu : u < B64) : bits .and .u64 ((u : Int) / 4503599627370496) 2047 = (fexp u : Nat) := by
 have h := u64_and_nat (u / 4503599627370496) 2047 (Nat.lt_of_le_of_lt (Nat.div_le_self _ _) hu) (by decide)
 have e : u / 4503599627370496 &&& 2047 = fexp u := Nat.and_two_pow_sub_one_eq_mod _ 11
 rw [e] at h
 exact h
theorem and_man (u : Nat) (hu : u < B64) : bits .and .u64 (u : Int) 4503599627370495 = (fman u : Nat) := by
 have h := u64_and_nat u 4503599627370495 hu (by decide)
 have e : u &&& 4503599627370495 = fman u := Nat.and_two_pow_sub_one_eq_mod _ 52
 rw [e] at h
 exact h
theorem or_man (m : Nat) (hm : m < 4503599627370496) : bits .or .u64 (m : Int) 4503599627370496 = ((m + 4503599627370496 : Nat) : Int) := by
 have h := u64_or_nat m 4503599627370496 (by omega) (by decide)
 have e : m ||| 4503599627370496 = m + 4503599627370496 := by
  have := Nat.two_pow_add_eq_or_of_lt (i := 52) hm 1
  rw [Nat.or_comm] at this
  rw [show m + 4503599627370496 = 2 ^ 52 * 1 + m by omega, this]
 rw [e] at h
 exact h
theorem run_bits (b : Nat) (w : World) : Sem.run Tryz.prog (callFunc 82 #[.float .f64 b]) w = .ok (.value (.int .u64 b)) w := by kernel_rfl
theorem run_float (n : Int) (w : World) : Sem.run Tryz.prog (callFunc 121 #[.int .u64 n]) w = .ok (.value (.float .f64 n.toNat)) w := by kernel_rfl
theorem bits_any (u : Nat) (w : World) : Calls Tryz.prog 30 #[.float .f64 u] w fun e w' => e = .returned (.int .u64 u) ∧ w = w' := by
 have hrb := run_bits
 go_enter Tryz.func30, Tryz.ntmps30
 go_wp2
 go_ret
 exact ⟨rfl, rfl⟩
theorem float_any (n : Int) (w : World) : Calls Tryz.prog 158 #[.int .u64 n] w fun e w' => e = .returned (.float .f64 n.toNat) ∧ w = w' := by
 have hrf := run_float
 go_enter Tryz.func158, Tryz.ntmps158
 go_wp2
 go_ret
 exact ⟨rfl, rfl⟩
theorem split_num (u : Nat) (hu : u < B64) (he : fexp u ≠ 2047) (w : World) :
  Calls Tryz.prog 118 #[.float .f64 u] w fun e w' => e = .returned (.tuple #[.bool (fneg u), .int .u64 (sig u : Nat), .int .i64 (pwr u), .bool true]) ∧ w = w' := by
 have h1 := and_exp u hu
 have h2 := and_man u hu
 have h3 := or_man (fman u) (fman_lt u)
 have h4 := fexp_lt u
 have h5 := fman_lt u
 have h6 : ((fexp u : Nat) == (2047 : Int)) = false := by rw [beq_eq_false_iff_ne]; omega
 have hu' : u ≤ 18446744073709551615 := by unfold B64 at hu; omega
 have hn : (((u : Int) / 9223372036854775808) == 1) = fneg u := by unfold fneg; rw [Bool.eq_iff_iff, beq_iff_eq, beq_iff_eq]; omega
 by_cases h0 : fexp u = 0
 ·have h7 : ((fexp u : Nat) == (0 : Int)) = true := by rw [beq_iff_eq]; omega
  have hs : sig u = fman u := if_pos h0
  have hp : pwr u = -1074 := if_pos h0
  have Hs := Lib.hid hs
  have Hp := Lib.hid hp
  clear hs hp h0
  go_enter Tryz.func118, Tryz.ntmps118
  go_wp2_with (go_at_call 30; refine (bits_any u _).mono ?_; rintro e w' ⟨rfl, rfl⟩)
  refine bodyPost_ret (v := .tuple #[.bool (fneg u), .int .u64 (fman u : Nat), .int .i64 (-1074), .bool true]) (by simp [results, Tryz.results118, go_sem]) rfl ⟨?_, rfl⟩
  rw [Hs.out, Hp.out]
 ·have h7 : ((fexp u : Nat) == (0 : Int)) = false := by rw [beq_eq_false_iff_ne]; omega
  have hs : sig u = fman u + 4503599627370496 := if_neg h0
  have hp : pwr u = (fexp u : Int) - 1075 := if_neg h0
  have Hs := Lib.hid hs
  have Hp := Lib.hid hp
  clear hs hp h0
  go_enter Tryz.func118, Tryz.ntmps118
  go_wp2_with (go_at_call 30; refine (bits_any u _).mono ?_; rintro e w' ⟨rfl, rfl⟩)
  refine bodyPost_ret (v := .tuple #[.bool (fneg u), .int .u64 ((fman u : Nat) + 4503599627370496), .int .i64 ((fexp u : Nat) - 1075), .bool true]) (by simp [results, Tryz.results118, go_sem]) rfl ⟨?_, rfl⟩
  rw [Hs.out, Hp.out]
  rfl
theorem split_none (u : Nat) (hu : u < B64) (he : fexp u = 2047) (w : World) :
  Calls Tryz.prog 118 #[.float .f64 u] w fun e w' => e = .returned (.tuple #[.bool false, .int .u64 0, .int .i64 0, .bool false]) ∧ w = w' := by
 have h1 := and_exp u hu
 have h2 := and_man u hu
 have hu' : u ≤ 18446744073709551615 := by unfold B64 at hu; omega
 rw [he] at h1
 clear he
 go_enter Tryz.func118, Tryz.ntmps118
 go_wp2_with (go_at_call 30; refine (bits_any u _).mono ?_; rintro e w' ⟨rfl, rfl⟩)
 refine bodyPost_ret (v := .tuple #[.bool false, .int .u64 0, .int .i64 0, .bool false]) (by simp [results, Tryz.results118, go_sem]) rfl ⟨rfl, rfl⟩
theorem split_any (u : Nat) (hu : u < B64) (w : World) :
  Calls Tryz.prog 118 #[.float .f64 u] w fun e w' => (∃ (s : Bool) (m : Nat) (x : Int), e = .returned (.tuple #[.bool s, .int .u64 (m : Nat), .int .i64 x, .bool (fexp u != 2047)])) ∧ w = w' := by
 by_cases h : fexp u = 2047
 ·exact (split_none u hu h w).mono fun e w' ⟨he, hw⟩ => ⟨⟨false, 0, 0, by rw [h]; exact he⟩, hw⟩
 ·exact (split_num u hu h w).mono fun e w' ⟨he, hw⟩ => ⟨⟨_, _, _, by rw [bne_iff_ne.2 h]; exact he⟩, hw⟩
theorem sig_lt (u : Nat) : sig u < 9007199254740992 := by
 have := fman_lt u
 unfold sig
 split <;> omega
theorem pwr_ge (u : Nat) : -1074 ≤ pwr u := by
 unfold pwr
 split
 ·omega
 ·have := fexp_lt u; omega
theorem pwr_le (u : Nat) (h : fexp u ≠ 2047) : pwr u ≤ 971 := by
 have := fexp_lt u
 unfold pwr
 split <;> omega
set_option linter.unusedVariables false
set_option linter.unusedSimpArgs false
open Go Go.RowKit
set_option maxRecDepth 100000
theorem prod_nat (P hi lo r : Nat) (hr : r ≤ 63) (hhi : P / B64 = hi) (hlo : P % B64 = lo) (hh : hi < B64) :
  lo * 2 ^ r % B64 = wd (P * 2 ^ r) 0 ∧ (hi * 2 ^ r % B64 ||| lo / 2 ^ (64 - r)) = wd (P * 2 ^ r) 1 ∧ hi / 2 ^ (64 - r) = wd (P * 2 ^ r) 2 := by
 have hB : B64 = 2 ^ r * 2 ^ (64 - r) := by rw [← Nat.pow_add, show r + (64 - r) = 64 by omega]; rfl
 have h1 : 0 < 2 ^ r := Nat.two_pow_pos r
 have h2 : 0 < 2 ^ (64 - r) := Nat.two_pow_pos _
 have hlt : lo < B64 := by rw [← hlo]; exact Nat.mod_lt _ B64_pos
 have hP : P = hi * B64 + lo := by rw [← hhi, ← hlo, Nat.mul_comm]; exact (Nat.div_add_mod P B64).symm
 have hq : lo * 2 ^ r / B64 = lo / 2 ^ (64 - r) := by rw [hB, Nat.mul_comm lo, Nat.mul_div_mul_left _ _ h1]
 have hs : lo / 2 ^ (64 - r) < 2 ^ r := by rw [Nat.div_lt_iff_lt_mul h2, ← hB]; exact hlt
 have hV : P * 2 ^ r / B64 = hi * 2 ^ r + lo / 2 ^ (64 - r) := by
  rw [hP, Nat.add_mul, show hi * B64 * 2 ^ r = B64 * (hi * 2 ^ r) by ac_rfl, Nat.add_comm, Nat.add_mul_div_left _ _ B64_pos, hq, Nat.add_comm]
 have hm : hi * 2 ^ r % B64 = 2 ^ r * (hi % 2 ^ (64 - r)) := by rw [hB, Nat.mul_comm hi, Nat.mul_mod_mul_left]
 have hle : 2 ^ r * (hi % 2 ^ (64 - r)) + 2 ^ r ≤ B64 := by
  have := Nat.mod_lt hi h2
  rw [hB, ← Nat.mul_succ]
  exact Nat.mul_le_mul_left _ this
 refine ⟨?_, ?_, ?_⟩
 ·unfold wd
  rw [Nat.pow_zero, Nat.div_one, hP, Nat.add_mul, show hi * B64 * 2 ^ r = B64 * (hi * 2 ^ r) by ac_rfl, Nat.add_comm, Nat.add_mul_mod_self_left]
 ·unfold wd
  have e : (hi * 2 ^ r + lo / 2 ^ (64 - r)) % B64 = 2 ^ r * (hi % 2 ^ (64 - r)) + lo / 2 ^ (64 - r) := by
   generalize lo / 2 ^ (64 - r) = s at *
   rw [Nat.add_mod, hm]
   generalize 2 ^ r * (hi % 2 ^ (64 - r)) = y at *
   rw [Nat.mod_eq_of_lt (show s < B64 by omega), Nat.mod_eq_of_lt (show y + s < B64 by omega)]
  rw [Nat.pow_one, hV, hm, e]
  exact (Nat.two_pow_add_eq_or_of_lt hs _).symm
 ·unfold wd
  rw [show (2 : Nat) = 1 + 1 from rfl, Nat.pow_add, Nat.pow_one, ← Nat.div_div_eq_div_mul, show (1 + 1 : Nat) = 2 from rfl, hV]
  have hd : (hi * 2 ^ r + lo / 2 ^ (64 - r)) / B64 = hi / 2 ^ (64 - r) := by
   rw [hB, ← Nat.div_div_eq_div_mul, Nat.mul_comm hi, Nat.mul_add_div h1, Nat.div_eq_of_lt hs, Nat.add_zero]
  rw [hd]
  exact (Nat.mod_eq_of_lt (Nat.lt_of_le_of_lt (Nat.div_le_self _ _) hh)).symm
theorem prod_words (P hi lo r : Nat) (hr : r ≤ 63) (hhi : P / B64 = hi) (hlo : P % B64 = lo) (hh : hi < B64) :
  (#[Value.int IntKind.u64 (IntKind.u64.wrap ((lo : Int) * 2 ^ r)), Value.int IntKind.u64 (bits BinOp.or IntKind.u64 (IntKind.u64.wrap ((hi : Int) * 2 ^ r)) ((lo : Int) / 2 ^ (64 - r))), Value.int IntKind.u64 ((hi : Int) / 2 ^ (64 - r))] : Array Value) = vCells (P * 2 ^ r) := by
 obtain ⟨h0, h1, h2⟩ := prod_nat P hi lo r hr hhi hlo hh
 have hlt : lo < B64 := by rw [← hlo]; exact Nat.mod_lt _ B64_pos
 have w1 : ∀ x : Nat, IntKind.u64.wrap ((x : Int) * 2 ^ r) = ((x * 2 ^ r % B64 : Nat) : Int) := fun x => by
  have e : ((x * 2 ^ r : Nat) : Int) = (x : Int) * 2 ^ r := by rw [Int.natCast_mul, Int.natCast_pow]; rfl
  rw [IntKind.wrap_u64, ← e]
  generalize x * 2 ^ r = y
  unfold B64
  omega
 have w2 : ∀ x : Nat, ((x : Int) / 2 ^ (64 - r)) = ((x / 2 ^ (64 - r) : Nat) : Int) := fun x => by
  rw [Int.natCast_ediv, Int.natCast_pow]; rfl
 have hor := u64_or_nat (hi * 2 ^ r % B64) (lo / 2 ^ (64 - r)) (Nat.mod_lt _ B64_pos) (Nat.lt_of_le_of_lt (Nat.div_le_self _ _) hlt)
 rw [w1, w1, w2, w2, hor, h0, h1, h2]
 rfl
theorem prod_lt (u v r : Nat) (hr : r ≤ 63) : sig u * sig v * 2 ^ r < B64 ^ 3 := by
 have h1 := sig_lt u
 have h2 := sig_lt v
 have h3 : sig u * sig v ≤ 9007199254740992 * 9007199254740992 := Nat.mul_le_mul (by omega) (by omega)
 have h4 : 2 ^ r ≤ 2 ^ 63 := Nat.pow_le_pow_right (by omega) hr
 exact Nat.lt_of_le_of_lt (Nat.mul_le_mul h3 h4) (by decide)
theorem prod_shift (P at_ r i : Nat) (hr : at_ % 64 = r) (hi : at_ / 64 = i) : P * 2 ^ r * B64 ^ i = P * 2 ^ at_ := by
 have hB : B64 = 2 ^ 64 := rfl
 rw [hB, ← Nat.pow_mul, Nat.mul_assoc, ← Nat.pow_add]
 congr 2
 omega
/-- X with Q added, or taken away. -/
def addSigned (neg : Bool) (X Q : Nat) : Nat := bif neg then (X + TOP - Q) % TOP else (X + Q) % TOP
theorem addSigned_plus (u v X Q : Nat) (h : (fneg u == fneg v) = true) : addSigned (fneg u != fneg v) X Q = (X + Q) % TOP := by
 unfold addSigned
 rw [show (fneg u != fneg v) = false by rw [bne, h]; rfl, cond_false]
theorem addSigned_minus (u v X Q : Nat) (h : (fneg u == fneg v) = false) : addSigned (fneg u != fneg v) X Q = (X + TOP - Q) % TOP := by
 unfold addSigned
 rw [show (fneg u != fneg v) = true by rw [bne, h]; rfl, cond_true]
set_option maxHeartbeats 1000000 in
theorem prod_num (w : World) (b X u v at_ r i P : Nat) (n : Int) (h : AccAt w b X false) (hX : X < TOP) (hu : u < B64) (hv : v < B64) (eu : fexp u ≠ 2047) (ev : fexp v ≠ 2047) (hn1 : -64 ≤ n) (hn2 : n ≤ 64)
  (hat : pwr u + pwr v + n + 2212 = (at_ : Int)) (hr : at_ % 64 = r) (hi : at_ / 64 = i) (hP : sig u * sig v = P) :
  Calls Tryz.prog 75 #[.pointer (some ⟨b, 0, none⟩), .float .f64 u, .float .f64 v, .int .i64 n] w fun e w' => e = .returned (.tuple #[]) ∧
   FitAt w' b (addSigned (fneg u != fneg v) X (P * 2 ^ at_)) ∧ w.grownBy w' (some b) := by
 have hbad := h.bad
 have hl1 := pwr_ge u
 have hl2 := pwr_ge v
 have hl3 := pwr_le u eu
 have hl4 := pwr_le v ev
 have hs1 := sig_lt u
 have hs2 := sig_lt v
 have q1 : decide (n < -64) = false := by simp; omega
 have q2 : decide (n > 64) = false := by simp; omega
 have hr' : (at_ : Int) % 64 = (r : Int) := by omega
 have hr64 : (r : Int) ≤ 63 := by omega
 have hat' : (at_ : Int) ≤ 4218 := by omega
 have HP := Lib.hid hP
 have HI := Lib.hid hi
 have HR := Lib.hid hr
 clear hP hi hr
 go_enter Tryz.func75, Tryz.ntmps75
 go_wp2_with fail
 refine (split_num u hu eu _).mono ?_
 rintro e w' ⟨rfl, rfl⟩
 go_wp2_with fail
 refine (split_num v hv ev _).mono ?_
 rintro e w' ⟨rfl, rfl⟩
 go_wp2_with fail
 refine (Tryz.bits_Mul64 (sig u) (sig v) (by omega) (by omega) _).mono ?_
 rintro e w' ⟨rfl, rfl⟩
 rw [HP.out]
 generalize hhi : P / 18446744073709551616 = hi
 generalize hlo : P % 18446744073709551616 = lo
 have HH := Lib.hid hhi
 have HL := Lib.hid hlo
 have hP1 : P ≤ 9007199254740992 * 9007199254740992 := by rw [← HP.out]; exact Nat.mul_le_mul (by omega) (by omega)
 have hh1 : hi ≤ 4398046511104 := by omega
 have hl1 : lo ≤ 18446744073709551615 := by omega
 have hV : P * 2 ^ r < B64 ^ 3 := by rw [← HP.out]; exact prod_lt u v r (by omega)
 have Hw := Lib.hid (prod_words P hi lo r (by omega) hhi hlo (Nat.lt_of_le_of_lt hh1 (by decide)))
 have HV := Lib.hid hV
 clear hhi hlo hP1 hV
 go_wp2_with fail
 go_region
 go_wp2_with fail
 rw [Hw.out]
 have hA : AccAt (w'.alloc (Obj.cells (vCells (P * 2 ^ r)) 175)).drew b X false := h.alloc _
 have hgr : w'.grownBy (w'.alloc (Obj.cells (vCells (P * 2 ^ r)) 175)).drew (some b) := grown_drew (World.grownBy_alloc _ _ _)
 have hi65 : at_ / 64 ≤ 65 := by omega
 cases hne : (fneg u == fneg v) with
 | true =>
  rw [Bool.not_true]
  refine (put_plus _ b X (P * 2 ^ r) at_ i hA hX HV.out HI.out (by rw [← HI.out]; exact hi65)).mono ?_
  rintro e w1 ⟨rfl, hf, hg⟩
  go_wp2_with fail
  go_end0
  rw [prod_shift P at_ r i HR.out HI.out] at hf
  exact ⟨rfl, by rw [addSigned_plus u v X _ hne]; exact hf, grown_trans hgr hg⟩
 | false =>
  rw [Bool.not_false]
  refine (put_minus _ b X (P * 2 ^ r) at_ i hA hX HV.out HI.out (by rw [← HI.out]; exact hi65)).mono ?_
  rintro e w1 ⟨rfl, hf, hg⟩
  go_wp2_with fail
  go_end0
  rw [prod_shift P at_ r i HR.out HI.out] at hf
  exact ⟨rfl, by rw [addSigned_minus u v X _ hne]; exact hf, grown_trans hgr hg⟩
set_option linter.unusedVariables false
set_option linter.unusedSimpArgs false
open Go Go.RowKit
set_option maxRecDepth 100000
set_option maxHeartbeats 1000000 in
theorem prod_bad (w : World) (b X u v : Nat) (n : Int) (bad : Bool) (h : AccAt w b X bad) (hu : u < B64) (hv : v < B64) (hc : bad = true ∨ (bad = false ∧ fexp u = 2047) ∨ (bad = false ∧ fexp u ≠ 2047 ∧ fexp v = 2047) ∨ (bad = false ∧ fexp u ≠ 2047 ∧ fexp v ≠ 2047 ∧ n < -64) ∨ (bad = false ∧ fexp u ≠ 2047 ∧ fexp v ≠ 2047 ∧ -64 ≤ n ∧ 64 < n)) :
  Calls Tryz.prog 75 #[.pointer (some ⟨b, 0, none⟩), .float .f64 u, .float .f64 v, .int .i64 n] w fun e w' => e = .returned (.tuple #[]) ∧ AccAt w' b 0 true ∧ w.grownBy w' (some b) := by
 have hbad := h.bad
 generalize ho1 : (fexp u != 2047) = ok1
 generalize ho2 : (fexp v != 2047) = ok2
 have hq : bad = true ∨ (bad = false ∧ ok1 = false) ∨ (bad = false ∧ ok1 = true ∧ ok2 = false) ∨ (bad = false ∧ ok1 = true ∧ ok2 = true ∧ n < -64) ∨ (bad = false ∧ ok1 = true ∧ ok2 = true ∧ -64 ≤ n ∧ 64 < n) := by
  subst ho1 ho2
  simpa using hc
 clear hc
 have H1 := Lib.hid ho1
 have H2 := Lib.hid ho2
 clear ho1 ho2
 go_enter Tryz.func75, Tryz.ntmps75
 go_wp2_with fail
 refine (split_any u hu _).mono ?_
 rintro e w' ⟨⟨s1, m1, x1, rfl⟩, rfl⟩
 rw [H1.out]
 go_wp2_with fail
 refine (split_any v hv _).mono ?_
 rintro e w' ⟨⟨s2, m2, x2, rfl⟩, rfl⟩
 rw [H2.out]
 have fin := Lib.hid (And.intro (setRow_heap w b (accCells X bad) (accCells 0 true) 163 (0, 0) h) (grown_setRow w b (accCells 0 true)))
 rcases hq with rfl | ⟨rfl, rfl⟩ | ⟨rfl, rfl, rfl⟩ | ⟨rfl, rfl, rfl, hn⟩ | ⟨rfl, rfl, rfl, hn1, hn2⟩
 ·go_wp2_with (refine wpList_store_row rfl 163 (.tmp 57) (.tmp 56) rfl b (accCells 0 true) rfl (by kernel_rfl) 163 (accCells X true) h (info_acc _ _) (acc_sizes _ _ _ _) (acc_one _ _) ?_)
  refine bodyPost_ret (results_none rfl _ _ _) rfl ⟨rfl, fin.out⟩
 ·go_wp2_with (refine wpList_store_row rfl 163 (.tmp 57) (.tmp 56) rfl b (accCells 0 true) rfl (by kernel_rfl) 163 (accCells X false) h (info_acc _ _) (acc_sizes _ _ _ _) (acc_one _ _) ?_)
  refine bodyPost_ret (results_none rfl _ _ _) rfl ⟨rfl, fin.out⟩
 ·go_wp2_with (refine wpList_store_row rfl 163 (.tmp 57) (.tmp 56) rfl b (accCells 0 true) rfl (by kernel_rfl) 163 (accCells X false) h (info_acc _ _) (acc_sizes _ _ _ _) (acc_one _ _) ?_)
  refine bodyPost_ret (results_none rfl _ _ _) rfl ⟨rfl, fin.out⟩
 ·have q1 : decide (n < -64) = true := by simp; omega
  go_wp2_with (refine wpList_store_row rfl 163 (.tmp 57) (.tmp 56) rfl b (accCells 0 true) rfl (by kernel_rfl) 163 (accCells X false) h (info_acc _ _) (acc_sizes _ _ _ _) (acc_one _ _) ?_)
  refine bodyPost_ret (results_none rfl _ _ _) rfl ⟨rfl, fin.out⟩
 ·have q1 : decide (n < -64) = false := by simp; omega
  have q2 : decide (n > 64) = true := by simp; omega
  go_wp2_with (refine wpList_store_row rfl 163 (.tmp 57) (.tmp 56) rfl b (accCells 0 true) rfl (by kernel_rfl) 163 (accCells X false) h (info_acc _ _) (acc_sizes _ _ _ _) (acc_one _ _) ?_)
  refine bodyPost_ret (results_none rfl _ _ _) rfl ⟨rfl, fin.out⟩
set_option linter.unusedVariables false
set_option linter.unusedSimpArgs false
open Go Go.RowKit
theorem pow_words (k m : Nat) : B64 ^ k * 2 ^ m = 2 ^ (64 * k + m) := by
 rw [show B64 = 2 ^ 64 from rfl, ← Nat.pow_mul, ← Nat.pow_add]
theorem LIM_pow : ∃ k, k = 4772 ∧ LIM = 2 ^ k := ⟨64 * 74 + 36, rfl, by
 have h := pow_words 74 36
 unfold LIM
 rw [show (68719476736 : Nat) = 2 ^ 36 from rfl]
 exact h⟩
theorem four_aux (M L B : Nat) (h : 4 * L ≤ B * B) : 4 * (M * L) ≤ M * (B * B) := by
 rw [Nat.mul_left_comm]
 exact Nat.mul_le_mul_left _ h
theorem four_le : 4 * 68719476736 ≤ B64 * B64 := Nat.mul_le_mul (show 4 ≤ B64 by unfold B64; omega) (show 68719476736 ≤ B64 by unfold B64; omega)
theorem TOP_eq : TOP = B64 ^ 74 * (B64 * B64) := by unfold TOP; rw [Nat.pow_succ, Nat.pow_succ, Nat.mul_assoc]
theorem LIM_eq : LIM = B64 ^ 74 * 68719476736 := by unfold LIM; exact Eq.refl _
theorem TOP_LIM : 4 * LIM ≤ TOP := LIM_eq ▸ Nat.le_trans (four_aux (B64 ^ 74) 68719476736 B64 four_le) (Nat.le_of_eq TOP_eq.symm)
def enc (z : Int) : Nat := (z % (TOP : Int)).toNat
theorem enc_lt (z : Int) : enc z < TOP := by
 have h := TOP_pos
 have h1 := Int.emod_lt_of_pos z (show (0 : Int) < TOP by omega)
 have h2 := Int.emod_nonneg z (show (TOP : Int) ≠ 0 by omega)
 unfold enc
 omega
theorem enc_cast (z : Int) : (enc z : Int) = z % (TOP : Int) := by
 have h := TOP_pos
 have h2 := Int.emod_nonneg z (show (TOP : Int) ≠ 0 by omega)
 unfold enc
 omega
theorem enc_add (z : Int) (Q : Nat) : (enc z + Q) % TOP = enc (z + Q) := by
 apply Int.ofNat.inj
 show ((((enc z + Q) % TOP : Nat)) : Int) = ((enc (z + Q) : Nat) : Int)
 rw [enc_cast, Int.natCast_emod, Int.natCast_add, enc_cast, Int.emod_add_emod]
theorem enc_sub (z : Int) (Q : Nat) (hQ : Q ≤ TOP) : (enc z + TOP - Q) % TOP = enc (z - Q) := by
 apply Int.ofNat.inj
 show ((((enc z + TOP - Q) % TOP : Nat)) : Int) = ((enc (z - Q) : Nat) : Int)
 have e : (((enc z + TOP - Q : Nat)) : Int) = (enc z : Int) - Q + TOP := by omega
 rw [enc_cast, Int.natCast_emod, e, Int.add_emod_right, enc_cast]
 rw [Int.sub_emod, Int.emod_emod_of_dvd _ (Int.dvd_refl _), ← Int.sub_emod]
theorem enc_pos (z : Int) (h : 0 ≤ z) (h2 : 2 * z.natAbs < TOP) : enc z = z.natAbs := by
 unfold enc
 rw [Int.emod_eq_of_lt h (by omega)]
 omega
theorem enc_neg (z : Int) (h : z < 0) (h2 : 2 * z.natAbs < TOP) : enc z = TOP - z.natAbs := by
 unfold enc
 rw [← Int.add_emod_right, Int.emod_eq_of_lt (by omega) (by omega)]
 omega
theorem isNeg_enc (z : Int) (h2 : 2 * z.natAbs < TOP) : isNeg (enc z) = decide (z < 0) := by
 unfold isNeg
 by_cases h : z < 0
 ·rw [enc_neg z h h2, decide_eq_true h, decide_eq_true (by omega)]
 ·rw [enc_pos z (by omega) h2, decide_eq_false h, decide_eq_false (by omega)]
theorem absX_enc (z : Int) (h2 : 2 * z.natAbs < TOP) : absX (enc z) = z.natAbs := by
 unfold absX
 rw [isNeg_enc z h2]
 by_cases h : z < 0
 ·rw [decide_eq_true h, cond_true, enc_neg z h h2]
  omega
 ·rw [decide_eq_false h, cond_false, enc_pos z (by omega) h2]
/-- Block b holds an Acc of this real, or a bad one. -/
def AccIs (w : World) (b : Nat) : Option Int → Prop
 | some z => AccAt w b (enc z) false ∧ z.natAbs < LIM
 | none => AccAt w b 0 true
def clip (z : Int) : Option Int := if z.natAbs < LIM then some z else none
theorem AccIs.lt {w : World} {b : Nat} {s : Option Int} (h : AccIs w b s) : b < w.heap.size := by
 cases s with
 | none => exact AccAt.lt h
 | some z => exact AccAt.lt h.1
theorem AccIs.heap {w w1 : World} {b : Nat} {s : Option Int} (h : AccIs w b s) (hb : w1.heap[b]? = w.heap[b]?) : AccIs w1 b s := by
 cases s with
 | none => exact hb.trans h
 | some z => exact ⟨hb.trans h.1, h.2⟩
theorem AccIs.below {w w1 : World} {b : Nat} {s : Option Int} (h : AccIs w b s) {B : Nat} (hb : b < B) (hw : Below B w w1) : AccIs w1 b s := h.heap (hw.block b hb)
theorem AccIs.grown {w w1 : World} {b : Nat} {s : Option Int} {row : Option Nat} (h : AccIs w b s) (hg : w.grownBy w1 row) (hr : some b ≠ row) : AccIs w1 b s := h.heap (hg.block b h.lt hr)
theorem fit_clip {w : World} {b : Nat} {z : Int} (h2 : 2 * z.natAbs < TOP) (h : FitAt w b (enc z)) : AccIs w b (clip z) := by
 unfold clip FitAt at *
 rw [absX_enc z h2] at h
 by_cases hl : z.natAbs < LIM
 ·rw [if_pos hl]; exact ⟨h.1 hl, hl⟩
 ·rw [if_neg hl]; exact h.2 (by omega)
/-- The product's value. -/
def prodQ (u v : Nat) (n : Int) : Nat := sig u * sig v * 2 ^ (pwr u + pwr v + n + 2212).toNat
def prodZ (u v : Nat) (n : Int) : Int := if (fneg u != fneg v) = true then -(prodQ u v n : Int) else prodQ u v n
theorem prodQ_lt (u v : Nat) (n : Int) (eu : fexp u ≠ 2047) (ev : fexp v ≠ 2047) (hn : n ≤ 64) : prodQ u v n < LIM := by
 have h1 := sig_lt u
 have h2 := sig_lt v
 have h3 := pwr_le u eu
 have h4 := pwr_le v ev
 have h5 : sig u * sig v < 2 ^ 106 := by
  have : sig u * sig v ≤ 9007199254740991 * 9007199254740991 := Nat.mul_le_mul (by omega) (by omega)
  exact Nat.lt_of_le_of_lt this (by decide)
 have h6 : (pwr u + pwr v + n + 2212).toNat ≤ 4218 := by omega
 unfold prodQ
 obtain ⟨k, hk, hL⟩ := LIM_pow
 rw [hL]
 generalize (pwr u + pwr v + n + 2212).toNat = x at *
 have h8 : sig u * sig v * 2 ^ x < 2 ^ 106 * 2 ^ x := Nat.mul_lt_mul_of_pos_right h5 (Nat.two_pow_pos _)
 rw [← Nat.pow_add] at h8
 exact Nat.lt_of_lt_of_le h8 (Nat.pow_le_pow_right (by omega) (by omega))
def prodS (s : Option Int) (u v : Nat) (n : Int) : Option Int :=
 match s with
 | none => none
 | some z => if fexp u = 2047 ∨ fexp v = 2047 ∨ n < -64 ∨ 64 < n then none else clip (z + prodZ u v n)
theorem prod_any (w : World) (b u v : Nat) (n : Int) (s : Option Int) (h : AccIs w b s) (hu : u < B64) (hv : v < B64) :
  Calls Tryz.prog 75 #[.pointer (some ⟨b, 0, none⟩), .float .f64 u, .float .f64 v, .int .i64 n] w fun e w' => e = .returned (.tuple #[]) ∧ AccIs w' b (prodS s u v n) ∧ w.grownBy w' (some b) := by
 cases s with
 | none => exact (prod_bad w b 0 u v n true h hu hv (Or.inl rfl)).mono fun e w' ⟨he, ha, hg⟩ => ⟨he, ha, hg⟩
 | some z =>
  obtain ⟨ha, hz⟩ := h
  unfold prodS
  by_cases hc : fexp u = 2047 ∨ fexp v = 2047 ∨ n < -64 ∨ 64 < n
  ·simp only [if_pos hc]
   exact (prod_bad w b (enc z) u v n false ha hu hv (by
    refine Or.inr ?_
    by_cases h1 : fexp u = 2047
    ·exact Or.inl ⟨rfl, h1⟩
    ·by_cases h2 : fexp v = 2047
     ·exact Or.inr (Or.inl ⟨rfl, h1, h2⟩)
     ·by_cases h3 : n < -64
      ·exact Or.inr (Or.inr (Or.inl ⟨rfl, h1, h2, h3⟩))
      ·exact Or.inr (Or.inr (Or.inr ⟨rfl, h1, h2, by omega, by omega⟩)))).mono fun e w' ⟨he, ha, hg⟩ => ⟨he, ha, hg⟩
  ·simp only [if_neg hc]
   have eu : fexp u ≠ 2047 := fun e => hc (Or.inl e)
   have ev : fexp v ≠ 2047 := fun e => hc (Or.inr (Or.inl e))
   have hn1 : -64 ≤ n := by omega
   have hn2 : n ≤ 64 := by omega
   have g1 := pwr_ge u
   have g2 := pwr_ge v
   have hq := prodQ_lt u v n eu ev hn2
   have ht := TOP_LIM
   have hat : pwr u + pwr v + n + 2212 = ((pwr u + pwr v + n + 2212).toNat : Int) := by omega
   refine (prod_num w b (enc z) u v _ _ _ _ n ha (enc_lt z) hu hv eu ev hn1 hn2 hat rfl rfl rfl).mono fun e w' ⟨he, hf, hg⟩ => ⟨he, ?_, hg⟩
   refine fit_clip ?_ ?_
   ·unfold prodZ
    split <;> omega
   ·unfold prodZ
    cases hne : (fneg u == fneg v) with
    | true =>
     rw [addSigned_plus u v _ _ hne, enc_add] at hf
     rw [if_neg (by rw [bne, hne]; decide)]
     exact hf
    | false =>
     rw [addSigned_minus u v _ _ hne, enc_sub _ _ (by show prodQ u v n ≤ TOP; omega)] at hf
     rw [if_pos (by rw [bne, hne]; decide), ← Int.sub_eq_add_neg]
     exact hf
/-- One, as a float64. -/
def ONE : Nat := 4607182418800017408
def addS (s : Option Int) (u : Nat) : Option Int := prodS s u ONE 0
theorem add_any (w : World) (b u : Nat) (s : Option Int) (h : AccIs w b s) (hu : u < B64) :
  Calls Tryz.prog 67 #[.pointer (some ⟨b, 0, none⟩), .float .f64 u] w fun e w' => e = .returned (.tuple #[]) ∧ AccIs w' b (addS s u) ∧ w.grownBy w' (some b) := by
 go_enter Tryz.func67, Tryz.ntmps67
 go_wp2_with fail
 refine (prod_any w b u ONE 0 s h hu (by decide)).mono ?_
 rintro e w1 ⟨rfl, ha, hg⟩
 go_wp2_with fail
 go_end0
 exact ⟨rfl, ha, hg⟩
end Go.Proofs.YtpfbgenefjhcjaaGreatDoor
