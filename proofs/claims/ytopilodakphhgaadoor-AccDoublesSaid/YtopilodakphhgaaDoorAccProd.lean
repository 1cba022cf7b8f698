/- (*Acc).Prod: a product is added. -/
import Derived.Test.YtopilodakphhgaaDoorAccFloat
import Derived.Test.YtopilodakphhgaaDoorShelf
import Derived.Outline
namespace Go.Proofs.YtopilodakphhgaaDoor
set_option linter.unusedVariables false
set_option linter.unusedSimpArgs false
open Go Go.RowKit
set_option maxRecDepth 100000
theorem prod_nat (P hi lo r : Nat) (hr : r ≤ 63) (hhi : P / B64 = hi) (hlo : P % B64 = lo) (hh : hi < B64) :
    lo * 2 ^ r % B64 = wd (P * 2 ^ r) 0 ∧ (hi * 2 ^ r % B64 ||| lo / 2 ^ (64 - r)) = wd (P * 2 ^ r) 1 ∧ hi / 2 ^ (64 - r) = wd (P * 2 ^ r) 2 := by
  have hB : B64 = 2 ^ r * 2 ^ (64 - r) := by rw [← Nat.pow_add, show r + (64 - r) = 64 by omega]; rfl
  have h1 : 0 < 2 ^ r := Nat.two_pow_pos r
  have h2 : 0 < 2 ^ (64 - r) := Nat.two_pow_pos _
  have hlt : lo < B64 := by rw [← hlo]; exact Nat.mod_lt _ B64_pos
  have hP : P = hi * B64 + lo := by rw [← hhi, ← hlo, Nat.mul_comm]; exact (Nat.div_add_mod P B64).symm
  have hq : lo * 2 ^ r / B64 = lo / 2 ^ (64 - r) := by rw [hB, Nat.mul_comm lo, Nat.mul_div_mul_left _ _ h1]
  have hs : lo / 2 ^ (64 - r) < 2 ^ r := by rw [Nat.div_lt_iff_lt_mul h2, ← hB]; exact hlt
  have hV : P * 2 ^ r / B64 = hi * 2 ^ r + lo / 2 ^ (64 - r) := by
    rw [hP, Nat.add_mul, show hi * B64 * 2 ^ r = B64 * (hi * 2 ^ r) by ac_rfl, Nat.add_comm, Nat.add_mul_div_left _ _ B64_pos, hq, Nat.add_comm]
  have hm : hi * 2 ^ r % B64 = 2 ^ r * (hi % 2 ^ (64 - r)) := by rw [hB, Nat.mul_comm hi, Nat.mul_mod_mul_left]
  have hle : 2 ^ r * (hi % 2 ^ (64 - r)) + 2 ^ r ≤ B64 := by
    have := Nat.mod_lt hi h2
    rw [hB, ← Nat.mul_succ]
    exact Nat.mul_le_mul_left _ this
  refine ⟨?_, ?_, ?_⟩
  · unfold wd
    rw [Nat.pow_zero, Nat.div_one, hP, Nat.add_mul, show hi * B64 * 2 ^ r = B64 * (hi * 2 ^ r) by ac_rfl, Nat.add_comm, Nat.add_mul_mod_self_left]
  · unfold wd
    have e : (hi * 2 ^ r + lo / 2 ^ (64 - r)) % B64 = 2 ^ r * (hi % 2 ^ (64 - r)) + lo / 2 ^ (64 - r) := by
      generalize lo / 2 ^ (64 - r) = s at *
      rw [Nat.add_mod, hm]
      generalize 2 ^ r * (hi % 2 ^ (64 - r)) = y at *
      rw [Nat.mod_eq_of_lt (show s < B64 by omega), Nat.mod_eq_of_lt (show y + s < B64 by omega)]
    rw [Nat.pow_one, hV, hm, e]
    exact (Nat.two_pow_add_eq_or_of_lt hs _).symm
  · unfold wd
    rw [show (2 : Nat) = 1 + 1 from rfl, Nat.pow_add, Nat.pow_one, ← Nat.div_div_eq_div_mul, show (1 + 1 : Nat) = 2 from rfl, hV]
    have hd : (hi * 2 ^ r + lo / 2 ^ (64 - r)) / B64 = hi / 2 ^ (64 - r) := by
      rw [hB, ← Nat.div_div_eq_div_mul, Nat.mul_comm hi, Nat.mul_add_div h1, Nat.div_eq_of_lt hs, Nat.add_zero]
    rw [hd]
    exact (Nat.mod_eq_of_lt (Nat.lt_of_le_of_lt (Nat.div_le_self _ _) hh)).symm
theorem prod_words (P hi lo r : Nat) (hr : r ≤ 63) (hhi : P / B64 = hi) (hlo : P % B64 = lo) (hh : hi < B64) :
    (#[Value.int IntKind.u64 (IntKind.u64.wrap ((lo : Int) * 2 ^ r)), Value.int IntKind.u64 (bits BinOp.or IntKind.u64 (IntKind.u64.wrap ((hi : Int) * 2 ^ r)) ((lo : Int) / 2 ^ (64 - r))), Value.int IntKind.u64 ((hi : Int) / 2 ^ (64 - r))] : Array Value) = vCells (P * 2 ^ r) := by
  obtain ⟨h0, h1, h2⟩ := prod_nat P hi lo r hr hhi hlo hh
  have hlt : lo < B64 := by rw [← hlo]; exact Nat.mod_lt _ B64_pos
  have w1 : ∀ x : Nat, IntKind.u64.wrap ((x : Int) * 2 ^ r) = ((x * 2 ^ r % B64 : Nat) : Int) := fun x => by
    have e : ((x * 2 ^ r : Nat) : Int) = (x : Int) * 2 ^ r := by rw [Int.natCast_mul, Int.natCast_pow]; rfl
    rw [IntKind.wrap_u64, ← e]
    generalize x * 2 ^ r = y
    unfold B64
    omega
  have w2 : ∀ x : Nat, ((x : Int) / 2 ^ (64 - r)) = ((x / 2 ^ (64 - r) : Nat) : Int) := fun x => by
    rw [Int.natCast_ediv, Int.natCast_pow]; rfl
  have hor := u64_or_nat (hi * 2 ^ r % B64) (lo / 2 ^ (64 - r)) (Nat.mod_lt _ B64_pos) (Nat.lt_of_le_of_lt (Nat.div_le_self _ _) hlt)
  rw [w1, w1, w2, w2, hor, h0, h1, h2]
  rfl
theorem prod_lt (u v r : Nat) (hr : r ≤ 63) : sig u * sig v * 2 ^ r < B64 ^ 3 := by
  have h1 := sig_lt u
  have h2 := sig_lt v
  have h3 : sig u * sig v ≤ 9007199254740992 * 9007199254740992 := Nat.mul_le_mul (by omega) (by omega)
  have h4 : 2 ^ r ≤ 2 ^ 63 := Nat.pow_le_pow_right (by omega) hr
  exact Nat.lt_of_le_of_lt (Nat.mul_le_mul h3 h4) (by decide)
theorem prod_shift (P at_ r i : Nat) (hr : at_ % 64 = r) (hi : at_ / 64 = i) : P * 2 ^ r * B64 ^ i = P * 2 ^ at_ := by
  have hB : B64 = 2 ^ 64 := rfl
  rw [hB, ← Nat.pow_mul, Nat.mul_assoc, ← Nat.pow_add]
  congr 2
  omega
/-- X with Q added, or taken away. -/
def addSigned (neg : Bool) (X Q : Nat) : Nat := bif neg then (X + TOP - Q) % TOP else (X + Q) % TOP
theorem addSigned_plus (u v X Q : Nat) (h : (fneg u == fneg v) = true) : addSigned (fneg u != fneg v) X Q = (X + Q) % TOP := by
  unfold addSigned
  rw [show (fneg u != fneg v) = false by rw [bne, h]; rfl, cond_false]
theorem addSigned_minus (u v X Q : Nat) (h : (fneg u == fneg v) = false) : addSigned (fneg u != fneg v) X Q = (X + TOP - Q) % TOP := by
  unfold addSigned
  rw [show (fneg u != fneg v) = true by rw [bne, h]; rfl, cond_true]
set_option maxHeartbeats 1000000 in
theorem prod_num (w : World) (b X u v at_ r i P : Nat) (n : Int) (h : AccAt w b X false) (hX : X < TOP) (hu : u < B64) (hv : v < B64) (eu : fexp u ≠ 2047) (ev : fexp v ≠ 2047) (hn1 : -64 ≤ n) (hn2 : n ≤ 64)
    (hat : pwr u + pwr v + n + 2212 = (at_ : Int)) (hr : at_ % 64 = r) (hi : at_ / 64 = i) (hP : sig u * sig v = P) :
    Calls Tryd.prog 26 #[.pointer (some ⟨b, 0, none⟩), .float .f64 u, .float .f64 v, .int .i64 n] w fun e w' => e = .returned (.tuple #[]) ∧
      FitAt w' b (addSigned (fneg u != fneg v) X (P * 2 ^ at_)) ∧ w.grownBy w' (some b) := by
  have hbad := h.bad
  have hl1 := pwr_ge u
  have hl2 := pwr_ge v
  have hl3 := pwr_le u eu
  have hl4 := pwr_le v ev
  have hs1 := sig_lt u
  have hs2 := sig_lt v
  have q1 : decide (n < -64) = false := by simp; omega
  have q2 : decide (n > 64) = false := by simp; omega
  have hr' : (at_ : Int) % 64 = (r : Int) := by omega
  have hr64 : (r : Int) ≤ 63 := by omega
  have hat' : (at_ : Int) ≤ 4218 := by omega
  have HP := Lib.hid hP
  have HI := Lib.hid hi
  have HR := Lib.hid hr
  clear hP hi hr
  go_enter Tryd.func26, Tryd.ntmps26
  go_wp2_with fail
  refine (split_num u hu eu _).mono ?_
  rintro e w' ⟨rfl, rfl⟩
  go_wp2_with fail
  refine (split_num v hv ev _).mono ?_
  rintro e w' ⟨rfl, rfl⟩
  go_wp2_with fail
  refine (Tryd.bits_Mul64 (sig u) (sig v) (by omega) (by omega) _).mono ?_
  rintro e w' ⟨rfl, rfl⟩
  rw [HP.out]
  generalize hhi : P / 18446744073709551616 = hi
  generalize hlo : P % 18446744073709551616 = lo
  have HH := Lib.hid hhi
  have HL := Lib.hid hlo
  have hP1 : P ≤ 9007199254740992 * 9007199254740992 := by rw [← HP.out]; exact Nat.mul_le_mul (by omega) (by omega)
  have hh1 : hi ≤ 4398046511104 := by omega
  have hl1 : lo ≤ 18446744073709551615 := by omega
  have hV : P * 2 ^ r < B64 ^ 3 := by rw [← HP.out]; exact prod_lt u v r (by omega)
  have Hw := Lib.hid (prod_words P hi lo r (by omega) hhi hlo (Nat.lt_of_le_of_lt hh1 (by decide)))
  have HV := Lib.hid hV
  clear hhi hlo hP1 hV
  go_wp2_with fail
  go_region
  go_wp2_with fail
  rw [Hw.out]
  have hA : AccAt (w'.alloc (Obj.cells (vCells (P * 2 ^ r)) 80)).drew b X false := h.alloc _
  have hgr : w'.grownBy (w'.alloc (Obj.cells (vCells (P * 2 ^ r)) 80)).drew (some b) := grown_drew (World.grownBy_alloc _ _ _)
  have hi65 : at_ / 64 ≤ 65 := by omega
  cases hne : (fneg u == fneg v) with
  | true =>
    rw [Bool.not_true]
    refine (put_plus _ b X (P * 2 ^ r) at_ i hA hX HV.out HI.out (by rw [← HI.out]; exact hi65)).mono ?_
    rintro e w1 ⟨rfl, hf, hg⟩
    go_wp2_with fail
    go_end0
    rw [prod_shift P at_ r i HR.out HI.out] at hf
    exact ⟨rfl, by rw [addSigned_plus u v X _ hne]; exact hf, grown_trans hgr hg⟩
  | false =>
    rw [Bool.not_false]
    refine (put_minus _ b X (P * 2 ^ r) at_ i hA hX HV.out HI.out (by rw [← HI.out]; exact hi65)).mono ?_
    rintro e w1 ⟨rfl, hf, hg⟩
    go_wp2_with fail
    go_end0
    rw [prod_shift P at_ r i HR.out HI.out] at hf
    exact ⟨rfl, by rw [addSigned_minus u v X _ hne]; exact hf, grown_trans hgr hg⟩
end Go.Proofs.YtopilodakphhgaaDoor
