/-
 acc.told.
-/
import Derived.Test.YtpfbgenefjhcjaaGreatDoorPNumber
namespace Go.Proofs.YtpfbgenefjhcjaaGreatDoor
set_option linter.unusedVariables false
set_option linter.unusedSimpArgs false
open Go Go.RowKit
set_option maxRecDepth 100000
/-- How many bits. -/
def blen (M : Nat) : Nat := if M = 0 then 0 else M.log2 + 1
theorem isLen_blen (M : Nat) : IsLen (blen M) M := by
 unfold blen
 by_cases h : M = 0
 ·subst h; exact IsLen.zero
 ·rw [if_neg h]
  exact ⟨Nat.lt_log2_self, fun _ => Nat.log2_self_le h⟩
/-- So many bits are rounded away, in the lowest bit's units. -/
def shiftOf (M : Nat) : Nat := max (blen M - 53) 1138
theorem told_bad (w : World) (p : Nat) (d : Int) (neg : Bool) (h : d < 0 ∨ 2 < d) (hd1 : -9223372036854775808 ≤ d) (hd2 : d ≤ 9223372036854775807) (x : Int) :
  Calls Tryz.prog 112 #[.int .i64 d, .bool neg, .pointer (Option.some ⟨p, 0, none⟩), .int .i64 x, .bool false] w fun e w' => e = .returned (.tuple #[.float .f64 0, .bool false]) ∧ w' = w := by
 by_cases hlt : d < 0
 ·go_enter Tryz.func112, Tryz.ntmps112
  go_wp2_with fail
  go_ret2
  exact ⟨rfl, rfl⟩
 ·have h1 : decide (d < 0) = false := by simp; omega
  have h2 : 2 < d := by omega
  go_enter Tryz.func112, Tryz.ntmps112
  go_wp2_with fail
  go_ret2
  exact ⟨rfl, rfl⟩
theorem told_zero (w : World) (p : Nat) (d : Int) (neg : Bool) (h0 : 0 ≤ d) (h2 : d ≤ 2) (x : Int) (h : IntIs w p 0) :
  Calls Tryz.prog 112 #[.int .i64 d, .bool neg, .pointer (Option.some ⟨p, 0, none⟩), .int .i64 x, .bool false] w fun e w' => e = .returned (.tuple #[.float .f64 0, .bool true]) ∧ w' = w := by
 have hs := (int_sign w p 0 h)
 rw [show ((0 : Nat) : Int).sign = 0 from rfl] at hs
 have h3 : decide (d < 0) = false := by simp; omega
 have h4 : decide (2 < d) = false := by simp; omega
 go_enter Tryz.func112, Tryz.ntmps112
 go_wp2_with fail
 refine hs.mono ?_
 rintro e w1 ⟨rfl, rfl⟩
 go_wp2_with fail
 go_ret2
 exact ⟨rfl, rfl⟩
theorem IntNew.below {w w1 : World} {p : Nat} (h : IntNew w p) (hb : Below w.heap.size w w1) : IntNew w1 p := (hb.block p (Array.getElem?_eq_some_iff.1 h).1).trans h
theorem IntIsN.below {lo : Nat} {w w1 : World} {p M : Nat} (h : IntIsN lo w p M) (hb : Below w.heap.size w w1) : IntIsN lo w1 p M := by
 obtain ⟨A, n, cap, h1, h2, h3⟩ := h
 exact ⟨A, n, cap, (hb.block p (Array.getElem?_eq_some_iff.1 h1).1).trans h1, h2.below hb, h3⟩
abbrev newInt : Obj := .cells #[.bool false, .slice none 0 0] 190
theorem below_new {w w2 : World} (hg : (w.alloc newInt).grownBy w2 (some w.heap.size)) : Below w.heap.size w w2 :=
 below_of_grown (grown_trans (World.grownBy_alloc w newInt (some w.heap.size)) hg) (Nat.le_refl _)
theorem below_row {w w2 : World} {B g : Nat} (h : w.grownBy w2 (some g)) (h1 : B ≤ g) (h2 : B ≤ w.heap.size) : Below B w w2 :=
 ⟨h.os, h.tape, h.output, by have := h.size; omega, fun k hk => h.block k (by omega) (fun e => by injection e with e; omega)⟩
/-- 'left := new(big.Int).Sub(m, new(big.Int).Lsh(q, n))', the inner call. -/
theorem told_lsh (w : World) (p q M n lo : Nat) (hm : IntIs w p M) (hq : IntIsN lo w q (M / 2 ^ n)) (hM : M < B64 ^ 76) (hn1 : 1 ≤ n) (hn : n ≤ 5000) :
  Calls Tryz.prog 133 #[.pointer (Option.some ⟨w.heap.size + 1, 0, none⟩), .pointer (Option.some ⟨q, 0, none⟩), .int .u64 (n : Nat)] ((w.alloc newInt).alloc newInt) fun e w3 =>
   e = .returned (.pointer (Option.some ⟨w.heap.size + 1, 0, none⟩)) ∧ Below w.heap.size w w3 ∧ IntNew w3 w.heap.size ∧ IntIs w3 (w.heap.size + 1) (M / 2 ^ n * 2 ^ n) ∧ w.heap.size + 1 < w3.heap.size := by
 have hb0 : Below w.heap.size w ((w.alloc newInt).alloc newInt) := ((Below.refl _ _).alloc (Nat.le_refl _) _).alloc (by simp) _
 have hs0 : ((w.alloc newInt).alloc newInt).heap.size = w.heap.size + 2 := by simp
 refine (int_lsh _ (w.heap.size + 1) q (M / 2 ^ n) n 76 (heap_alloc2_new w _ _) (hq.int.below hb0) (fun e => by omega) (by omega) (Nat.lt_of_le_of_lt (Nat.div_le_self _ _) hM) (by omega)).mono ?_
 rintro e w3 ⟨he, hI, hg⟩
 have hsz := hg.size
 rw [hs0] at hsz
 refine ⟨he, hb0.trans (below_row hg (by omega) hb0.size), ?_, hI, by omega⟩
 exact (hg.block w.heap.size (by rw [hs0]; omega) (fun e => by injection e with e; omega)).trans (heap_alloc2_old w _ _)
theorem same_bits (M n : Nat) (h : 0 < M / 2 ^ n * 2 ^ n) (k : Nat) (hk : M / 2 ^ n * 2 ^ n < B64 ^ k) : M < B64 ^ k := by
 rw [B64_pow] at *
 have h1 : 0 < M / 2 ^ n := Nat.pos_of_mul_pos_right h
 have hp := Nat.two_pow_pos n
 by_cases hnk : n ≤ 64 * k
 ·obtain ⟨d, hd⟩ : ∃ d, 64 * k = n + d := ⟨64 * k - n, by omega⟩
  have e : 2 ^ (64 * k) = 2 ^ d * 2 ^ n := by rw [hd, Nat.pow_add, Nat.mul_comm]
  rw [e] at hk ⊢
  have h2 := Nat.lt_of_mul_lt_mul_right hk
  rw [Nat.div_lt_iff_lt_mul hp] at h2
  exact h2
 ·exfalso
  have h3 : 2 ^ n ≤ M / 2 ^ n * 2 ^ n := Nat.le_mul_of_pos_left _ h1
  have h4 := Nat.pow_le_pow_right (show 0 < 2 by decide) (show 64 * k ≤ n by omega)
  omega
theorem told_sub (w w3 : World) (p M n : Nat) (hm : IntIs w p M) (h0 : 0 < M) (hM : M < B64 ^ 76) (hb : Below w.heap.size w w3) (hn : IntNew w3 w.heap.size) (hs : IntIs w3 (w.heap.size + 1) (M / 2 ^ n * 2 ^ n)) :
  Calls Tryz.prog 132 #[.pointer (Option.some ⟨w.heap.size, 0, none⟩), .pointer (Option.some ⟨p, 0, none⟩), .pointer (Option.some ⟨w.heap.size + 1, 0, none⟩)] w3 fun e w4 =>
   e = .returned (.pointer (Option.some ⟨w.heap.size, 0, none⟩)) ∧ Below w.heap.size w w4 ∧ IntIs w4 w.heap.size (M % 2 ^ n) := by
 have hle : M / 2 ^ n * 2 ^ n ≤ M := Nat.div_mul_le_self M _
 refine (int_sub w3 w.heap.size p (w.heap.size + 1) M (M / 2 ^ n * 2 ^ n) 76 hn (hm.below hb) hs hle h0 (fun h k hk => same_bits M n h k hk) hM (by omega)).mono ?_
 rintro e w4 ⟨he, hI, hg⟩
 refine ⟨he, hb.trans (below_row hg (Nat.le_refl _) hb.size), ?_⟩
 have hmod : M - M / 2 ^ n * 2 ^ n = M % 2 ^ n := by
  have := Nat.div_add_mod M (2 ^ n)
  rw [Nat.mul_comm] at this
  omega
 rw [← hmod]
 exact hI
theorem told_half (w w1 : World) (pn n : Nat) (hb : Below (w.alloc newInt).heap.size (w.alloc newInt) w1) (h1 : IntIs w1 pn 1) (hn : n ≤ 5000) :
  Calls Tryz.prog 133 #[.pointer (Option.some ⟨w.heap.size, 0, none⟩), .pointer (Option.some ⟨pn, 0, none⟩), .int .u64 (n : Nat)] w1 fun e w3 =>
   e = .returned (.pointer (Option.some ⟨w.heap.size, 0, none⟩)) ∧ Below w.heap.size w w3 ∧ IntIs w3 w.heap.size (2 ^ n) := by
 have hb0 : Below w.heap.size w (w.alloc newInt) := (Below.refl _ _).alloc (Nat.le_refl _) _
 have hb1 : Below w.heap.size w w1 := hb0.trans (hb.mono hb0.size)
 refine (int_lsh _ w.heap.size pn 1 n 1 (IntNew.below (intNew_alloc w) hb) h1 (fun e => by omega) (by omega) (by decide) (by omega)).mono ?_
 rintro e w3 ⟨he, hI, hg⟩
 rw [Nat.one_mul] at hI
 exact ⟨he, hb1.trans (below_row hg (Nat.le_refl _) hb1.size), hI⟩
-- TAIL (printed by gen_told.py)
/-- What is told of the rounded Q 2^(n - 2212): is it too great, then none, or the greatest number. -/
def finishB (out neg : Bool) (Q n : Nat) : Nat × Bool := if 3236 < blen Q + n then (bif out then (0, false) else (numB neg 9007199254740991 3183, true)) else (numB neg Q n, true)
theorem finish_out (neg : Bool) (Q n : Nat) (h : 3236 < blen Q + n) : finishB true neg Q n = (0, false) := if_pos h
theorem finish_most (neg : Bool) (Q n : Nat) (h : 3236 < blen Q + n) : finishB false neg Q n = (numB neg 9007199254740991 3183, true) := if_pos h
theorem finish_in (out neg : Bool) (Q n : Nat) (h : ¬ 3236 < blen Q + n) : finishB out neg Q n = (numB neg Q n, true) := if_neg h
theorem blen_le54 (Q : Nat) (h : Q ≤ 9007199254740992) : blen Q ≤ 54 := by
 refine Nat.le_of_not_lt fun hgt => ?_
 have h1 := (isLen_blen Q).2 (by omega)
 have h2 := Nat.pow_le_pow_right (show 0 < 2 by decide) (show 54 ≤ blen Q - 1 by omega)
 omega
theorem blen_ge53 (Q : Nat) (h : 4503599627370496 ≤ Q) : 53 ≤ blen Q := by
 refine Nat.le_of_not_lt fun hgt => ?_
 have h1 := (isLen_blen Q).1
 have h2 := Nat.pow_le_pow_right (show 0 < 2 by decide) (show blen Q ≤ 52 by omega)
 omega
theorem finish_ok (Q n : Nat) (h : n = 1138 ∨ 4503599627370496 ≤ Q) (hov : ¬ 3236 < blen Q + n) : n ≤ 3183 ∧ (n = 3183 → Q < 9007199254740992) := by
 rcases h with rfl | h
 ·exact ⟨by decide, fun e => absurd e (by decide)⟩
 ·have h1 := blen_ge53 Q h
  refine ⟨by omega, fun e => ?_⟩
  have h2 := (isLen_blen Q).1
  have h3 := Nat.pow_le_pow_right (show 0 < 2 by decide) (show blen Q ≤ 53 by omega)
  omega
theorem quot_bounds (M K n : Nat) (hK : IsLen K M) (hn : n = max (K - 53) 1138) : M / 2 ^ n < 9007199254740992 ∧ (n = 1138 ∨ 4503599627370496 ≤ M / 2 ^ n) := by
 have hp := Nat.two_pow_pos n
 constructor
 ·rw [Nat.div_lt_iff_lt_mul hp, show (9007199254740992 : Nat) = 2 ^ 53 from rfl, ← Nat.pow_add]
  exact Nat.lt_of_lt_of_le hK.1 (Nat.pow_le_pow_right (by decide) (by omega))
 ·by_cases h : n = 1138
  ·exact Or.inl h
  ·right
   rw [Nat.le_div_iff_mul_le hp, show (4503599627370496 : Nat) = 2 ^ 52 from rfl, ← Nat.pow_add]
   exact Nat.le_trans (Nat.pow_le_pow_right (by decide) (by omega)) (hK.2 (by omega))
/-- Is it rounded up, to the nearest? -/
def upN (M n : Nat) : Bool := decide (2 ^ (n - 1) < M % 2 ^ n) || (M % 2 ^ n == 2 ^ (n - 1) && M / 2 ^ n % 2 == 1)
set_option maxHeartbeats 8000000 in
theorem told_near (w : World) (p M n K : Nat) (neg : Bool) (h : IntIs w p M) (h0 : 0 < M) (hM : M < B64 ^ 76) (hK : IsLen K M) (hn : n = max (K - 53) 1138) :
  Calls Tryz.prog 112 #[.int .i64 0, .bool neg, .pointer (Option.some ⟨p, 0, none⟩), .int .i64 (-2212), .bool false] w fun e w' => e = .returned (.tuple #[.float .f64 (finishB true neg (M / 2 ^ n + (upN M n).toNat) n).1, .bool (finishB true neg (M / 2 ^ n + (upN M n).toNat) n).2]) ∧ Below w.heap.size w w' := by
 have hs := (int_sign w p M h)
 rw [show (M : Int).sign = 1 from Int.sign_eq_one_of_pos (by omega)] at hs
 have hK2 : K ≤ 4864 := by
  refine Nat.le_of_not_lt fun hgt => ?_
  have h1 := hK.2 (by omega)
  have h2 := Nat.pow_le_pow_right (show 0 < 2 by decide) (show 64 * 76 ≤ K - 1 by omega)
  rw [B64_pow] at hM
  omega
 have hb := int_bitLen w p M K h hK (by omega)
 obtain ⟨low, hlow⟩ : ∃ low : Int, low = (n : Int) - 2212 := ⟨_, rfl⟩
 have hn1 : 1138 ≤ n := by omega
 have hn2 : n ≤ 4811 := by omega
 have hmax : max ((K : Int) + -2212 - 53) (-1074) = low := by omega
 have hL : low + 2212 = (n : Nat) := by omega
 have hL1 : -1074 ≤ low := by omega
 have hL2 : low ≤ 3000 := by omega
 obtain ⟨hq1, hq2⟩ := quot_bounds M K n hK hn
 have HM := Lib.hid hM
 have HQ1 := Lib.hid hq1
 have HQ2 := Lib.hid hq2
 have HL := Lib.hid hlow
 have hnb : (M / 2 ^ n) + 1 < B64 := by unfold B64; omega
 have HNB := Lib.hid hnb
 clear hK hM hn hlow hq1 hq2 hnb
 have hn1i : (n : Int) - 1 = ((n - 1 : Nat) : Int) := by omega
 go_enter Tryz.func112, Tryz.ntmps112
 go_wp2_with fail
 refine hs.mono ?_
 rintro e w1 ⟨rfl, rfl⟩
 go_wp2_with fail
 refine hb.mono ?_
 rintro e w1 ⟨rfl, rfl⟩
 go_wp2_with fail
 refine (int_rsh (w1.alloc newInt) w1.heap.size p M n 76 (intNew_alloc w1) (h.alloc _) (by omega) (by omega) HM.out (by omega)).mono ?_
 rintro e w2 ⟨rfl, hq, hg⟩
 have hb2 := below_new hg
 have hm2 := h.below hb2
 rw [show (w1.alloc newInt).heap.size = w1.heap.size + 1 by simp] at hq
 clear hg hs hb h
 go_wp2_with fail
 refine (told_lsh w2 p w1.heap.size M n _ hm2 hq HM.out (by omega) (by omega)).mono ?_
 rintro e w3 ⟨rfl, hb3, hnew3, hI3, hsz3⟩
 go_wp2_with fail
 refine (told_sub w2 w3 p M n hm2 h0 HM.out hb3 hnew3 hI3).mono ?_
 rintro e w4 ⟨rfl, hb4, hI4⟩
 have hq4 := hq.below hb4
 have hm4 := hm2.below hb4
 have hbw4 := hb2.trans (hb4.mono hb2.size)
 have hlt24 : w2.heap.size < w4.heap.size := hI4.lt
 have hlt12 := hq.int.lt
 clear hq hm2 hb4 hb3 hnew3 hI3 hsz3 hb2
 go_wp2_with fail
 refine (newInt_one (w4.alloc newInt)).mono ?_
 rintro e w5 ⟨⟨pn, hpn, rfl, hpn1⟩, hb5⟩
 go_wp2_with fail
 refine (told_half w4 w5 pn (n - 1) hb5 hpn1 (by omega)).mono ?_
 rintro e w6 ⟨rfl, hb6, hI6⟩
 have hI46 := hI4.below hb6
 have hq6 := hq4.below hb6
 have hbw6 := hbw4.trans (hb6.mono hbw4.size)
 clear hq4 hm4 hb5 hpn1 hb6 hI4 hbw4
 go_wp2_with fail
 refine (int_cmp w6 w2.heap.size w4.heap.size (M % 2 ^ n) (2 ^ (n - 1)) hI46 hI6 (by omega)).mono ?_
 rintro e w7' ⟨rfl, j7, rfl⟩
 have hq7 : IntIsN (w1.heap.size + 1) (w6.drewN j7) w1.heap.size (M / 2 ^ n) := hq6.below (below_drewN _ _)
 have hr7 : IntIs (w6.drewN j7) w2.heap.size (M % 2 ^ n) := hI46.below (below_drewN _ _)
 have hb7 : Below w1.heap.size w1 (w6.drewN j7) := hbw6.trans ((below_drewN w6 j7).mono hbw6.size)
 clear hq6 hI46 hI6 hbw6
 generalize w6.drewN j7 = w7 at *
 rcases Nat.lt_trichotomy (M % 2 ^ n) (2 ^ (n - 1)) with hc | hc | hc
 ·have hup : upN M n = false := by unfold upN; rw [decide_eq_false (by omega), beq_eq_false_iff_ne.2 (by omega)]; rfl
  rw [cmpN_lt hc]
  clear hc
  have hq9 := hq7.int
  have hbw9 := hb7
  have hQ1 : M / 2 ^ n ≤ 9007199254740992 := Nat.le_of_lt HQ1.out
  have hQ2 := HQ2.out
  clear hb7 hq7 hr7
  generalize hQd : M / 2 ^ n = Q at hq9 hQ1 hQ2
  have FIN := Lib.hid (show M / 2 ^ n + (upN M n).toNat = Q from by rw [hup]; exact hQd)
  clear hQd hup
  obtain ⟨w9, rfl⟩ : ∃ w9 : World, w9 = w7 := ⟨_, rfl⟩
  have hlenQ := isLen_blen Q
  have hkb : blen Q ≤ 54 := blen_le54 Q hQ1
  have hbl := int_bitLen w9 w1.heap.size Q (blen Q) hq9 hlenQ (by omega)
  clear hlenQ
  go_wp2_with fail
  refine hbl.mono ?_
  rintro e w10 ⟨rfl, rfl⟩
  clear hbl
  by_cases hov : 3236 < blen Q + n
  ·have hov' : (1024 : Int) < (blen Q : Int) + low := by have := HL.out; omega
   have HF := Lib.hid (finish_out neg Q n hov)
   clear hov
   go_wp2_with fail
   go_ret2
   exact ⟨by rw [FIN.out, HF.out]; rfl, hbw9⟩
  ·have hov' : decide ((1024 : Int) < (blen Q : Int) + low) = false := by have := HL.out; simp; omega
   have HF := Lib.hid (finish_in true neg Q n hov)
   obtain ⟨hn3, hn4⟩ := finish_ok Q n hQ2 hov
   have hnum := number_any w10 w1.heap.size Q n neg hq9 hQ1 hn1 hQ2 hn3 hn4
   rw [← HL.out] at hnum
   clear hov hn3 hn4 hq9 hQ1 hQ2
   go_wp2_with fail
   refine hnum.mono ?_
   rintro e w12 ⟨rfl, hb12⟩
   go_wp2_with fail
   go_ret2
   exact ⟨by rw [FIN.out, HF.out]; rfl, hbw9.trans (hb12.mono hbw9.size)⟩

 ·rw [cmpN_eq hc]
  have hbit := int_bit w7 w1.heap.size (M / 2 ^ n) hq7.int
  by_cases hodd : M / 2 ^ n % 2 = 1
  ·have hup : upN M n = true := by unfold upN; rw [decide_eq_false (by omega), beq_iff_eq.2 hc, hodd]; rfl
   rw [hodd] at hbit
   clear hc hodd
   go_wp2_with fail
   refine hbit.mono ?_
   rintro e w7 ⟨rfl, rfl⟩
   clear hbit
   go_wp2_with fail
   refine (newInt_one w7).mono ?_
   rintro e w8 ⟨⟨pn2, hpn2, rfl, hpn3⟩, hb8⟩
   go_wp2_with fail
   refine (int_add_one w8 w1.heap.size pn2 (w1.heap.size + 1) (M / 2 ^ n) (hq7.below hb8) hpn3 HNB.out).mono ?_
   rintro e w9 ⟨rfl, hq9, hb9⟩
   have hbw9 := (hb7.trans (hb8.mono hb7.size)).trans (hb9 w1.heap.size (by omega) (Nat.le_refl _))
   have hQ1 : M / 2 ^ n + 1 ≤ 9007199254740992 := HQ1.out
   have hQ2 : n = 1138 ∨ 4503599627370496 ≤ M / 2 ^ n + 1 := by have := HQ2.out; omega
   clear hb8 hpn3 hb9 hb7 hq7 hr7
   generalize hQd : M / 2 ^ n + 1 = Q at hq9 hQ1 hQ2
   have FIN := Lib.hid (show M / 2 ^ n + (upN M n).toNat = Q from by rw [hup]; exact hQd)
   clear hQd hup
   have hlenQ := isLen_blen Q
   have hkb : blen Q ≤ 54 := blen_le54 Q hQ1
   have hbl := int_bitLen w9 w1.heap.size Q (blen Q) hq9 hlenQ (by omega)
   clear hlenQ
   go_wp2_with fail
   refine hbl.mono ?_
   rintro e w10 ⟨rfl, rfl⟩
   clear hbl
   by_cases hov : 3236 < blen Q + n
   ·have hov' : (1024 : Int) < (blen Q : Int) + low := by have := HL.out; omega
    have HF := Lib.hid (finish_out neg Q n hov)
    clear hov
    go_wp2_with fail
    go_ret2
    exact ⟨by rw [FIN.out, HF.out]; rfl, hbw9⟩
   ·have hov' : decide ((1024 : Int) < (blen Q : Int) + low) = false := by have := HL.out; simp; omega
    have HF := Lib.hid (finish_in true neg Q n hov)
    obtain ⟨hn3, hn4⟩ := finish_ok Q n hQ2 hov
    have hnum := number_any w10 w1.heap.size Q n neg hq9 hQ1 hn1 hQ2 hn3 hn4
    rw [← HL.out] at hnum
    clear hov hn3 hn4 hq9 hQ1 hQ2
    go_wp2_with fail
    refine hnum.mono ?_
    rintro e w12 ⟨rfl, hb12⟩
    go_wp2_with fail
    go_ret2
    exact ⟨by rw [FIN.out, HF.out]; rfl, hbw9.trans (hb12.mono hbw9.size)⟩

  ·have hup : upN M n = false := by unfold upN; rw [decide_eq_false (by omega), beq_eq_false_iff_ne.2 hodd, Bool.and_false]; rfl
   rw [show M / 2 ^ n % 2 = 0 by omega] at hbit
   clear hc hodd
   go_wp2_with fail
   refine hbit.mono ?_
   rintro e w7 ⟨rfl, rfl⟩
   clear hbit
   have hq9 := hq7.int
   have hbw9 := hb7
   have hQ1 : M / 2 ^ n ≤ 9007199254740992 := Nat.le_of_lt HQ1.out
   have hQ2 := HQ2.out
   clear hb7 hq7 hr7
   generalize hQd : M / 2 ^ n = Q at hq9 hQ1 hQ2
   have FIN := Lib.hid (show M / 2 ^ n + (upN M n).toNat = Q from by rw [hup]; exact hQd)
   clear hQd hup
   obtain ⟨w9, rfl⟩ : ∃ w9 : World, w9 = w7 := ⟨_, rfl⟩
   have hlenQ := isLen_blen Q
   have hkb : blen Q ≤ 54 := blen_le54 Q hQ1
   have hbl := int_bitLen w9 w1.heap.size Q (blen Q) hq9 hlenQ (by omega)
   clear hlenQ
   go_wp2_with fail
   refine hbl.mono ?_
   rintro e w10 ⟨rfl, rfl⟩
   clear hbl
   by_cases hov : 3236 < blen Q + n
   ·have hov' : (1024 : Int) < (blen Q : Int) + low := by have := HL.out; omega
    have HF := Lib.hid (finish_out neg Q n hov)
    clear hov
    go_wp2_with fail
    go_ret2
    exact ⟨by rw [FIN.out, HF.out]; rfl, hbw9⟩
   ·have hov' : decide ((1024 : Int) < (blen Q : Int) + low) = false := by have := HL.out; simp; omega
    have HF := Lib.hid (finish_in true neg Q n hov)
    obtain ⟨hn3, hn4⟩ := finish_ok Q n hQ2 hov
    have hnum := number_any w10 w1.heap.size Q n neg hq9 hQ1 hn1 hQ2 hn3 hn4
    rw [← HL.out] at hnum
    clear hov hn3 hn4 hq9 hQ1 hQ2
    go_wp2_with fail
    refine hnum.mono ?_
    rintro e w12 ⟨rfl, hb12⟩
    go_wp2_with fail
    go_ret2
    exact ⟨by rw [FIN.out, HF.out]; rfl, hbw9.trans (hb12.mono hbw9.size)⟩

 ·have hup : upN M n = true := by unfold upN; rw [decide_eq_true hc]; rfl
  rw [cmpN_gt hc]
  clear hc
  go_wp2_with fail
  refine (newInt_one w7).mono ?_
  rintro e w8 ⟨⟨pn2, hpn2, rfl, hpn3⟩, hb8⟩
  go_wp2_with fail
  refine (int_add_one w8 w1.heap.size pn2 (w1.heap.size + 1) (M / 2 ^ n) (hq7.below hb8) hpn3 HNB.out).mono ?_
  rintro e w9 ⟨rfl, hq9, hb9⟩
  have hbw9 := (hb7.trans (hb8.mono hb7.size)).trans (hb9 w1.heap.size (by omega) (Nat.le_refl _))
  have hQ1 : M / 2 ^ n + 1 ≤ 9007199254740992 := HQ1.out
  have hQ2 : n = 1138 ∨ 4503599627370496 ≤ M / 2 ^ n + 1 := by have := HQ2.out; omega
  clear hb8 hpn3 hb9 hb7 hq7 hr7
  generalize hQd : M / 2 ^ n + 1 = Q at hq9 hQ1 hQ2
  have FIN := Lib.hid (show M / 2 ^ n + (upN M n).toNat = Q from by rw [hup]; exact hQd)
  clear hQd hup
  have hlenQ := isLen_blen Q
  have hkb : blen Q ≤ 54 := blen_le54 Q hQ1
  have hbl := int_bitLen w9 w1.heap.size Q (blen Q) hq9 hlenQ (by omega)
  clear hlenQ
  go_wp2_with fail
  refine hbl.mono ?_
  rintro e w10 ⟨rfl, rfl⟩
  clear hbl
  by_cases hov : 3236 < blen Q + n
  ·have hov' : (1024 : Int) < (blen Q : Int) + low := by have := HL.out; omega
   have HF := Lib.hid (finish_out neg Q n hov)
   clear hov
   go_wp2_with fail
   go_ret2
   exact ⟨by rw [FIN.out, HF.out]; rfl, hbw9⟩
  ·have hov' : decide ((1024 : Int) < (blen Q : Int) + low) = false := by have := HL.out; simp; omega
   have HF := Lib.hid (finish_in true neg Q n hov)
   obtain ⟨hn3, hn4⟩ := finish_ok Q n hQ2 hov
   have hnum := number_any w10 w1.heap.size Q n neg hq9 hQ1 hn1 hQ2 hn3 hn4
   rw [← HL.out] at hnum
   clear hov hn3 hn4 hq9 hQ1 hQ2
   go_wp2_with fail
   refine hnum.mono ?_
   rintro e w12 ⟨rfl, hb12⟩
   go_wp2_with fail
   go_ret2
   exact ⟨by rw [FIN.out, HF.out]; rfl, hbw9.trans (hb12.mono hbw9.size)⟩


/-- .. upwards or downwards, where 'out': from 0 away. -/
def upF (out : Bool) (M n : Nat) : Bool := out && decide (0 < M % 2 ^ n)
set_option maxHeartbeats 8000000 in
theorem told_1_false (w : World) (p M n K : Nat) (h : IntIs w p M) (h0 : 0 < M) (hM : M < B64 ^ 76) (hK : IsLen K M) (hn : n = max (K - 53) 1138) :
  Calls Tryz.prog 112 #[.int .i64 1, .bool false, .pointer (Option.some ⟨p, 0, none⟩), .int .i64 (-2212), .bool false] w fun e w' => e = .returned (.tuple #[.float .f64 (finishB true false (M / 2 ^ n + (upF true M n).toNat) n).1, .bool (finishB true false (M / 2 ^ n + (upF true M n).toNat) n).2]) ∧ Below w.heap.size w w' := by
 have hs := (int_sign w p M h)
 rw [show (M : Int).sign = 1 from Int.sign_eq_one_of_pos (by omega)] at hs
 have hK2 : K ≤ 4864 := by
  refine Nat.le_of_not_lt fun hgt => ?_
  have h1 := hK.2 (by omega)
  have h2 := Nat.pow_le_pow_right (show 0 < 2 by decide) (show 64 * 76 ≤ K - 1 by omega)
  rw [B64_pow] at hM
  omega
 have hb := int_bitLen w p M K h hK (by omega)
 obtain ⟨low, hlow⟩ : ∃ low : Int, low = (n : Int) - 2212 := ⟨_, rfl⟩
 have hn1 : 1138 ≤ n := by omega
 have hn2 : n ≤ 4811 := by omega
 have hmax : max ((K : Int) + -2212 - 53) (-1074) = low := by omega
 have hL : low + 2212 = (n : Nat) := by omega
 have hL1 : -1074 ≤ low := by omega
 have hL2 : low ≤ 3000 := by omega
 obtain ⟨hq1, hq2⟩ := quot_bounds M K n hK hn
 have HM := Lib.hid hM
 have HQ1 := Lib.hid hq1
 have HQ2 := Lib.hid hq2
 have HL := Lib.hid hlow
 have hnb : (M / 2 ^ n) + 1 < B64 := by unfold B64; omega
 have HNB := Lib.hid hnb
 clear hK hM hn hlow hq1 hq2 hnb
 have hn1i : (n : Int) - 1 = ((n - 1 : Nat) : Int) := by omega
 go_enter Tryz.func112, Tryz.ntmps112
 go_wp2_with fail
 refine hs.mono ?_
 rintro e w1 ⟨rfl, rfl⟩
 go_wp2_with fail
 refine hb.mono ?_
 rintro e w1 ⟨rfl, rfl⟩
 go_wp2_with fail
 refine (int_rsh (w1.alloc newInt) w1.heap.size p M n 76 (intNew_alloc w1) (h.alloc _) (by omega) (by omega) HM.out (by omega)).mono ?_
 rintro e w2 ⟨rfl, hq, hg⟩
 have hb2 := below_new hg
 have hm2 := h.below hb2
 rw [show (w1.alloc newInt).heap.size = w1.heap.size + 1 by simp] at hq
 clear hg hs hb h
 go_wp2_with fail
 refine (told_lsh w2 p w1.heap.size M n _ hm2 hq HM.out (by omega) (by omega)).mono ?_
 rintro e w3 ⟨rfl, hb3, hnew3, hI3, hsz3⟩
 go_wp2_with fail
 refine (told_sub w2 w3 p M n hm2 h0 HM.out hb3 hnew3 hI3).mono ?_
 rintro e w4 ⟨rfl, hb4, hI4⟩
 have hq4 := hq.below hb4
 have hm4 := hm2.below hb4
 have hbw4 := hb2.trans (hb4.mono hb2.size)
 have hlt24 : w2.heap.size < w4.heap.size := hI4.lt
 have hlt12 := hq.int.lt
 clear hq hm2 hb4 hb3 hnew3 hI3 hsz3 hb2
 go_wp2_with fail
 refine (newInt_one (w4.alloc newInt)).mono ?_
 rintro e w5 ⟨⟨pn, hpn, rfl, hpn1⟩, hb5⟩
 go_wp2_with fail
 refine (told_half w4 w5 pn (n - 1) hb5 hpn1 (by omega)).mono ?_
 rintro e w6 ⟨rfl, hb6, hI6⟩
 have hI46 := hI4.below hb6
 have hq6 := hq4.below hb6
 have hbw6 := hbw4.trans (hb6.mono hbw4.size)
 clear hq4 hm4 hb5 hpn1 hb6 hI4 hbw4
 go_wp2_with fail
 refine (int_cmp w6 w2.heap.size w4.heap.size (M % 2 ^ n) (2 ^ (n - 1)) hI46 hI6 (by omega)).mono ?_
 rintro e w7' ⟨rfl, j7, rfl⟩
 have hq7 : IntIsN (w1.heap.size + 1) (w6.drewN j7) w1.heap.size (M / 2 ^ n) := hq6.below (below_drewN _ _)
 have hr7 : IntIs (w6.drewN j7) w2.heap.size (M % 2 ^ n) := hI46.below (below_drewN _ _)
 have hb7 : Below w1.heap.size w1 (w6.drewN j7) := hbw6.trans ((below_drewN w6 j7).mono hbw6.size)
 clear hq6 hI46 hI6 hbw6
 generalize w6.drewN j7 = w7 at *
 generalize cmpN (M % 2 ^ n) (2 ^ (n - 1)) = cc at *
 have hsr := int_sign w7 w2.heap.size (M % 2 ^ n) hr7
 go_wp2_with fail
 refine hsr.mono ?_
 rintro e w7 ⟨rfl, rfl⟩
 clear hsr
 by_cases hz : M % 2 ^ n = 0
 ·have hup : upF true M n = false := by unfold upF; rw [hz]; simp
  rw [hz, show ((0 : Nat) : Int).sign = 0 from rfl]
  clear hz
  have hq9 := hq7.int
  have hbw9 := hb7
  have hQ1 : M / 2 ^ n ≤ 9007199254740992 := Nat.le_of_lt HQ1.out
  have hQ2 := HQ2.out
  clear hb7 hq7 hr7
  generalize hQd : M / 2 ^ n = Q at hq9 hQ1 hQ2
  have FIN := Lib.hid (show M / 2 ^ n + (upF true M n).toNat = Q from by rw [hup]; exact hQd)
  clear hQd hup
  obtain ⟨w9, rfl⟩ : ∃ w9 : World, w9 = w7 := ⟨_, rfl⟩
  have hlenQ := isLen_blen Q
  have hkb : blen Q ≤ 54 := blen_le54 Q hQ1
  have hbl := int_bitLen w9 w1.heap.size Q (blen Q) hq9 hlenQ (by omega)
  clear hlenQ
  go_wp2_with fail
  refine hbl.mono ?_
  rintro e w10 ⟨rfl, rfl⟩
  clear hbl
  by_cases hov : 3236 < blen Q + n
  ·have hov' : (1024 : Int) < (blen Q : Int) + low := by have := HL.out; omega
   have HF := Lib.hid (finish_out false Q n hov)
   clear hov
   go_wp2_with fail
   go_ret2
   exact ⟨by rw [FIN.out, HF.out]; rfl, hbw9⟩
  ·have hov' : decide ((1024 : Int) < (blen Q : Int) + low) = false := by have := HL.out; simp; omega
   have HF := Lib.hid (finish_in true false Q n hov)
   obtain ⟨hn3, hn4⟩ := finish_ok Q n hQ2 hov
   have hnum := number_any w10 w1.heap.size Q n false hq9 hQ1 hn1 hQ2 hn3 hn4
   rw [← HL.out] at hnum
   clear hov hn3 hn4 hq9 hQ1 hQ2
   go_wp2_with fail
   refine hnum.mono ?_
   rintro e w12 ⟨rfl, hb12⟩
   go_wp2_with fail
   go_ret2
   exact ⟨by rw [FIN.out, HF.out]; rfl, hbw9.trans (hb12.mono hbw9.size)⟩

 ·have hup : upF true M n = true := by unfold upF; rw [decide_eq_true (by omega), Bool.and_true]
  rw [show ((M % 2 ^ n : Nat) : Int).sign = 1 from Int.sign_eq_one_of_pos (by omega)]
  clear hz
  go_wp2_with fail
  refine (newInt_one w7).mono ?_
  rintro e w8 ⟨⟨pn2, hpn2, rfl, hpn3⟩, hb8⟩
  go_wp2_with fail
  refine (int_add_one w8 w1.heap.size pn2 (w1.heap.size + 1) (M / 2 ^ n) (hq7.below hb8) hpn3 HNB.out).mono ?_
  rintro e w9 ⟨rfl, hq9, hb9⟩
  have hbw9 := (hb7.trans (hb8.mono hb7.size)).trans (hb9 w1.heap.size (by omega) (Nat.le_refl _))
  have hQ1 : M / 2 ^ n + 1 ≤ 9007199254740992 := HQ1.out
  have hQ2 : n = 1138 ∨ 4503599627370496 ≤ M / 2 ^ n + 1 := by have := HQ2.out; omega
  clear hb8 hpn3 hb9 hb7 hq7 hr7
  generalize hQd : M / 2 ^ n + 1 = Q at hq9 hQ1 hQ2
  have FIN := Lib.hid (show M / 2 ^ n + (upF true M n).toNat = Q from by rw [hup]; exact hQd)
  clear hQd hup
  have hlenQ := isLen_blen Q
  have hkb : blen Q ≤ 54 := blen_le54 Q hQ1
  have hbl := int_bitLen w9 w1.heap.size Q (blen Q) hq9 hlenQ (by omega)
  clear hlenQ
  go_wp2_with fail
  refine hbl.mono ?_
  rintro e w10 ⟨rfl, rfl⟩
  clear hbl
  by_cases hov : 3236 < blen Q + n
  ·have hov' : (1024 : Int) < (blen Q : Int) + low := by have := HL.out; omega
   have HF := Lib.hid (finish_out false Q n hov)
   clear hov
   go_wp2_with fail
   go_ret2
   exact ⟨by rw [FIN.out, HF.out]; rfl, hbw9⟩
  ·have hov' : decide ((1024 : Int) < (blen Q : Int) + low) = false := by have := HL.out; simp; omega
   have HF := Lib.hid (finish_in true false Q n hov)
   obtain ⟨hn3, hn4⟩ := finish_ok Q n hQ2 hov
   have hnum := number_any w10 w1.heap.size Q n false hq9 hQ1 hn1 hQ2 hn3 hn4
   rw [← HL.out] at hnum
   clear hov hn3 hn4 hq9 hQ1 hQ2
   go_wp2_with fail
   refine hnum.mono ?_
   rintro e w12 ⟨rfl, hb12⟩
   go_wp2_with fail
   go_ret2
   exact ⟨by rw [FIN.out, HF.out]; rfl, hbw9.trans (hb12.mono hbw9.size)⟩

set_option maxHeartbeats 8000000 in
theorem told_1_true (w : World) (p M n K : Nat) (h : IntIs w p M) (h0 : 0 < M) (hM : M < B64 ^ 76) (hK : IsLen K M) (hn : n = max (K - 53) 1138) :
  Calls Tryz.prog 112 #[.int .i64 1, .bool true, .pointer (Option.some ⟨p, 0, none⟩), .int .i64 (-2212), .bool false] w fun e w' => e = .returned (.tuple #[.float .f64 (finishB false true (M / 2 ^ n + (upF false M n).toNat) n).1, .bool (finishB false true (M / 2 ^ n + (upF false M n).toNat) n).2]) ∧ Below w.heap.size w w' := by
 have hs := (int_sign w p M h)
 rw [show (M : Int).sign = 1 from Int.sign_eq_one_of_pos (by omega)] at hs
 have hK2 : K ≤ 4864 := by
  refine Nat.le_of_not_lt fun hgt => ?_
  have h1 := hK.2 (by omega)
  have h2 := Nat.pow_le_pow_right (show 0 < 2 by decide) (show 64 * 76 ≤ K - 1 by omega)
  rw [B64_pow] at hM
  omega
 have hb := int_bitLen w p M K h hK (by omega)
 obtain ⟨low, hlow⟩ : ∃ low : Int, low = (n : Int) - 2212 := ⟨_, rfl⟩
 have hn1 : 1138 ≤ n := by omega
 have hn2 : n ≤ 4811 := by omega
 have hmax : max ((K : Int) + -2212 - 53) (-1074) = low := by omega
 have hL : low + 2212 = (n : Nat) := by omega
 have hL1 : -1074 ≤ low := by omega
 have hL2 : low ≤ 3000 := by omega
 obtain ⟨hq1, hq2⟩ := quot_bounds M K n hK hn
 have HM := Lib.hid hM
 have HQ1 := Lib.hid hq1
 have HQ2 := Lib.hid hq2
 have HL := Lib.hid hlow
 have hnb : (M / 2 ^ n) + 1 < B64 := by unfold B64; omega
 have HNB := Lib.hid hnb
 clear hK hM hn hlow hq1 hq2 hnb
 have hn1i : (n : Int) - 1 = ((n - 1 : Nat) : Int) := by omega
 go_enter Tryz.func112, Tryz.ntmps112
 go_wp2_with fail
 refine hs.mono ?_
 rintro e w1 ⟨rfl, rfl⟩
 go_wp2_with fail
 refine hb.mono ?_
 rintro e w1 ⟨rfl, rfl⟩
 go_wp2_with fail
 refine (int_rsh (w1.alloc newInt) w1.heap.size p M n 76 (intNew_alloc w1) (h.alloc _) (by omega) (by omega) HM.out (by omega)).mono ?_
 rintro e w2 ⟨rfl, hq, hg⟩
 have hb2 := below_new hg
 have hm2 := h.below hb2
 rw [show (w1.alloc newInt).heap.size = w1.heap.size + 1 by simp] at hq
 clear hg hs hb h
 go_wp2_with fail
 refine (told_lsh w2 p w1.heap.size M n _ hm2 hq HM.out (by omega) (by omega)).mono ?_
 rintro e w3 ⟨rfl, hb3, hnew3, hI3, hsz3⟩
 go_wp2_with fail
 refine (told_sub w2 w3 p M n hm2 h0 HM.out hb3 hnew3 hI3).mono ?_
 rintro e w4 ⟨rfl, hb4, hI4⟩
 have hq4 := hq.below hb4
 have hm4 := hm2.below hb4
 have hbw4 := hb2.trans (hb4.mono hb2.size)
 have hlt24 : w2.heap.size < w4.heap.size := hI4.lt
 have hlt12 := hq.int.lt
 clear hq hm2 hb4 hb3 hnew3 hI3 hsz3 hb2
 go_wp2_with fail
 refine (newInt_one (w4.alloc newInt)).mono ?_
 rintro e w5 ⟨⟨pn, hpn, rfl, hpn1⟩, hb5⟩
 go_wp2_with fail
 refine (told_half w4 w5 pn (n - 1) hb5 hpn1 (by omega)).mono ?_
 rintro e w6 ⟨rfl, hb6, hI6⟩
 have hI46 := hI4.below hb6
 have hq6 := hq4.below hb6
 have hbw6 := hbw4.trans (hb6.mono hbw4.size)
 clear hq4 hm4 hb5 hpn1 hb6 hI4 hbw4
 go_wp2_with fail
 refine (int_cmp w6 w2.heap.size w4.heap.size (M % 2 ^ n) (2 ^ (n - 1)) hI46 hI6 (by omega)).mono ?_
 rintro e w7' ⟨rfl, j7, rfl⟩
 have hq7 : IntIsN (w1.heap.size + 1) (w6.drewN j7) w1.heap.size (M / 2 ^ n) := hq6.below (below_drewN _ _)
 have hr7 : IntIs (w6.drewN j7) w2.heap.size (M % 2 ^ n) := hI46.below (below_drewN _ _)
 have hb7 : Below w1.heap.size w1 (w6.drewN j7) := hbw6.trans ((below_drewN w6 j7).mono hbw6.size)
 clear hq6 hI46 hI6 hbw6
 generalize w6.drewN j7 = w7 at *
 generalize cmpN (M % 2 ^ n) (2 ^ (n - 1)) = cc at *
 have hsr := int_sign w7 w2.heap.size (M % 2 ^ n) hr7
 go_wp2_with fail
 refine hsr.mono ?_
 rintro e w7 ⟨rfl, rfl⟩
 clear hsr
 by_cases hz : M % 2 ^ n = 0
 ·have hup : upF false M n = false := by unfold upF; rw [hz]; simp
  rw [hz, show ((0 : Nat) : Int).sign = 0 from rfl]
  clear hz
  have hq9 := hq7.int
  have hbw9 := hb7
  have hQ1 : M / 2 ^ n ≤ 9007199254740992 := Nat.le_of_lt HQ1.out
  have hQ2 := HQ2.out
  clear hb7 hq7 hr7
  generalize hQd : M / 2 ^ n = Q at hq9 hQ1 hQ2
  have FIN := Lib.hid (show M / 2 ^ n + (upF false M n).toNat = Q from by rw [hup]; exact hQd)
  clear hQd hup
  obtain ⟨w9, rfl⟩ : ∃ w9 : World, w9 = w7 := ⟨_, rfl⟩
  have hlenQ := isLen_blen Q
  have hkb : blen Q ≤ 54 := blen_le54 Q hQ1
  have hbl := int_bitLen w9 w1.heap.size Q (blen Q) hq9 hlenQ (by omega)
  clear hlenQ
  go_wp2_with fail
  refine hbl.mono ?_
  rintro e w10 ⟨rfl, rfl⟩
  clear hbl
  by_cases hov : 3236 < blen Q + n
  ·have hov' : (1024 : Int) < (blen Q : Int) + low := by have := HL.out; omega
   have HF := Lib.hid (finish_most true Q n hov)
   clear hov
   go_wp2_with fail
   refine (int_setUint64 (w10.alloc newInt) w10.heap.size 9007199254740991 (intNew_alloc w10) (by decide) (by decide)).mono ?_
   rintro e w11 ⟨rfl, hI11, hg11⟩
   have hbw11 := hbw9.trans ((below_new hg11).mono hbw9.size)
   have hnum := number_any w11 w10.heap.size 9007199254740991 3183 true hI11 (by decide) (by decide) (Or.inr (by decide)) (by decide) (fun _ => by decide)
   rw [show ((3183 : Nat) : Int) - 2212 = 971 from rfl] at hnum
   clear hI11 hg11 hbw9 hq9
   go_wp2_with fail
   refine hnum.mono ?_
   rintro e w12 ⟨rfl, hb12⟩
   go_wp2_with fail
   go_ret2
   exact ⟨by rw [FIN.out, HF.out]; rfl, hbw11.trans (hb12.mono hbw11.size)⟩
  ·have hov' : decide ((1024 : Int) < (blen Q : Int) + low) = false := by have := HL.out; simp; omega
   have HF := Lib.hid (finish_in false true Q n hov)
   obtain ⟨hn3, hn4⟩ := finish_ok Q n hQ2 hov
   have hnum := number_any w10 w1.heap.size Q n true hq9 hQ1 hn1 hQ2 hn3 hn4
   rw [← HL.out] at hnum
   clear hov hn3 hn4 hq9 hQ1 hQ2
   go_wp2_with fail
   refine hnum.mono ?_
   rintro e w12 ⟨rfl, hb12⟩
   go_wp2_with fail
   go_ret2
   exact ⟨by rw [FIN.out, HF.out]; rfl, hbw9.trans (hb12.mono hbw9.size)⟩

 ·have hup : upF false M n = false := by unfold upF; rw [decide_eq_true (by omega), Bool.and_true]
  rw [show ((M % 2 ^ n : Nat) : Int).sign = 1 from Int.sign_eq_one_of_pos (by omega)]
  clear hz
  have hq9 := hq7.int
  have hbw9 := hb7
  have hQ1 : M / 2 ^ n ≤ 9007199254740992 := Nat.le_of_lt HQ1.out
  have hQ2 := HQ2.out
  clear hb7 hq7 hr7
  generalize hQd : M / 2 ^ n = Q at hq9 hQ1 hQ2
  have FIN := Lib.hid (show M / 2 ^ n + (upF false M n).toNat = Q from by rw [hup]; exact hQd)
  clear hQd hup
  obtain ⟨w9, rfl⟩ : ∃ w9 : World, w9 = w7 := ⟨_, rfl⟩
  have hlenQ := isLen_blen Q
  have hkb : blen Q ≤ 54 := blen_le54 Q hQ1
  have hbl := int_bitLen w9 w1.heap.size Q (blen Q) hq9 hlenQ (by omega)
  clear hlenQ
  go_wp2_with fail
  refine hbl.mono ?_
  rintro e w10 ⟨rfl, rfl⟩
  clear hbl
  by_cases hov : 3236 < blen Q + n
  ·have hov' : (1024 : Int) < (blen Q : Int) + low := by have := HL.out; omega
   have HF := Lib.hid (finish_most true Q n hov)
   clear hov
   go_wp2_with fail
   refine (int_setUint64 (w10.alloc newInt) w10.heap.size 9007199254740991 (intNew_alloc w10) (by decide) (by decide)).mono ?_
   rintro e w11 ⟨rfl, hI11, hg11⟩
   have hbw11 := hbw9.trans ((below_new hg11).mono hbw9.size)
   have hnum := number_any w11 w10.heap.size 9007199254740991 3183 true hI11 (by decide) (by decide) (Or.inr (by decide)) (by decide) (fun _ => by decide)
   rw [show ((3183 : Nat) : Int) - 2212 = 971 from rfl] at hnum
   clear hI11 hg11 hbw9 hq9
   go_wp2_with fail
   refine hnum.mono ?_
   rintro e w12 ⟨rfl, hb12⟩
   go_wp2_with fail
   go_ret2
   exact ⟨by rw [FIN.out, HF.out]; rfl, hbw11.trans (hb12.mono hbw11.size)⟩
  ·have hov' : decide ((1024 : Int) < (blen Q : Int) + low) = false := by have := HL.out; simp; omega
   have HF := Lib.hid (finish_in false true Q n hov)
   obtain ⟨hn3, hn4⟩ := finish_ok Q n hQ2 hov
   have hnum := number_any w10 w1.heap.size Q n true hq9 hQ1 hn1 hQ2 hn3 hn4
   rw [← HL.out] at hnum
   clear hov hn3 hn4 hq9 hQ1 hQ2
   go_wp2_with fail
   refine hnum.mono ?_
   rintro e w12 ⟨rfl, hb12⟩
   go_wp2_with fail
   go_ret2
   exact ⟨by rw [FIN.out, HF.out]; rfl, hbw9.trans (hb12.mono hbw9.size)⟩

set_option maxHeartbeats 8000000 in
theorem told_2_false (w : World) (p M n K : Nat) (h : IntIs w p M) (h0 : 0 < M) (hM : M < B64 ^ 76) (hK : IsLen K M) (hn : n = max (K - 53) 1138) :
  Calls Tryz.prog 112 #[.int .i64 2, .bool false, .pointer (Option.some ⟨p, 0, none⟩), .int .i64 (-2212), .bool false] w fun e w' => e = .returned (.tuple #[.float .f64 (finishB false false (M / 2 ^ n + (upF false M n).toNat) n).1, .bool (finishB false false (M / 2 ^ n + (upF false M n).toNat) n).2]) ∧ Below w.heap.size w w' := by
 have hs := (int_sign w p M h)
 rw [show (M : Int).sign = 1 from Int.sign_eq_one_of_pos (by omega)] at hs
 have hK2 : K ≤ 4864 := by
  refine Nat.le_of_not_lt fun hgt => ?_
  have h1 := hK.2 (by omega)
  have h2 := Nat.pow_le_pow_right (show 0 < 2 by decide) (show 64 * 76 ≤ K - 1 by omega)
  rw [B64_pow] at hM
  omega
 have hb := int_bitLen w p M K h hK (by omega)
 obtain ⟨low, hlow⟩ : ∃ low : Int, low = (n : Int) - 2212 := ⟨_, rfl⟩
 have hn1 : 1138 ≤ n := by omega
 have hn2 : n ≤ 4811 := by omega
 have hmax : max ((K : Int) + -2212 - 53) (-1074) = low := by omega
 have hL : low + 2212 = (n : Nat) := by omega
 have hL1 : -1074 ≤ low := by omega
 have hL2 : low ≤ 3000 := by omega
 obtain ⟨hq1, hq2⟩ := quot_bounds M K n hK hn
 have HM := Lib.hid hM
 have HQ1 := Lib.hid hq1
 have HQ2 := Lib.hid hq2
 have HL := Lib.hid hlow
 have hnb : (M / 2 ^ n) + 1 < B64 := by unfold B64; omega
 have HNB := Lib.hid hnb
 clear hK hM hn hlow hq1 hq2 hnb
 have hn1i : (n : Int) - 1 = ((n - 1 : Nat) : Int) := by omega
 go_enter Tryz.func112, Tryz.ntmps112
 go_wp2_with fail
 refine hs.mono ?_
 rintro e w1 ⟨rfl, rfl⟩
 go_wp2_with fail
 refine hb.mono ?_
 rintro e w1 ⟨rfl, rfl⟩
 go_wp2_with fail
 refine (int_rsh (w1.alloc newInt) w1.heap.size p M n 76 (intNew_alloc w1) (h.alloc _) (by omega) (by omega) HM.out (by omega)).mono ?_
 rintro e w2 ⟨rfl, hq, hg⟩
 have hb2 := below_new hg
 have hm2 := h.below hb2
 rw [show (w1.alloc newInt).heap.size = w1.heap.size + 1 by simp] at hq
 clear hg hs hb h
 go_wp2_with fail
 refine (told_lsh w2 p w1.heap.size M n _ hm2 hq HM.out (by omega) (by omega)).mono ?_
 rintro e w3 ⟨rfl, hb3, hnew3, hI3, hsz3⟩
 go_wp2_with fail
 refine (told_sub w2 w3 p M n hm2 h0 HM.out hb3 hnew3 hI3).mono ?_
 rintro e w4 ⟨rfl, hb4, hI4⟩
 have hq4 := hq.below hb4
 have hm4 := hm2.below hb4
 have hbw4 := hb2.trans (hb4.mono hb2.size)
 have hlt24 : w2.heap.size < w4.heap.size := hI4.lt
 have hlt12 := hq.int.lt
 clear hq hm2 hb4 hb3 hnew3 hI3 hsz3 hb2
 go_wp2_with fail
 refine (newInt_one (w4.alloc newInt)).mono ?_
 rintro e w5 ⟨⟨pn, hpn, rfl, hpn1⟩, hb5⟩
 go_wp2_with fail
 refine (told_half w4 w5 pn (n - 1) hb5 hpn1 (by omega)).mono ?_
 rintro e w6 ⟨rfl, hb6, hI6⟩
 have hI46 := hI4.below hb6
 have hq6 := hq4.below hb6
 have hbw6 := hbw4.trans (hb6.mono hbw4.size)
 clear hq4 hm4 hb5 hpn1 hb6 hI4 hbw4
 go_wp2_with fail
 refine (int_cmp w6 w2.heap.size w4.heap.size (M % 2 ^ n) (2 ^ (n - 1)) hI46 hI6 (by omega)).mono ?_
 rintro e w7' ⟨rfl, j7, rfl⟩
 have hq7 : IntIsN (w1.heap.size + 1) (w6.drewN j7) w1.heap.size (M / 2 ^ n) := hq6.below (below_drewN _ _)
 have hr7 : IntIs (w6.drewN j7) w2.heap.size (M % 2 ^ n) := hI46.below (below_drewN _ _)
 have hb7 : Below w1.heap.size w1 (w6.drewN j7) := hbw6.trans ((below_drewN w6 j7).mono hbw6.size)
 clear hq6 hI46 hI6 hbw6
 generalize w6.drewN j7 = w7 at *
 generalize cmpN (M % 2 ^ n) (2 ^ (n - 1)) = cc at *
 have hsr := int_sign w7 w2.heap.size (M % 2 ^ n) hr7
 go_wp2_with fail
 refine hsr.mono ?_
 rintro e w7 ⟨rfl, rfl⟩
 clear hsr
 by_cases hz : M % 2 ^ n = 0
 ·have hup : upF false M n = false := by unfold upF; rw [hz]; simp
  rw [hz, show ((0 : Nat) : Int).sign = 0 from rfl]
  clear hz
  have hq9 := hq7.int
  have hbw9 := hb7
  have hQ1 : M / 2 ^ n ≤ 9007199254740992 := Nat.le_of_lt HQ1.out
  have hQ2 := HQ2.out
  clear hb7 hq7 hr7
  generalize hQd : M / 2 ^ n = Q at hq9 hQ1 hQ2
  have FIN := Lib.hid (show M / 2 ^ n + (upF false M n).toNat = Q from by rw [hup]; exact hQd)
  clear hQd hup
  obtain ⟨w9, rfl⟩ : ∃ w9 : World, w9 = w7 := ⟨_, rfl⟩
  have hlenQ := isLen_blen Q
  have hkb : blen Q ≤ 54 := blen_le54 Q hQ1
  have hbl := int_bitLen w9 w1.heap.size Q (blen Q) hq9 hlenQ (by omega)
  clear hlenQ
  go_wp2_with fail
  refine hbl.mono ?_
  rintro e w10 ⟨rfl, rfl⟩
  clear hbl
  by_cases hov : 3236 < blen Q + n
  ·have hov' : (1024 : Int) < (blen Q : Int) + low := by have := HL.out; omega
   have HF := Lib.hid (finish_most false Q n hov)
   clear hov
   go_wp2_with fail
   refine (int_setUint64 (w10.alloc newInt) w10.heap.size 9007199254740991 (intNew_alloc w10) (by decide) (by decide)).mono ?_
   rintro e w11 ⟨rfl, hI11, hg11⟩
   have hbw11 := hbw9.trans ((below_new hg11).mono hbw9.size)
   have hnum := number_any w11 w10.heap.size 9007199254740991 3183 false hI11 (by decide) (by decide) (Or.inr (by decide)) (by decide) (fun _ => by decide)
   rw [show ((3183 : Nat) : Int) - 2212 = 971 from rfl] at hnum
   clear hI11 hg11 hbw9 hq9
   go_wp2_with fail
   refine hnum.mono ?_
   rintro e w12 ⟨rfl, hb12⟩
   go_wp2_with fail
   go_ret2
   exact ⟨by rw [FIN.out, HF.out]; rfl, hbw11.trans (hb12.mono hbw11.size)⟩
  ·have hov' : decide ((1024 : Int) < (blen Q : Int) + low) = false := by have := HL.out; simp; omega
   have HF := Lib.hid (finish_in false false Q n hov)
   obtain ⟨hn3, hn4⟩ := finish_ok Q n hQ2 hov
   have hnum := number_any w10 w1.heap.size Q n false hq9 hQ1 hn1 hQ2 hn3 hn4
   rw [← HL.out] at hnum
   clear hov hn3 hn4 hq9 hQ1 hQ2
   go_wp2_with fail
   refine hnum.mono ?_
   rintro e w12 ⟨rfl, hb12⟩
   go_wp2_with fail
   go_ret2
   exact ⟨by rw [FIN.out, HF.out]; rfl, hbw9.trans (hb12.mono hbw9.size)⟩

 ·have hup : upF false M n = false := by unfold upF; rw [decide_eq_true (by omega), Bool.and_true]
  rw [show ((M % 2 ^ n : Nat) : Int).sign = 1 from Int.sign_eq_one_of_pos (by omega)]
  clear hz
  have hq9 := hq7.int
  have hbw9 := hb7
  have hQ1 : M / 2 ^ n ≤ 9007199254740992 := Nat.le_of_lt HQ1.out
  have hQ2 := HQ2.out
  clear hb7 hq7 hr7
  generalize hQd : M / 2 ^ n = Q at hq9 hQ1 hQ2
  have FIN := Lib.hid (show M / 2 ^ n + (upF false M n).toNat = Q from by rw [hup]; exact hQd)
  clear hQd hup
  obtain ⟨w9, rfl⟩ : ∃ w9 : World, w9 = w7 := ⟨_, rfl⟩
  have hlenQ := isLen_blen Q
  have hkb : blen Q ≤ 54 := blen_le54 Q hQ1
  have hbl := int_bitLen w9 w1.heap.size Q (blen Q) hq9 hlenQ (by omega)
  clear hlenQ
  go_wp2_with fail
  refine hbl.mono ?_
  rintro e w10 ⟨rfl, rfl⟩
  clear hbl
  by_cases hov : 3236 < blen Q + n
  ·have hov' : (1024 : Int) < (blen Q : Int) + low := by have := HL.out; omega
   have HF := Lib.hid (finish_most false Q n hov)
   clear hov
   go_wp2_with fail
   refine (int_setUint64 (w10.alloc newInt) w10.heap.size 9007199254740991 (intNew_alloc w10) (by decide) (by decide)).mono ?_
   rintro e w11 ⟨rfl, hI11, hg11⟩
   have hbw11 := hbw9.trans ((below_new hg11).mono hbw9.size)
   have hnum := number_any w11 w10.heap.size 9007199254740991 3183 false hI11 (by decide) (by decide) (Or.inr (by decide)) (by decide) (fun _ => by decide)
   rw [show ((3183 : Nat) : Int) - 2212 = 971 from rfl] at hnum
   clear hI11 hg11 hbw9 hq9
   go_wp2_with fail
   refine hnum.mono ?_
   rintro e w12 ⟨rfl, hb12⟩
   go_wp2_with fail
   go_ret2
   exact ⟨by rw [FIN.out, HF.out]; rfl, hbw11.trans (hb12.mono hbw11.size)⟩
  ·have hov' : decide ((1024 : Int) < (blen Q : Int) + low) = false := by have := HL.out; simp; omega
   have HF := Lib.hid (finish_in false false Q n hov)
   obtain ⟨hn3, hn4⟩ := finish_ok Q n hQ2 hov
   have hnum := number_any w10 w1.heap.size Q n false hq9 hQ1 hn1 hQ2 hn3 hn4
   rw [← HL.out] at hnum
   clear hov hn3 hn4 hq9 hQ1 hQ2
   go_wp2_with fail
   refine hnum.mono ?_
   rintro e w12 ⟨rfl, hb12⟩
   go_wp2_with fail
   go_ret2
   exact ⟨by rw [FIN.out, HF.out]; rfl, hbw9.trans (hb12.mono hbw9.size)⟩

set_option maxHeartbeats 8000000 in
theorem told_2_true (w : World) (p M n K : Nat) (h : IntIs w p M) (h0 : 0 < M) (hM : M < B64 ^ 76) (hK : IsLen K M) (hn : n = max (K - 53) 1138) :
  Calls Tryz.prog 112 #[.int .i64 2, .bool true, .pointer (Option.some ⟨p, 0, none⟩), .int .i64 (-2212), .bool false] w fun e w' => e = .returned (.tuple #[.float .f64 (finishB true true (M / 2 ^ n + (upF true M n).toNat) n).1, .bool (finishB true true (M / 2 ^ n + (upF true M n).toNat) n).2]) ∧ Below w.heap.size w w' := by
 have hs := (int_sign w p M h)
 rw [show (M : Int).sign = 1 from Int.sign_eq_one_of_pos (by omega)] at hs
 have hK2 : K ≤ 4864 := by
  refine Nat.le_of_not_lt fun hgt => ?_
  have h1 := hK.2 (by omega)
  have h2 := Nat.pow_le_pow_right (show 0 < 2 by decide) (show 64 * 76 ≤ K - 1 by omega)
  rw [B64_pow] at hM
  omega
 have hb := int_bitLen w p M K h hK (by omega)
 obtain ⟨low, hlow⟩ : ∃ low : Int, low = (n : Int) - 2212 := ⟨_, rfl⟩
 have hn1 : 1138 ≤ n := by omega
 have hn2 : n ≤ 4811 := by omega
 have hmax : max ((K : Int) + -2212 - 53) (-1074) = low := by omega
 have hL : low + 2212 = (n : Nat) := by omega
 have hL1 : -1074 ≤ low := by omega
 have hL2 : low ≤ 3000 := by omega
 obtain ⟨hq1, hq2⟩ := quot_bounds M K n hK hn
 have HM := Lib.hid hM
 have HQ1 := Lib.hid hq1
 have HQ2 := Lib.hid hq2
 have HL := Lib.hid hlow
 have hnb : (M / 2 ^ n) + 1 < B64 := by unfold B64; omega
 have HNB := Lib.hid hnb
 clear hK hM hn hlow hq1 hq2 hnb
 have hn1i : (n : Int) - 1 = ((n - 1 : Nat) : Int) := by omega
 go_enter Tryz.func112, Tryz.ntmps112
 go_wp2_with fail
 refine hs.mono ?_
 rintro e w1 ⟨rfl, rfl⟩
 go_wp2_with fail
 refine hb.mono ?_
 rintro e w1 ⟨rfl, rfl⟩
 go_wp2_with fail
 refine (int_rsh (w1.alloc newInt) w1.heap.size p M n 76 (intNew_alloc w1) (h.alloc _) (by omega) (by omega) HM.out (by omega)).mono ?_
 rintro e w2 ⟨rfl, hq, hg⟩
 have hb2 := below_new hg
 have hm2 := h.below hb2
 rw [show (w1.alloc newInt).heap.size = w1.heap.size + 1 by simp] at hq
 clear hg hs hb h
 go_wp2_with fail
 refine (told_lsh w2 p w1.heap.size M n _ hm2 hq HM.out (by omega) (by omega)).mono ?_
 rintro e w3 ⟨rfl, hb3, hnew3, hI3, hsz3⟩
 go_wp2_with fail
 refine (told_sub w2 w3 p M n hm2 h0 HM.out hb3 hnew3 hI3).mono ?_
 rintro e w4 ⟨rfl, hb4, hI4⟩
 have hq4 := hq.below hb4
 have hm4 := hm2.below hb4
 have hbw4 := hb2.trans (hb4.mono hb2.size)
 have hlt24 : w2.heap.size < w4.heap.size := hI4.lt
 have hlt12 := hq.int.lt
 clear hq hm2 hb4 hb3 hnew3 hI3 hsz3 hb2
 go_wp2_with fail
 refine (newInt_one (w4.alloc newInt)).mono ?_
 rintro e w5 ⟨⟨pn, hpn, rfl, hpn1⟩, hb5⟩
 go_wp2_with fail
 refine (told_half w4 w5 pn (n - 1) hb5 hpn1 (by omega)).mono ?_
 rintro e w6 ⟨rfl, hb6, hI6⟩
 have hI46 := hI4.below hb6
 have hq6 := hq4.below hb6
 have hbw6 := hbw4.trans (hb6.mono hbw4.size)
 clear hq4 hm4 hb5 hpn1 hb6 hI4 hbw4
 go_wp2_with fail
 refine (int_cmp w6 w2.heap.size w4.heap.size (M % 2 ^ n) (2 ^ (n - 1)) hI46 hI6 (by omega)).mono ?_
 rintro e w7' ⟨rfl, j7, rfl⟩
 have hq7 : IntIsN (w1.heap.size + 1) (w6.drewN j7) w1.heap.size (M / 2 ^ n) := hq6.below (below_drewN _ _)
 have hr7 : IntIs (w6.drewN j7) w2.heap.size (M % 2 ^ n) := hI46.below (below_drewN _ _)
 have hb7 : Below w1.heap.size w1 (w6.drewN j7) := hbw6.trans ((below_drewN w6 j7).mono hbw6.size)
 clear hq6 hI46 hI6 hbw6
 generalize w6.drewN j7 = w7 at *
 generalize cmpN (M % 2 ^ n) (2 ^ (n - 1)) = cc at *
 have hsr := int_sign w7 w2.heap.size (M % 2 ^ n) hr7
 go_wp2_with fail
 refine hsr.mono ?_
 rintro e w7 ⟨rfl, rfl⟩
 clear hsr
 by_cases hz : M % 2 ^ n = 0
 ·have hup : upF true M n = false := by unfold upF; rw [hz]; simp
  rw [hz, show ((0 : Nat) : Int).sign = 0 from rfl]
  clear hz
  have hq9 := hq7.int
  have hbw9 := hb7
  have hQ1 : M / 2 ^ n ≤ 9007199254740992 := Nat.le_of_lt HQ1.out
  have hQ2 := HQ2.out
  clear hb7 hq7 hr7
  generalize hQd : M / 2 ^ n = Q at hq9 hQ1 hQ2
  have FIN := Lib.hid (show M / 2 ^ n + (upF true M n).toNat = Q from by rw [hup]; exact hQd)
  clear hQd hup
  obtain ⟨w9, rfl⟩ : ∃ w9 : World, w9 = w7 := ⟨_, rfl⟩
  have hlenQ := isLen_blen Q
  have hkb : blen Q ≤ 54 := blen_le54 Q hQ1
  have hbl := int_bitLen w9 w1.heap.size Q (blen Q) hq9 hlenQ (by omega)
  clear hlenQ
  go_wp2_with fail
  refine hbl.mono ?_
  rintro e w10 ⟨rfl, rfl⟩
  clear hbl
  by_cases hov : 3236 < blen Q + n
  ·have hov' : (1024 : Int) < (blen Q : Int) + low := by have := HL.out; omega
   have HF := Lib.hid (finish_out true Q n hov)
   clear hov
   go_wp2_with fail
   go_ret2
   exact ⟨by rw [FIN.out, HF.out]; rfl, hbw9⟩
  ·have hov' : decide ((1024 : Int) < (blen Q : Int) + low) = false := by have := HL.out; simp; omega
   have HF := Lib.hid (finish_in true true Q n hov)
   obtain ⟨hn3, hn4⟩ := finish_ok Q n hQ2 hov
   have hnum := number_any w10 w1.heap.size Q n true hq9 hQ1 hn1 hQ2 hn3 hn4
   rw [← HL.out] at hnum
   clear hov hn3 hn4 hq9 hQ1 hQ2
   go_wp2_with fail
   refine hnum.mono ?_
   rintro e w12 ⟨rfl, hb12⟩
   go_wp2_with fail
   go_ret2
   exact ⟨by rw [FIN.out, HF.out]; rfl, hbw9.trans (hb12.mono hbw9.size)⟩

 ·have hup : upF true M n = true := by unfold upF; rw [decide_eq_true (by omega), Bool.and_true]
  rw [show ((M % 2 ^ n : Nat) : Int).sign = 1 from Int.sign_eq_one_of_pos (by omega)]
  clear hz
  go_wp2_with fail
  refine (newInt_one w7).mono ?_
  rintro e w8 ⟨⟨pn2, hpn2, rfl, hpn3⟩, hb8⟩
  go_wp2_with fail
  refine (int_add_one w8 w1.heap.size pn2 (w1.heap.size + 1) (M / 2 ^ n) (hq7.below hb8) hpn3 HNB.out).mono ?_
  rintro e w9 ⟨rfl, hq9, hb9⟩
  have hbw9 := (hb7.trans (hb8.mono hb7.size)).trans (hb9 w1.heap.size (by omega) (Nat.le_refl _))
  have hQ1 : M / 2 ^ n + 1 ≤ 9007199254740992 := HQ1.out
  have hQ2 : n = 1138 ∨ 4503599627370496 ≤ M / 2 ^ n + 1 := by have := HQ2.out; omega
  clear hb8 hpn3 hb9 hb7 hq7 hr7
  generalize hQd : M / 2 ^ n + 1 = Q at hq9 hQ1 hQ2
  have FIN := Lib.hid (show M / 2 ^ n + (upF true M n).toNat = Q from by rw [hup]; exact hQd)
  clear hQd hup
  have hlenQ := isLen_blen Q
  have hkb : blen Q ≤ 54 := blen_le54 Q hQ1
  have hbl := int_bitLen w9 w1.heap.size Q (blen Q) hq9 hlenQ (by omega)
  clear hlenQ
  go_wp2_with fail
  refine hbl.mono ?_
  rintro e w10 ⟨rfl, rfl⟩
  clear hbl
  by_cases hov : 3236 < blen Q + n
  ·have hov' : (1024 : Int) < (blen Q : Int) + low := by have := HL.out; omega
   have HF := Lib.hid (finish_out true Q n hov)
   clear hov
   go_wp2_with fail
   go_ret2
   exact ⟨by rw [FIN.out, HF.out]; rfl, hbw9⟩
  ·have hov' : decide ((1024 : Int) < (blen Q : Int) + low) = false := by have := HL.out; simp; omega
   have HF := Lib.hid (finish_in true true Q n hov)
   obtain ⟨hn3, hn4⟩ := finish_ok Q n hQ2 hov
   have hnum := number_any w10 w1.heap.size Q n true hq9 hQ1 hn1 hQ2 hn3 hn4
   rw [← HL.out] at hnum
   clear hov hn3 hn4 hq9 hQ1 hQ2
   go_wp2_with fail
   refine hnum.mono ?_
   rintro e w12 ⟨rfl, hb12⟩
   go_wp2_with fail
   go_ret2
   exact ⟨by rw [FIN.out, HF.out]; rfl, hbw9.trans (hb12.mono hbw9.size)⟩

end Go.Proofs.YtpfbgenefjhcjaaGreatDoor
