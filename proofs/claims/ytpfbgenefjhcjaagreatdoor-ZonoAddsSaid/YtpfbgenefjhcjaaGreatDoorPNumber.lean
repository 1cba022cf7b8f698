/-
 acc.number: the float of q 2^(n - 2212).
-/
import Derived.Test.YtpfbgenefjhcjaaGreatDoorPIntAll
import Derived.Test.YtpfbgenefjhcjaaGreatDoorPAccPr
namespace Go.Proofs.YtpfbgenefjhcjaaGreatDoor
set_option linter.unusedVariables false
set_option linter.unusedSimpArgs false
open Go Go.RowKit
set_option maxRecDepth 100000
/-- The bits of q 2^(n - 2212), q at most 2^53; n is 1138, or q has 53 bits. -/
def numB (neg : Bool) (q n : Nat) : Nat := if q = 0 then 0 else q + (n - 1138) * 4503599627370496 + (bif neg then 9223372036854775808 else 0)
theorem or_top (u : Nat) (h : u < 9223372036854775808) : bits .or .u64 (u : Int) 9223372036854775808 = ((u + 9223372036854775808 : Nat) : Int) := by
 have h1 := u64_or_nat u 9223372036854775808 (by omega) (by decide)
 have e : u ||| 9223372036854775808 = u + 9223372036854775808 := by
  have := Nat.two_pow_add_eq_or_of_lt (i := 63) h 1
  rw [Nat.or_comm] at this
  rw [show u + 9223372036854775808 = 2 ^ 63 * 1 + u by omega, this]
 rw [e] at h1
 exact h1
theorem or_exp (m E : Nat) (hm : m < 4503599627370496) (hE : E < 2048) : bits .or .u64 (m : Int) ((E : Int) * 4503599627370496) = ((m + E * 4503599627370496 : Nat) : Int) := by
 have h1 := u64_or_nat m (E * 4503599627370496) (by omega) (by omega)
 have e : m ||| E * 4503599627370496 = m + E * 4503599627370496 := by
  have := Nat.two_pow_add_eq_or_of_lt (i := 52) hm E
  rw [Nat.or_comm] at this
  rw [show m + E * 4503599627370496 = 2 ^ 52 * E + m by omega, this, Nat.mul_comm E]
 rw [e] at h1
 exact h1
theorem intNew_alloc (w : World) : IntNew (w.alloc (.cells #[.bool false, .slice none 0 0] 190)) w.heap.size := heap_alloc_new w _
theorem IntIs.alloc {w : World} {p M : Nat} (h : IntIs w p M) (o : Obj) : IntIs (w.alloc o) p M := h.below ((Below.refl _ _).alloc (Nat.le_refl _) _)
set_option maxHeartbeats 1000000 in
theorem number_low (w : World) (p q : Nat) (neg : Bool) (h : IntIs w p q) (h0 : 0 < q) (hq : q < 4503599627370496) :
  Calls Tryz.prog 139 #[.bool neg, .pointer (Option.some ⟨p, 0, none⟩), .int .i64 (-1074)] w fun e w' => e = .returned (.float .f64 (numB neg q 1138)) ∧ Below w.heap.size w w' := by
 have hnum : numB neg q 1138 = q + (bif neg then 9223372036854775808 else 0) := by unfold numB; rw [if_neg (by omega)]; omega
 obtain ⟨k, hk⟩ : ∃ k, k = Lib.bitLen q := ⟨_, rfl⟩
 have hlen := isLen_bitLen q (by unfold B64; omega)
 rw [← hk] at hlen
 have hk52 : k ≤ 52 := by
  refine Nat.le_of_not_lt fun hgt => ?_
  have h1 := hlen.2 (by omega)
  have h2 := Nat.pow_le_pow_right (show 0 < 2 by decide) (show 52 ≤ k - 1 by omega)
  omega
 have hsg : (q : Int).sign = 1 := Int.sign_eq_one_of_pos (by omega)
 have hs := (int_sign w p q h)
 rw [hsg] at hs
 have hb := int_bitLen w p q k h hlen (by omega)
 have hlt : (k : Int) - 53 + (-1074) < -1074 := by omega
 have hl := int_lsh (w.alloc (.cells #[.bool false, .slice none 0 0] 190)) w.heap.size p q 0 1 (intNew_alloc w) (h.alloc _) (fun _ => h0) (by omega) (by rw [Nat.pow_one]; unfold B64; omega) (by omega)
 rw [Nat.pow_zero, Nat.mul_one] at hl
 have HN := Lib.hid hnum
 have HQ := Lib.hid hq
 clear hnum hq hk hlen
 go_enter Tryz.func139, Tryz.ntmps139
 go_wp2_with fail
 refine hs.mono ?_
 rintro e w1 ⟨rfl, rfl⟩
 go_wp2_with fail
 refine hb.mono ?_
 rintro e w1 ⟨rfl, rfl⟩
 go_wp2_with fail
 refine hl.mono ?_
 rintro e w2 ⟨rfl, hI, hg⟩
 have hu := int_uint64 w2 w1.heap.size q hI
 rw [Nat.mod_eq_of_lt (show q < B64 by have := HQ.out; unfold B64; omega)] at hu
 have HB := Lib.hid (below_of_grown (grown_trans (World.grownBy_alloc w1 (Obj.cells #[.bool false, .slice none 0 0] 190) (some w1.heap.size)) hg) (Nat.le_refl _))
 clear hI hg hl hs hb h
 have hd1 : decide ((4503599627370496 : Int) ≤ (q : Int)) = false := by have := HQ.out; simp; omega
 have hd2 : decide (4503599627370496 ≤ q) = false := by have := HQ.out; simp; omega
 have hor := or_top q (by have := HQ.out; omega)
 go_wp2_with fail
 refine hu.mono ?_
 rintro e w3 ⟨rfl, rfl⟩
 clear hu
 cases neg with
 | false =>
  have hf := float_any (q : Int) w3
  rw [Int.toNat_natCast] at hf
  go_wp2_with fail
  refine hf.mono ?_
  rintro e w4 ⟨rfl, rfl⟩
  go_wp2_with fail
  go_ret
  exact ⟨by rw [HN.out]; rfl, HB.out⟩
 | true =>
  have hf := float_any ((q + 9223372036854775808 : Nat) : Int) w3
  rw [Int.toNat_natCast] at hf
  go_wp2_with fail
  refine hf.mono ?_
  rintro e w4 ⟨rfl, rfl⟩
  go_wp2_with fail
  go_ret
  exact ⟨by rw [HN.out]; rfl, HB.out⟩
/-- The float of a significand of 53 bits. -/
theorem exp_wrap (e : Int) (E : Nat) (h : e + 1075 = (E : Int)) (hE : E < 2048) : IntKind.u64.wrap ((IntKind.u64.wrap (e + 1075)) * 4503599627370496) = (E : Int) * 4503599627370496 := by
 rw [h, IntKind.wrap_u64, IntKind.wrap_u64]
 omega
set_option maxHeartbeats 2000000 in
theorem number_mid (w : World) (p q n : Nat) (neg : Bool) (h : IntIs w p q) (h0 : 4503599627370496 ≤ q) (hq : q < 9007199254740992) (hn : 1138 ≤ n) (hn2 : n ≤ 3183) :
  Calls Tryz.prog 139 #[.bool neg, .pointer (Option.some ⟨p, 0, none⟩), .int .i64 ((n : Int) - 2212)] w fun e w' => e = .returned (.float .f64 (numB neg q n)) ∧ Below w.heap.size w w' := by
 have hnum : numB neg q n = q + (n - 1138) * 4503599627370496 + (bif neg then 9223372036854775808 else 0) := by unfold numB; rw [if_neg (by omega)]
 have hlen : IsLen 53 q := ⟨by omega, fun _ => by omega⟩
 have hsg : (q : Int).sign = 1 := Int.sign_eq_one_of_pos (by omega)
 have hs := (int_sign w p q h)
 rw [hsg] at hs
 have hb := int_bitLen w p q 53 h hlen (by omega)
 have hl := int_lsh (w.alloc (.cells #[.bool false, .slice none 0 0] 190)) w.heap.size p q 0 1 (intNew_alloc w) (h.alloc _) (fun _ => by omega) (by omega) (by rw [Nat.pow_one]; unfold B64; omega) (by omega)
 rw [Nat.pow_zero, Nat.mul_one] at hl
 obtain ⟨E, hE⟩ : ∃ E, E = n - 1137 := ⟨_, rfl⟩
 obtain ⟨f, hf⟩ : ∃ f, f = q - 4503599627370496 := ⟨_, rfl⟩
 obtain ⟨u, hu⟩ : ∃ u, u = f + E * 4503599627370496 := ⟨_, rfl⟩
 have hfq : fman q = f := by unfold fman; omega
 have ha := and_man q (by unfold B64; omega)
 rw [hfq] at ha
 have ho := or_exp f E (by omega) (by omega)
 have hor := or_top u (by omega)
 have HU := Lib.hid (show u = q + (n - 1138) * 4503599627370496 by omega)
 rw [← hu] at ho
 obtain ⟨e, he⟩ : ∃ e : Int, e = (n : Int) - 2212 := ⟨_, rfl⟩
 have hw := exp_wrap e E (by omega) (by omega)
 have hEe : e + 1075 = (E : Int) := by omega
 have hel : decide (e < -1074) = false := by simp; omega
 have hel2 : decide ((0 : Int) + e < -1074) = false := by simp; omega
 have hel1 : -1074 ≤ e := by omega
 have hel3 : e ≤ 971 := by omega
 have hE2 : E ≤ 2047 := by omega
 rw [← he]
 have hd1 : (4503599627370496 : Int) ≤ (q : Int) := by omega
 have hqu : (q : Int) ≤ 18446744073709551615 := by omega
 have HN := Lib.hid hnum
 have HQ := Lib.hid hq
 clear hnum hq hlen hfq hf hu hE he hsg hn hn2
 go_enter Tryz.func139, Tryz.ntmps139
 go_wp2_with fail
 refine hs.mono ?_
 rintro e w1 ⟨rfl, rfl⟩
 go_wp2_with fail
 refine hb.mono ?_
 rintro e w1 ⟨rfl, rfl⟩
 go_wp2_with fail
 refine hl.mono ?_
 rintro e w2 ⟨rfl, hI, hg⟩
 have hu := int_uint64 w2 w1.heap.size q hI
 rw [Nat.mod_eq_of_lt (show q < B64 by have := HQ.out; unfold B64; omega)] at hu
 have HB := Lib.hid (below_of_grown (grown_trans (World.grownBy_alloc w1 (Obj.cells #[.bool false, .slice none 0 0] 190) (some w1.heap.size)) hg) (Nat.le_refl _))
 clear hI hg hl hs hb h
 go_wp2_with fail
 refine hu.mono ?_
 rintro e w3 ⟨rfl, rfl⟩
 clear hu
 cases neg with
 | false =>
  have hf := float_any (u : Int) w3
  rw [Int.toNat_natCast] at hf
  go_wp2_with fail
  refine hf.mono ?_
  rintro e w4 ⟨rfl, rfl⟩
  go_wp2_with fail
  go_ret
  exact ⟨by rw [HN.out, ← HU.out]; rfl, HB.out⟩
 | true =>
  have hf := float_any ((u + 9223372036854775808 : Nat) : Int) w3
  rw [Int.toNat_natCast] at hf
  go_wp2_with fail
  refine hf.mono ?_
  rintro e w4 ⟨rfl, rfl⟩
  go_wp2_with fail
  go_ret
  exact ⟨by rw [HN.out, ← HU.out]; rfl, HB.out⟩
set_option maxHeartbeats 2000000 in
theorem number_top (w : World) (p n : Nat) (neg : Bool) (h : IntIs w p 9007199254740992) (hn : 1138 ≤ n) (hn2 : n ≤ 3182) :
  Calls Tryz.prog 139 #[.bool neg, .pointer (Option.some ⟨p, 0, none⟩), .int .i64 ((n : Int) - 2212)] w fun e w' => e = .returned (.float .f64 (numB neg 9007199254740992 n)) ∧ Below w.heap.size w w' := by
 have hnum : numB neg 9007199254740992 n = 9007199254740992 + (n - 1138) * 4503599627370496 + (bif neg then 9223372036854775808 else 0) := by unfold numB; rw [if_neg (by omega)]
 have hlen : IsLen 54 9007199254740992 := ⟨by decide, fun _ => by decide⟩
 have hs := (int_sign w p 9007199254740992 h)
 rw [show ((9007199254740992 : Nat) : Int).sign = 1 from rfl] at hs
 have hb := int_bitLen w p 9007199254740992 54 h hlen (by omega)
 have hl := int_rsh (w.alloc (.cells #[.bool false, .slice none 0 0] 190)) w.heap.size p 9007199254740992 1 1 (intNew_alloc w) (h.alloc _) (by omega) (by omega) (by decide) (by omega)
 rw [show 9007199254740992 / 2 ^ 1 = 4503599627370496 from rfl] at hl
 obtain ⟨E, hE⟩ : ∃ E, E = n - 1136 := ⟨_, rfl⟩
 obtain ⟨u, hu⟩ : ∃ u, u = 0 + E * 4503599627370496 := ⟨_, rfl⟩
 have ha : bits .and .u64 4503599627370496 4503599627370495 = 0 := by kernel_rfl
 have ho := or_exp 0 E (by omega) (by omega)
 have hor := or_top u (by omega)
 have HU := Lib.hid (show u = 9007199254740992 + (n - 1138) * 4503599627370496 by omega)
 rw [← hu, Int.natCast_zero] at ho
 obtain ⟨e, he⟩ : ∃ e : Int, e = (n : Int) - 2212 := ⟨_, rfl⟩
 have hw := exp_wrap (e + 1) E (by omega) (by omega)
 have hEe : e + 1 + 1075 = (E : Int) := by omega
 have hel2 : decide ((1 : Int) + e < -1074) = false := by simp; omega
 have hel1 : -1074 ≤ e := by omega
 have hel3 : e ≤ 970 := by omega
 have hE2 : E ≤ 2046 := by omega
 rw [← he]
 have HN := Lib.hid hnum
 clear hnum hlen hu hE he hn hn2
 go_enter Tryz.func139, Tryz.ntmps139
 go_wp2_with fail
 refine hs.mono ?_
 rintro e w1 ⟨rfl, rfl⟩
 go_wp2_with fail
 refine hb.mono ?_
 rintro e w1 ⟨rfl, rfl⟩
 go_wp2_with fail
 refine hl.mono ?_
 rintro e w2 ⟨rfl, hI, hg⟩
 have hu := int_uint64 w2 w1.heap.size 4503599627370496 hI.int
 rw [Nat.mod_eq_of_lt (show 4503599627370496 < B64 by decide)] at hu
 have HB := Lib.hid (below_of_grown (grown_trans (World.grownBy_alloc w1 (Obj.cells #[.bool false, .slice none 0 0] 190) (some w1.heap.size)) hg) (Nat.le_refl _))
 clear hI hg hl hs hb h
 go_wp2_with fail
 refine hu.mono ?_
 rintro e w3 ⟨rfl, rfl⟩
 clear hu
 cases neg with
 | false =>
  have hf := float_any (u : Int) w3
  rw [Int.toNat_natCast] at hf
  go_wp2_with fail
  refine hf.mono ?_
  rintro e w4 ⟨rfl, rfl⟩
  go_wp2_with fail
  go_ret
  exact ⟨by rw [HN.out, ← HU.out]; rfl, HB.out⟩
 | true =>
  have hf := float_any ((u + 9223372036854775808 : Nat) : Int) w3
  rw [Int.toNat_natCast] at hf
  go_wp2_with fail
  refine hf.mono ?_
  rintro e w4 ⟨rfl, rfl⟩
  go_wp2_with fail
  go_ret
  exact ⟨by rw [HN.out, ← HU.out]; rfl, HB.out⟩
theorem number_zero (w : World) (p : Nat) (n : Int) (neg : Bool) (h : IntIs w p 0) :
  Calls Tryz.prog 139 #[.bool neg, .pointer (Option.some ⟨p, 0, none⟩), .int .i64 n] w fun e w' => e = .returned (.float .f64 0) ∧ Below w.heap.size w w' := by
 have hs := (int_sign w p 0 h)
 rw [show ((0 : Nat) : Int).sign = 0 from rfl] at hs
 go_enter Tryz.func139, Tryz.ntmps139
 go_wp2_with fail
 refine hs.mono ?_
 rintro e w1 ⟨rfl, rfl⟩
 go_wp2_with fail
 go_ret
 exact ⟨rfl, Below.refl _ _⟩
theorem number_any (w : World) (p q n : Nat) (neg : Bool) (h : IntIs w p q) (hq : q ≤ 9007199254740992) (hn : 1138 ≤ n) (hq2 : n = 1138 ∨ 4503599627370496 ≤ q) (hn2 : n ≤ 3183) (hn3 : n = 3183 → q < 9007199254740992) :
  Calls Tryz.prog 139 #[.bool neg, .pointer (Option.some ⟨p, 0, none⟩), .int .i64 ((n : Int) - 2212)] w fun e w' => e = .returned (.float .f64 (numB neg q n)) ∧ Below w.heap.size w w' := by
 by_cases h0 : q = 0
 ·subst h0
  rw [show numB neg 0 n = 0 from if_pos rfl]
  exact number_zero w p _ neg h
 ·by_cases h1 : q < 4503599627370496
  ·obtain rfl : n = 1138 := by omega
   exact number_low w p q neg h (by omega) h1
  ·by_cases h2 : q < 9007199254740992
   ·exact number_mid w p q n neg h (by omega) h2 hn hn2
   ·obtain rfl : q = 9007199254740992 := by omega
    exact number_top w p n neg h hn (by omega)
end Go.Proofs.YtpfbgenefjhcjaaGreatDoor
