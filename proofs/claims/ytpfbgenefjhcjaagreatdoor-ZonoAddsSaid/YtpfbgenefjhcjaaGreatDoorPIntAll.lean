/-
 math/big's Int: Sign, Rsh, Lsh, Sub, Cmp, Bit 0, NewInt 1, Uint64, SetUint64. math/big's Int: Bit 0, NewInt 1, Uint64, SetUint64. (nat).bitLen, (*Int).BitLen.
 math/big's Int: Sign, Sub, Cmp, Bit 0, NewInt 1, Uint64, SetUint64.
 (nat).add of one word and 1; (*Int).Add, SetUint64.
 (*Int).Add(x, x, 1), SetUint64.
-/
import Derived.Test.YtpfbgenefjhcjaaGreatDoorPNatLo
import Derived.Test.YtpfbgenefjhcjaaGreatDoorPShelf
import Derived.Deep.RegionWith
import Derived.Lib.ItoaNum
import Derived.LaidEqlPtr
namespace Go.Proofs.YtpfbgenefjhcjaaGreatDoor
set_option linter.unusedVariables false
set_option linter.unusedSimpArgs false
open Go Go.RowKit
set_option maxRecDepth 100000
/-- A new Int. -/
def IntNew (w : World) (p : Nat) : Prop := w.heap[p]? = Option.some (.cells #[.bool false, .slice none 0 0] 190 (0, 0))
/-- .. of which the row of words lies from block lo on. -/
def IntIsN (lo : Nat) (w : World) (p M : Nat) : Prop := ∃ A n cap, w.heap[p]? = Option.some (.cells #[.bool false, .slice A n cap] 190 (0, 0)) ∧ NatIs w A n cap M ∧ ∀ a, A = Option.some a → lo ≤ a.block
theorem IntIsN.int {lo : Nat} {w : World} {p M : Nat} (h : IntIsN lo w p M) : IntIs w p M := by
 obtain ⟨A, n, cap, h1, h2, _⟩ := h
 exact ⟨A, n, cap, h1, h2⟩
theorem natIs_len {w : World} {A : Option Addr} {n cap M K : Nat} (h : NatIs w A n cap M) (hM : M < B64 ^ K) : n ≤ K := by
 refine Nat.le_of_not_lt fun hlt => ?_
 have h1 := h.1.2 (by omega)
 have h2 := Nat.pow_le_pow_right B64_pos (show K ≤ n - 1 by omega)
 omega
theorem below_drew1 (w : World) : Below w.heap.size w w.drew := ⟨rfl, rfl, rfl, Nat.le_refl _, fun _ _ => rfl⟩
/-- What a method that sets a new Int has, ahead of its stores. -/
def IntRet (w w2 : World) (p : Nat) (B : Option Addr) (k c M : Nat) : Prop := Below w.heap.size w w2 ∧ NatIs w2 B k c M
theorem IntRet.cells {w w2 : World} {p k c M : Nat} {B : Option Addr} (h : IntRet w w2 p B k c M) (hp : IntNew w p) : w2.cell? ⟨p, 0, none⟩ = Option.some (.bool false) ∧ w2.cell? ⟨p, 1, none⟩ = Option.some (.slice none 0 0) ∧ w2.frozen? ⟨p, 0, none⟩ = false ∧ w2.frozen? ⟨p, 1, none⟩ = false :=
 int_cells ((h.1.block p (Array.getElem?_eq_some_iff.1 hp).1).trans hp)
theorem IntRet.set {w w2 : World} {p k c M : Nat} {B : Option Addr} (h : IntRet w w2 p B k c M) (hp : IntNew w p) :
  IntIs ((w2.setCell ⟨p, 1, none⟩ (.slice B k c)).setCell ⟨p, 0, none⟩ (.bool false)) p M ∧ w.grownBy ((w2.setCell ⟨p, 1, none⟩ (.slice B k c)).setCell ⟨p, 0, none⟩ (.bool false)) (Option.some p) := int_set hp h.1 h.2
theorem IntRet.setN {w w2 : World} {p k c M : Nat} {B : Option Addr} (h : IntRet w w2 p B k c M) (hp : IntNew w p) (hnew : NewRow w B) :
  IntIsN w.heap.size ((w2.setCell ⟨p, 1, none⟩ (.slice B k c)).setCell ⟨p, 0, none⟩ (.bool false)) p M ∧ w.grownBy ((w2.setCell ⟨p, 1, none⟩ (.slice B k c)).setCell ⟨p, 0, none⟩ (.bool false)) (Option.some p) := by
 have hp2 : w2.heap[p]? = Option.some (.cells #[.bool false, .slice none 0 0] 190 (0, 0)) := (h.1.block p (Array.getElem?_eq_some_iff.1 hp).1).trans hp
 have h1 := heap_setCell_same w2 p 1 _ _ (.slice B k c) hp2
 have h2 := heap_setCell_same _ p 0 _ _ (.bool false) h1
 refine ⟨⟨B, k, c, h2, h.2.other hp2 (fun k hk hne => ?_), hnew⟩, grown_set (grown_set (grown_of_below h.1) 1 _) 0 _⟩
 rw [heap_setCell_other _ ⟨p, 0, none⟩ k _ hne, heap_setCell_other _ ⟨p, 1, none⟩ k _ hne]
set_option maxHeartbeats 1000000 in
theorem int_rsh (w : World) (p q M s K : Nat) (hp : IntNew w p) (h : IntIs w q M) (hs1 : 1 ≤ s) (hs : s ≤ 50000) (hM : M < B64 ^ K) (hK : K ≤ 50000) :
  Calls Tryz.prog 131 #[.pointer (Option.some ⟨p, 0, none⟩), .pointer (Option.some ⟨q, 0, none⟩), .int .u64 (s : Nat)] w fun e w' => e = .returned (.pointer (Option.some ⟨p, 0, none⟩)) ∧ IntIsN w.heap.size w' p (M / 2 ^ s) ∧ w.grownBy w' (Option.some p) := by
 obtain ⟨A, n, cap, hq, hn⟩ := h
 obtain ⟨c0, c1, f0, f1⟩ := int_cells hp
 obtain ⟨d0, d1, _, _⟩ := int_cells hq
 go_enter Tryz.func131, Tryz.ntmps131
 go_wp2_with fail
 have hlen := natIs_len hn hM
 have hp' : w.heap.size > p := (Array.getElem?_eq_some_iff.1 hp).1
 have HR : ∀ w2 : World, Below w.heap.size w w2 → Calls Tryz.prog 151 #[.slice none 0 0, .slice A n cap, .int .u64 (s : Nat)] w2 fun e w' => ∃ B k c, e = .returned (.slice B k c) ∧ IntRet w w' p B k c (M / 2 ^ s) ∧ NewRow w B := fun w2 hb => by
  refine (rsh_nil w2 A n cap M s (hn.below hb) hs1 hs (by omega)).mono ?_
  rintro e w' ⟨⟨B, k, c, he, hk, hnew⟩, hb'⟩
  exact ⟨B, k, c, he, ⟨hb.trans (hb'.mono hb.size), hk⟩, fun a ha => Nat.le_trans hb.size (hnew a ha)⟩
 have H := HR w.drew (below_drew1 w)
 clear HR hn hM
 go_region_with (go_at_call 151; refine H.mono ?_; rintro e w2 ⟨B, k, c, rfl, hr, hnew⟩; obtain ⟨e0, e1, g0, g1⟩ := hr.cells hp; have fin := Lib.hid (hr.setN hp hnew); clear hr hnew)
 all_goals go_wp2_with fail
 all_goals go_ret
 all_goals exact ⟨rfl, fin.out⟩
set_option maxHeartbeats 1000000 in
theorem int_lsh (w : World) (p q M s K : Nat) (hp : IntNew w p) (h : IntIs w q M) (hs1 : s = 0 → 0 < M) (hs : s ≤ 50000) (hM : M < B64 ^ K) (hK : K ≤ 50000) :
  Calls Tryz.prog 133 #[.pointer (Option.some ⟨p, 0, none⟩), .pointer (Option.some ⟨q, 0, none⟩), .int .u64 (s : Nat)] w fun e w' => e = .returned (.pointer (Option.some ⟨p, 0, none⟩)) ∧ IntIs w' p (M * 2 ^ s) ∧ w.grownBy w' (Option.some p) := by
 obtain ⟨A, n, cap, hq, hn⟩ := h
 obtain ⟨c0, c1, f0, f1⟩ := int_cells hp
 obtain ⟨d0, d1, _, _⟩ := int_cells hq
 have hlen := natIs_len hn hM
 have hn0 : s = 0 → 0 < n := fun e => by
  have h1 := hs1 e
  have h2 := hn.1.1
  refine Nat.pos_of_ne_zero fun hz => ?_
  rw [hz, Nat.pow_zero] at h2
  omega
 have hql : q < w.heap.size := (Array.getElem?_eq_some_iff.1 hq).1
 have HR : ∀ w2 : World, Below w.heap.size w w2 → Calls Tryz.prog 154 #[.slice none 0 0, .slice A n cap, .int .u64 (s : Nat)] w2 fun e w' => ∃ B k c, e = .returned (.slice B k c) ∧ IntRet w w' p B k c (M * 2 ^ s) := fun w2 hb => by
  refine (lsh_nil w2 A n cap M s (hn.below hb) hs (by omega) hn0).mono ?_
  rintro e w' ⟨⟨B, k, c, he, hk⟩, hb'⟩
  exact ⟨B, k, c, he, hb.trans (hb'.mono hb.size), hk⟩
 have H := HR w.drew (below_drew1 w)
 go_enter Tryz.func133, Tryz.ntmps133
 go_wp2_with fail
 clear HR hn hM hn0 hs1
 go_region_with (go_at_call 154; refine H.mono ?_; rintro e w2 ⟨B, k, c, rfl, hr⟩; obtain ⟨e0, e1, g0, g1⟩ := hr.cells hp; obtain ⟨i0, _, _, _⟩ := int_cells ((hr.1.block q hql).trans hq); have fin := Lib.hid (hr.set hp); clear hr)
 all_goals go_wp2_with fail
 all_goals go_ret
 all_goals exact ⟨rfl, fin.out⟩
set_option linter.unusedVariables false
set_option linter.unusedSimpArgs false
open Go Go.RowKit
set_option maxRecDepth 100000
theorem NatIs.len_pos {w : World} {A : Option Addr} {n cap M : Nat} (h : NatIs w A n cap M) (hM : 0 < M) : 0 < n := by
 have h2 := h.1.1
 refine Nat.pos_of_ne_zero fun hz => ?_
 rw [hz, Nat.pow_zero] at h2
 omega
theorem NatIs.len_zero {w : World} {A : Option Addr} {n cap : Nat} (h : NatIs w A n cap 0) : n = 0 := by
 refine Nat.eq_zero_of_not_pos fun hz => ?_
 have := h.1.2 hz
 have := Bpow_pos (n - 1)
 omega
theorem wd_low (M : Nat) : wd M 0 = M % B64 := by unfold wd; rw [Nat.pow_zero, Nat.div_one]
theorem and1 (x : Nat) (h : x < B64) : bits .and .u64 (x : Int) 1 = ((x % 2 : Nat) : Int) := by
 have h1 := u64_and_nat x 1 (show x < 18446744073709551616 from h) (by decide)
 rw [show x &&& 1 = x % 2 from Nat.and_two_pow_sub_one_eq_mod _ 1] at h1
 exact h1
theorem int_bit (w : World) (p M : Nat) (h : IntIs w p M) :
  Calls Tryz.prog 136 #[.pointer (Option.some ⟨p, 0, none⟩), .int .i64 0] w fun e w' => e = .returned (.int .u64 ((M % 2 : Nat) : Int)) ∧ w' = w := by
 obtain ⟨A, n, cap, hq, hn⟩ := h
 obtain ⟨d0, d1, _, _⟩ := int_cells hq
 by_cases h0 : M = 0
 ·subst h0
  obtain rfl := hn.len_zero
  go_enter Tryz.func136, Tryz.ntmps136
  go_wp2_with fail
  go_ret
  exact ⟨rfl, rfl⟩
 ·have hl := hn.len_pos (by omega)
  obtain ⟨g, rfl, ha, hb, hv⟩ := natIs_row hn hl
  have hc := hv.cell 0 (Nat.le_refl _) hl
  have hw := and1 (wd M 0) (wd_lt M 0)
  have hl' : (0 : Int) < (n : Int) := by omega
  have HM := Lib.hid (show wd M 0 % 2 = M % 2 by rw [wd_low]; unfold B64; omega)
  clear hn
  go_enter Tryz.func136, Tryz.ntmps136
  go_wp2_with fail
  go_ret
  exact ⟨by rw [← HM.out]; rfl, rfl⟩
theorem low64_any (w : World) (A : Option Addr) (n cap M : Nat) (hn : NatIs w A n cap M) :
  Calls Tryz.prog 175 #[.slice A n cap] w fun e w' => e = .returned (.int .u64 ((M % B64 : Nat) : Int)) ∧ w' = w := by
 by_cases h0 : M = 0
 ·subst h0
  obtain rfl := hn.len_zero
  go_enter Tryz.func175, Tryz.ntmps175
  go_wp2_with fail
  go_ret
  exact ⟨rfl, rfl⟩
 ·have hl := hn.len_pos (by omega)
  obtain ⟨g, rfl, ha, hb, hv⟩ := natIs_row hn hl
  have hc := hv.cell 0 (Nat.le_refl _) hl
  have hl' : ((n : Int) == 0) = false := by rw [beq_eq_false_iff_ne]; omega
  have hl2 : (0 : Int) < (n : Int) := by omega
  have HM := Lib.hid (wd_low M)
  clear hn
  go_enter Tryz.func175, Tryz.ntmps175
  go_wp2_with fail
  go_ret
  exact ⟨by rw [← HM.out]; rfl, rfl⟩
theorem int_uint64 (w : World) (p M : Nat) (h : IntIs w p M) :
  Calls Tryz.prog 157 #[.pointer (Option.some ⟨p, 0, none⟩)] w fun e w' => e = .returned (.int .u64 ((M % B64 : Nat) : Int)) ∧ w' = w := by
 obtain ⟨A, n, cap, hq, hn⟩ := h
 obtain ⟨d0, d1, _, _⟩ := int_cells hq
 go_enter Tryz.func157, Tryz.ntmps157
 go_wp2_with fail
 refine (low64_any _ A n cap M hn).mono ?_
 rintro e w' ⟨rfl, rfl⟩
 go_wp2_with fail
 go_ret
 exact ⟨rfl, rfl⟩
theorem norm_one (M : Nat) (h0 : 0 < M) (h1 : M < B64) : NormLen 1 M := ⟨by rw [Nat.pow_one]; exact h1, fun _ => by rw [Nat.sub_self, Nat.pow_zero]; exact h0⟩
theorem wd_self (M : Nat) (h1 : M < B64) : wd M 0 = M := by rw [wd_low, Nat.mod_eq_of_lt h1]
/-- A row made by NewInt: one word. -/
theorem newInt_one (w : World) :
  Calls Tryz.prog 134 #[.int .i64 1] w fun e w' => (∃ p, w.heap.size ≤ p ∧ e = .returned (.pointer (Option.some ⟨p, 0, none⟩)) ∧ IntIs w' p 1) ∧ Below w.heap.size w w' := by
 go_enter Tryz.func134, Tryz.ntmps134
 go_wp2_with fail
 go_ret
 refine ⟨⟨w.heap.size + 1, by omega, rfl, some ⟨w.heap.size, 0, none⟩, 1, 1, heap_alloc2_new w _ _, norm_one 1 (by decide) (by decide), Or.inr ⟨w.heap.size, rfl, by omega, by omega, _, heap_alloc2_old w _ _, rfl, fun j _ hj => ?_⟩⟩, ((Below.refl _ _).alloc (Nat.le_refl _) _).alloc (by simp) _⟩
 obtain rfl : j = 0 := by omega
 rw [wd_self 1 (by decide)]; rfl
set_option linter.unusedVariables false
set_option linter.unusedSimpArgs false
open Go Go.RowKit
set_option maxRecDepth 100000
/-- M has k bits. -/
def IsLen (k M : Nat) : Prop := M < 2 ^ k ∧ (0 < k → 2 ^ (k - 1) ≤ M)
theorem IsLen.unique {k l M : Nat} (h : IsLen k M) (h' : IsLen l M) : k = l := by
 rcases Nat.lt_trichotomy k l with hl | hl | hl
 ·have h1 := h'.2 (by omega)
  have h2 := Nat.pow_le_pow_right (show 0 < 2 by decide) (show k ≤ l - 1 by omega)
  have h3 := h.1
  omega
 ·exact hl
 ·have h1 := h.2 (by omega)
  have h2 := Nat.pow_le_pow_right (show 0 < 2 by decide) (show l ≤ k - 1 by omega)
  have h3 := h'.1
  omega
theorem IsLen.zero : IsLen 0 0 := ⟨by decide, fun h => absurd h (Nat.lt_irrefl 0)⟩
theorem isLen_bitLen (x : Nat) (h : x < B64) : IsLen (Lib.bitLen x) x := by
 by_cases h0 : x = 0
 ·subst h0
  rw [show Lib.bitLen 0 = 0 by decide]
  exact IsLen.zero
 ·obtain ⟨a, b, c⟩ := Lib.bitLenAux_bounds 64 x h h0
  exact ⟨c, fun _ => b⟩
/-- A word that has t's bits, and more below. -/
theorem smear_step (t s L : Nat) (d : Int) (hd : d = ((2 ^ s : Nat) : Int)) (h : IsLen L t) (hL : L ≤ 64) : ∃ t' : Nat, bits .or .u64 (t : Int) ((t : Int) / d) = (t' : Int) ∧ IsLen L t' := by
 subst hd
 have h64 := Nat.pow_le_pow_right (show 0 < 2 by decide) hL
 have h1 := h.1
 have hd : t / 2 ^ s ≤ t := Nat.div_le_self _ _
 have h2 : t < 18446744073709551616 := by omega
 refine ⟨t ||| t / 2 ^ s, ?_, Nat.or_lt_two_pow h1 (by omega), fun hk => Nat.le_trans (h.2 hk) Nat.left_le_or⟩
 rw [← Int.natCast_ediv]
 exact u64_or_nat t (t / 2 ^ s) h2 (by omega)
theorem len_words (M n L : Nat) (h0 : 0 < n) (hM : M < B64 ^ n) (h : IsLen L (wd M (n - 1))) (hL : 0 < L) : IsLen (64 * (n - 1) + L) M := by
 obtain ⟨m, rfl⟩ : ∃ m, n = m + 1 := ⟨n - 1, by omega⟩
 rw [Nat.add_sub_cancel] at *
 have h1 := wd_add M m
 rw [Nat.mod_eq_of_lt hM] at h1
 have h2 := Nat.mod_lt M (Bpow_pos m)
 have h3 := h.1
 have h4 := h.2 hL
 rw [B64_pow] at *
 refine ⟨?_, fun _ => ?_⟩
 ·rw [Nat.pow_add]
  have : (wd M m + 1) * 2 ^ (64 * m) ≤ 2 ^ L * 2 ^ (64 * m) := Nat.mul_le_mul_right _ h3
  rw [Nat.add_mul, Nat.one_mul, Nat.mul_comm (2 ^ L)] at this
  omega
 ·rw [show 64 * m + L - 1 = 64 * m + (L - 1) by omega, Nat.pow_add]
  have : 2 ^ (L - 1) * 2 ^ (64 * m) ≤ wd M m * 2 ^ (64 * m) := Nat.mul_le_mul_right _ h4
  rw [Nat.mul_comm (2 ^ (L - 1))] at this
  omega
theorem wd_top_pos (M n : Nat) (h0 : 0 < n) (h : NormLen n M) : 0 < wd M (n - 1) := by
 refine Nat.pos_of_ne_zero fun hz => ?_
 have h1 := norm_step (n - 1) M (by rw [show n - 1 + 1 = n by omega]; exact h.1) hz
 have h2 := h.2 h0
 omega
set_option maxHeartbeats 1000000 in
theorem bitLen_any (w : World) (A : Option Addr) (n cap M k : Nat) (hn : NatIs w A n cap M) (hk : IsLen k M) (hm : n ≤ 50000) :
  Calls Tryz.prog 149 #[.slice A n cap] w fun e w' => e = .returned (.int .i64 (k : Nat)) ∧ w' = w := by
 by_cases h0 : n = 0
 ·subst h0
  have hz : M = 0 := by have := hn.1.1; rw [Nat.pow_zero] at this; omega
  subst hz
  obtain rfl := hk.unique IsLen.zero
  clear hn hk
  go_enter Tryz.func149, Tryz.ntmps149
  go_wp2_with fail
  go_ret
  exact ⟨rfl, rfl⟩
 ·obtain ⟨g, rfl, ha, hb, hv⟩ := natIs_row hn (by omega)
  obtain ⟨m, rfl⟩ : ∃ m, n = m + 1 := ⟨n - 1, by omega⟩
  have hc := hv.cell m (Nat.zero_le _) (by omega)
  have htp := wd_top_pos M (m + 1) (by omega) hn.1
  have htl := wd_lt M m
  rw [Nat.add_sub_cancel] at htp
  obtain ⟨L, hL⟩ : ∃ L, L = Lib.bitLen (wd M m) := ⟨_, rfl⟩
  have hl0 := isLen_bitLen (wd M m) htl
  rw [← hL] at hl0
  have hL64 : L ≤ 64 := by
   refine Nat.le_of_not_lt fun hgt => ?_
   have h1 := hl0.2 (by omega)
   have h2 := Nat.pow_le_pow_right (show 0 < 2 by decide) (show 64 ≤ L - 1 by omega)
   unfold B64 at htl
   omega
  have hLp : 0 < L := by
   refine Nat.pos_of_ne_zero fun hz => ?_
   subst hz
   have := hl0.1
   rw [Nat.pow_zero] at this
   omega
  have HK := Lib.hid (hk.unique (len_words M (m + 1) L (by omega) hn.1.1 (by rw [Nat.add_sub_cancel]; exact hl0) hLp))
  clear hn hk hL htp
  generalize wd M m = t0 at *
  obtain ⟨t1, e1, l1⟩ := smear_step t0 1 L 2 rfl hl0 hL64
  obtain ⟨t2, e2, l2⟩ := smear_step t1 2 L 4 rfl l1 hL64
  obtain ⟨t3, e3, l3⟩ := smear_step t2 4 L 16 rfl l2 hL64
  obtain ⟨t4, e4, l4⟩ := smear_step t3 8 L 256 rfl l3 hL64
  obtain ⟨t5, e5, l5⟩ := smear_step t4 16 L 65536 rfl l4 hL64
  obtain ⟨t6, e6, l6⟩ := smear_step t5 32 L 4294967296 rfl l5 hL64
  rw [show (t5 : Int) / 4294967296 = (t5 : Int) / 65536 / 65536 by omega] at e6
  have h64 := Nat.pow_le_pow_right (show 0 < 2 by decide) hL64
  have hu6 : t6 < 18446744073709551616 := Nat.lt_of_lt_of_le l6.1 h64
  have HU := Lib.hid (l6.unique (isLen_bitLen t6 hu6))
  have hcall := Tryz.bits_Len (t6 : Int) w (by omega) (by omega)
  have HM := Lib.hid (show (m : Int) * 64 + (L : Nat) = ((64 * (m + 1 - 1) + L : Nat) : Int) by omega)
  rw [Int.toNat_natCast, ← HU.out] at hcall
  have hm1 : ((m + 1 : Nat) : Int) - 1 = (m : Nat) := by omega
  clear l1 l2 l3 l4 l5 l6 hl0
  go_enter Tryz.func149, Tryz.ntmps149
  go_wp2_with fail
  refine hcall.mono ?_
  rintro e w' ⟨rfl, rfl⟩
  go_wp2_with fail
  go_ret
  exact ⟨by rw [HK.out, ← HM.out]; rfl, rfl⟩
theorem int_bitLen (w : World) (p M k : Nat) (h : IntIs w p M) (hk : IsLen k M) (hM : k ≤ 1000000) :
  Calls Tryz.prog 130 #[.pointer (Option.some ⟨p, 0, none⟩)] w fun e w' => e = .returned (.int .i64 (k : Nat)) ∧ w' = w := by
 obtain ⟨A, n, cap, hq, hn⟩ := h
 obtain ⟨d0, d1, _, _⟩ := int_cells hq
 have hlen : n ≤ 50000 := by
  obtain ⟨K, hK⟩ : ∃ K, K = 50000 := ⟨_, rfl⟩
  rw [← hK]
  refine natIs_len hn (Nat.lt_of_lt_of_le hk.1 ?_)
  rw [B64_pow]
  exact Nat.pow_le_pow_right (by decide) (by omega)
 go_enter Tryz.func130, Tryz.ntmps130
 go_wp2_with fail
 refine (bitLen_any _ A n cap M k hn hk hlen).mono ?_
 rintro e w' ⟨rfl, rfl⟩
 go_wp2_with fail
 go_ret
 exact ⟨rfl, rfl⟩
end Go.Proofs.YtpfbgenefjhcjaaGreatDoor
namespace Go.Proofs.YtpfbgenefjhcjaaGreatDoor
set_option linter.unusedVariables false
set_option linter.unusedSimpArgs false
open Go Go.RowKit
set_option maxRecDepth 100000
theorem int_sign (w : World) (p M : Nat) (h : IntIs w p M) :
  Calls Tryz.prog 129 #[.pointer (Option.some ⟨p, 0, none⟩)] w fun e w' => e = .returned (.int .i64 ((M : Int).sign)) ∧ w' = w := by
 obtain ⟨A, n, cap, hq, hn⟩ := h
 obtain ⟨d0, d1, _, _⟩ := int_cells hq
 by_cases h0 : M = 0
 ·subst h0
  obtain rfl := hn.len_zero
  go_enter Tryz.func129, Tryz.ntmps129
  go_wp2_with fail
  go_ret
  exact ⟨rfl, rfl⟩
 ·have hl := hn.len_pos (by omega)
  have hn0 : ((n : Int) == 0) = false := by rw [beq_eq_false_iff_ne]; omega
  have HS := Lib.hid (show (M : Int).sign = 1 from Int.sign_eq_one_of_pos (by omega))
  clear hn
  go_enter Tryz.func129, Tryz.ntmps129
  go_wp2_with fail
  go_ret
  exact ⟨by rw [HS.out]; rfl, rfl⟩
theorem quiet_of2 {P : Program} {f : FuncId} {args : Array Value} {w : World} {n0 n : Nat} {v : Value}
  (h : Calls P f args (w.drewN (n0 + n)) fun e w' => e = .returned v ∧ ∃ m, w' = (w.drewN (n0 + n)).drewN m) : Calls P f args (w.drewN (n0 + n)) fun e w'' => e = .returned v ∧ ∃ m, w'' = w.drewN (n0 + m) :=
 h.mono fun _ _ ⟨he, m, hm⟩ => ⟨he, n + m, by rw [hm, World.drewN_drewN, Nat.add_assoc]⟩
theorem info_Int : (Tryz.prog.info? 190).map (·.size) = some 2 := by kernel_rfl
theorem run_int_ne {w : World} {p q : Nat} {cp cq : Array Value} (hp : w.heap[p]? = Option.some (.cells cp 190 (0, 0))) (hq : w.heap[q]? = Option.some (.cells cq 190 (0, 0))) (hne : p ≠ q) :
  (binOp .eql 167 (.pointer (Option.some ⟨p, 0, none⟩)) (.pointer (Option.some ⟨q, 0, none⟩))).run Tryz.prog w = .ok (.bool false) w := by
 obtain ⟨i, hi, hs⟩ := Option.map_eq_some_iff.1 info_Int
 exact run_eql_ptr_other w Tryz.underlying167 hi (by rw [hs]; decide) (fun e => hne (by injection e)) hp hq
set_option maxHeartbeats 1000000 in
theorem int_cmp (w : World) (p q X Y : Nat) (h : IntIs w p X) (h' : IntIs w q Y) (hne : p ≠ q) :
  Calls Tryz.prog 135 #[.pointer (Option.some ⟨p, 0, none⟩), .pointer (Option.some ⟨q, 0, none⟩)] w fun e w' => e = .returned (.int .i64 (cmpN X Y)) ∧ ∃ k, w' = w.drewN k := by
 obtain ⟨A, n, cap, hp, hn⟩ := h
 obtain ⟨B, m, cap', hq, hn'⟩ := h'
 obtain ⟨c0, c1, _, _⟩ := int_cells hp
 obtain ⟨d0, d1, _, _⟩ := int_cells hq
 have hpq := run_int_ne hp hq hne
 go_enter Tryz.func135, Tryz.ntmps135
 go_wp2_with fail
 go_quiet (fail)
 go_wp2_with fail
 go_quiet ((go_at_call 153; refine quiet_of2 (natCmp_any _ A B n cap m cap' X Y ?_ ?_); exact hn.below ⟨rfl, rfl, rfl, Nat.le_refl _, fun _ _ => rfl⟩; exact hn'.below ⟨rfl, rfl, rfl, Nat.le_refl _, fun _ _ => rfl⟩))
 go_wp2_with fail
 go_ret
 exact ⟨rfl, _, rfl⟩
theorem IntRet.cells2 {w w2 : World} {p k c M : Nat} {B : Option Addr} (h : IntRet w w2 p B k c M) (hp : IntNew w p) (x : Value) : (w2.setCell ⟨p, 1, none⟩ x).cell? ⟨p, 1, none⟩ = Option.some x := by
 have hh := (h.1.block p (Array.getElem?_eq_some_iff.1 hp).1).trans hp
 have h1 := heap_setCell_same w2 p 1 _ _ x hh
 rw [cell_of_row _ p 1 _ _ _ h1]
 rfl
/-- X is as long as Y, if Y is not 0. -/
theorem same_len {w : World} {A B : Option Addr} {m cx n cy X Y : Nat} (h : NatIs w A m cx X) (h' : NatIs w B n cy Y) (hY : Y ≤ X) (hs : 0 < Y → ∀ k, Y < B64 ^ k → X < B64 ^ k) : n = m ∨ n = 0 := by
 by_cases h0 : Y = 0
 ·subst h0
  exact Or.inr h'.len_zero
 ·have h1 := hs (by omega) n h'.1.1
  have h2 := natIs_len h h1
  have h3 := natIs_len h' (Nat.lt_of_le_of_lt hY h.1.1)
  exact Or.inl (by omega)
set_option maxHeartbeats 2000000 in
theorem int_sub (w : World) (p q r X Y K : Nat) (hp : IntNew w p) (h : IntIs w q X) (h' : IntIs w r Y) (hY : Y ≤ X) (h0 : 0 < X) (hs : 0 < Y → ∀ k, Y < B64 ^ k → X < B64 ^ k) (hM : X < B64 ^ K) (hK : K ≤ 50000) :
  Calls Tryz.prog 132 #[.pointer (Option.some ⟨p, 0, none⟩), .pointer (Option.some ⟨q, 0, none⟩), .pointer (Option.some ⟨r, 0, none⟩)] w fun e w' => e = .returned (.pointer (Option.some ⟨p, 0, none⟩)) ∧ IntIs w' p (X - Y) ∧ w.grownBy w' (Option.some p) := by
 obtain ⟨A, n, cap, hq, hn⟩ := h
 obtain ⟨B, m, cap', hr, hn'⟩ := h'
 obtain ⟨a0, a1, f0, f1⟩ := int_cells hp
 obtain ⟨c0, c1, _, _⟩ := int_cells hq
 obtain ⟨d0, d1, _, _⟩ := int_cells hr
 have hlen := natIs_len hn hM
 have hsl := same_len hn hn' hY hs
 have hln := hn.len_pos h0
 have hge : (0 : Int) ≤ cmpN X Y := by
  rcases Nat.lt_or_ge Y X with hl | hl
  ·rw [cmpN_gt hl]; decide
  ·rw [cmpN_eq (by omega)]; exact Int.le_refl _
 have HR : ∀ w2 : World, Below w.heap.size w w2 → Calls Tryz.prog 150 #[.slice none 0 0, .slice A n cap, .slice B m cap'] w2 fun e w' => ∃ C k c, e = .returned (.slice C k c) ∧ IntRet w w' p C k c (X - Y) := fun w2 hb => by
  refine (sub_nil w2 A B n cap m cap' X Y (hn.below hb) (hn'.below hb) hY hln hsl (by omega)).mono ?_
  rintro e w' ⟨⟨C, k, c, he, hk⟩, hb'⟩
  exact ⟨C, k, c, he, hb.trans (hb'.mono hb.size), hk⟩
 have hcq : ∀ j, Calls Tryz.prog 153 #[.slice A n cap, .slice B m cap'] (w.drewN j) fun e w' => e = .returned (.int .i64 (cmpN X Y)) ∧ ∃ k, w' = (w.drewN j).drewN k := fun j => natCmp_any _ A B n cap m cap' X Y (hn.below (below_drewN _ _)) (hn'.below (below_drewN _ _))
 generalize cmpN X Y = cc at *
 go_enter Tryz.func132, Tryz.ntmps132
 go_wp2_with fail
 go_quiet (fail)
 go_wp2_with fail
 go_quiet ((go_at_call 153; exact quiet_of2 (hcq _)))
 go_wp2_with fail
 have H1 := fun j => HR (w.drewN j) (below_drewN _ _)
 clear HR hn hn' hcq hs hsl hM
 go_region_with (go_at_call 150; refine (H1 _).mono ?_; rintro e w2 ⟨C, k, c, rfl, hR⟩; obtain ⟨e0, e1, g0, g1⟩ := hR.cells hp; have ec := hR.cells2 hp (.slice C k c); have fin := Lib.hid (hR.set hp); clear hR)
 all_goals rcases Nat.eq_zero_or_pos k with rfl | hk
 all_goals go_wp2_with fail
 all_goals go_ret
 all_goals exact ⟨rfl, fin.out⟩
end Go.Proofs.YtpfbgenefjhcjaaGreatDoor
namespace Go.Proofs.YtpfbgenefjhcjaaGreatDoor
set_option linter.unusedVariables false
set_option linter.unusedSimpArgs false
open Go Go.RowKit
set_option maxRecDepth 100000
theorem bitsAdd_any (x y c d c' : Nat) (h1 : c ≤ 1) (hd : (x + y + c) % B64 = d) (hc : (x + y + c) / B64 = c') (w : World) :
  Calls Tryz.prog 172 #[.int .u64 (x : Nat), .int .u64 (y : Nat), .int .u64 (c : Nat)] w fun e w' => e = .returned (.tuple #[.int .u64 (d : Nat), .int .u64 (c' : Nat)]) ∧ w' = w := by
 have hs := run_add_nat x y c d c' h1 hd hc
 have H := Lib.hid hd
 have HC := Lib.hid hc
 clear hd hc
 go_enter Tryz.func172, Tryz.ntmps172
 go_wp2_with fail
 go_ret2
 exact ⟨rfl, rfl⟩
theorem run_addVV (args : Array Value) (w : World) : (callFunc 170 args).run Tryz.prog w = .ok (.enter 143 args) w := by kernel_rfl
set_option maxHeartbeats 2000000 in
/-- One word and one word. -/
theorem addVV_one (w : World) (g h k a b cz cx cy : Nat) (v : Value) (hz : w.cell? ⟨g, 0, none⟩ = Option.some v) (hf : w.frozen? ⟨g, 0, none⟩ = false) (hx : w.cell? ⟨h, 0, none⟩ = Option.some (.int .u64 (a : Nat))) (hy : w.cell? ⟨k, 0, none⟩ = Option.some (.int .u64 (b : Nat))) (hab : a + b < B64) :
  Calls Tryz.prog 143 #[.slice (Option.some ⟨g, 0, none⟩) 1 cz, .slice (Option.some ⟨h, 0, none⟩) 1 cx, .slice (Option.some ⟨k, 0, none⟩) 1 cy] w fun e w' => e = .returned (.int .u64 0) ∧ ∃ j, w' = (w.drewN j).setCell ⟨g, 0, none⟩ (.int .u64 ((a + b : Nat) : Int)) := by
 have hs := bitsAdd_any a b 0 (a + b) 0 (by omega) (by rw [Nat.add_zero, Nat.mod_eq_of_lt hab]) (by rw [Nat.add_zero, Nat.div_eq_of_lt hab])
 have hla : (a : Int) ≤ 18446744073709551615 := by unfold B64 at hab; omega
 have hlb : (b : Int) ≤ 18446744073709551615 := by unfold B64 at hab; omega
 have HAB := Lib.hid hab
 clear hab
 generalize a + b = s at *
 go_enter Tryz.func143, Tryz.ntmps143
 go_wp2_with fail
 go_loopw [6, 25] (fun c kk wr => ∃ i : Nat, i ≤ 1 ∧ c = .int .u64 0 ∧ kk = .int .i64 (i : Nat) ∧ ((i = 0 ∧ wr = w) ∨ (i = 1 ∧ ∃ j, wr = (w.drewN j).setCell ⟨g, 0, none⟩ (.int .u64 (s : Nat))))) (fun _ kk _ => 1 - (intOf kk).toNat)
 case atStart => exact ⟨0, by omega, rfl, rfl, Or.inl ⟨rfl, rfl⟩⟩
 case round =>
  obtain ⟨i, hi, rfl, rfl, ⟨rfl, rfl⟩ | ⟨rfl, j, rfl⟩⟩ := hrel
  ·go_wp2_with fail
   go_quiet ((go_at_call 172; exact Calls.quiet_of_same (hs _)))
   go_wp2_with fail
   go_roundw
   case rel => exact ⟨1, by omega, rfl, rfl, Or.inr ⟨rfl, _, rfl⟩⟩
   case measure => simp [intOf]
  ·go_wp2_with fail
   go_ret
   exact ⟨rfl, j, rfl⟩
theorem make_grow (A : Option Addr) (n0 c0 n : Nat) (h0 : 0 < n) (h1 : n ≤ 100000) (hc : c0 < n) (w : World) :
  Calls Tryz.prog 162 #[.slice A n0 c0, .int .i64 (n : Nat)] w fun e w' => ∃ cap, n ≤ cap ∧ cap ≤ n + 4 ∧ e = .returned (.slice (Option.some ⟨w.heap.size, 0, none⟩) n cap) ∧ w.alloc (.cells (zeroWords cap) 203) = w' := by
 have hq : decide ((n : Int) ≤ (c0 : Int)) = false := by simp; omega
 by_cases hn : n = 1
 ·subst hn
  obtain rfl : c0 = 0 := by omega
  have hm := run_make_nat 1 1 (by decide) (by decide) (by decide)
  go_enter Tryz.func162, Tryz.ntmps162
  go_wp2
  go_ret
  exact ⟨1, Nat.le_refl _, by omega, rfl, rfl⟩
 ·have hn' : ((n : Int) == 1) = false := by rw [beq_eq_false_iff_ne]; omega
  have hm := run_make_nat (n : Int) ((n : Int) + 4) (by omega) (by omega) (by omega)
  rw [show ((n : Int) + 4).toNat = n + 4 by omega, show ((n : Int)).toNat = n by omega] at hm
  go_enter Tryz.func162, Tryz.ntmps162
  go_wp2
  go_ret
  exact ⟨n + 4, by omega, Nat.le_refl _, rfl, rfl⟩
/-- Room for n words: in z's row, or in a new one. -/
theorem make_any (w : World) (A : Option Addr) (n0 c0 Q n : Nat) (h : NatIs w A n0 c0 Q) (h0 : 0 < n) (h1 : n ≤ 100000) :
  Calls Tryz.prog 162 #[.slice A n0 c0, .int .i64 (n : Nat)] w fun e w' => (∃ G cp, e = .returned (.slice (Option.some ⟨G, 0, none⟩) n cp) ∧ n ≤ cp ∧ cp ≤ 1000000 ∧ Vec w' G cp 0 0 (fun _ => 0) ∧ (A = Option.some ⟨G, 0, none⟩ ∨ w.heap.size ≤ G)) ∧ Below w.heap.size w w' := by
 by_cases hc : c0 < n
 ·refine (make_grow A n0 c0 n h0 h1 hc w).mono ?_
  rintro e w' ⟨cap, hc1, hc2, rfl, rfl⟩
  exact ⟨⟨w.heap.size, cap, rfl, hc1, by omega, (Vec.made w cap).weaken (Nat.le_refl _) (Nat.zero_le _) (fun _ _ _ => rfl), Or.inr (Nat.le_refl _)⟩, (Below.refl _ _).alloc (Nat.le_refl _) _⟩
 ·obtain ⟨h2, rfl, rfl⟩ | ⟨g, rfl, ha, hb, hv⟩ := h.2
  ·omega
  ·have hq : (n : Int) ≤ (c0 : Int) := by omega
   have hv0 : Vec w g c0 0 0 (fun _ => 0) := hv.weaken' (fun j _ hj => absurd hj (Nat.not_lt_zero j))
   clear h
   go_enter Tryz.func162, Tryz.ntmps162
   go_wp2_with fail
   go_ret
   exact ⟨⟨g, c0, rfl, by omega, by omega, hv0, Or.inl rfl⟩, Below.refl _ _⟩
/-- w' is w, but for blocks made behind w's, and for A's row. -/
def ButRow (w w' : World) (A : Option Addr) : Prop := ∃ r, w.grownBy w' r ∧ ∀ g, r = Option.some g → A = Option.some ⟨g, 0, none⟩ ∨ w.heap.size ≤ g
set_option maxHeartbeats 2000000 in
/-- z set to a row of one word. -/
theorem set_one (w : World) (A : Option Addr) (c0 k ck Y : Nat) (h : NatIs w A 0 c0 0) (hy : NatIs w (Option.some ⟨k, 0, none⟩) 1 ck Y) :
  Calls Tryz.prog 161 #[.slice A 0 c0, .slice (Option.some ⟨k, 0, none⟩) 1 ck] w fun e w' => (∃ C n cap, e = .returned (.slice C n cap) ∧ NatIs w' C n cap Y) ∧ ButRow w w' A := by
 have hnorm := Lib.hid hy.1
 obtain ⟨k', hk', hya, hyb, hyv⟩ := natIs_row hy (by omega)
 obtain rfl : k = k' := by injection hk' with hk'; injection hk'
 clear hy
 go_enter Tryz.func161, Tryz.ntmps161
 go_wp2_with fail
 refine (make_any _ A 0 c0 0 1 h (by omega) (by omega)).mono ?_
 rintro e w1 ⟨⟨G, cp, rfl, hc1, hc2, hz1, hG⟩, hb1⟩
 have hvq : Vec w1 k ck 0 (0 + 1) (wd Y) := hyv.below hb1
 have HFF := Lib.hid (show ∀ j, 0 ≤ j → j < 1 → (0 ≤ j ∧ j < 0 + 1 ∧ wd Y j = wd Y (0 + (j - 0))) ∨ ((j < 0 ∨ 0 + 1 ≤ j) ∧ 0 ≤ j ∧ j < 0 ∧ wd Y j = 0) from fun j _ hj =>
  Or.inl ⟨Nat.zero_le _, by omega, by rw [Nat.sub_zero, Nat.zero_add]⟩)
 have HB := Lib.hid hb1
 clear hb1
 go_wp2_with (refine wpList_copy_vec rfl (.tmp 9) (.tmp 10) 188 188 rfl Tryz.underlying188 G 0 k 0 1 cp ck cp ck 0 0 0 1 (fun _ => 0) (wd Y) (wd Y) rfl rfl hz1 hvq (by omega) HFF.out ?_; intro w2 hv2 hg2)
 go_ret
 exact ⟨⟨_, 1, cp, rfl, hnorm.out, Or.inr ⟨G, rfl, by omega, by omega, hv2⟩⟩, some G, grown_trans (grown_of_below HB.out) hg2, fun g hg => by injection hg with hg; subst hg; exact hG⟩
set_option maxHeartbeats 2000000 in
theorem add_one (w : World) (A : Option Addr) (n0 c0 k ck Q : Nat) (h : NatIs w A n0 c0 Q) (hy : NatIs w (Option.some ⟨k, 0, none⟩) 1 ck 1) (hQ : Q + 1 < B64) :
  Calls Tryz.prog 152 #[.slice A n0 c0, .slice A n0 c0, .slice (Option.some ⟨k, 0, none⟩) 1 ck] w fun e w' => (∃ C n cap, e = .returned (.slice C n cap) ∧ NatIs w' C n cap (Q + 1)) ∧ ButRow w w' A := by
 by_cases h0 : Q = 0
 ·subst h0
  obtain rfl := h.len_zero
  have hswap : Calls Tryz.prog 152 #[.slice A 0 c0, .slice (Option.some ⟨k, 0, none⟩) 1 ck, .slice A 0 c0] w fun e w' => (∃ C n cap, e = .returned (.slice C n cap) ∧ NatIs w' C n cap 1) ∧ ButRow w w' A := by
   go_enter Tryz.func152, Tryz.ntmps152
   go_wp2_with fail
   refine (set_one _ A c0 k ck 1 h hy).mono ?_
   rintro e w' ⟨⟨C, n, cap, rfl, hC⟩, hbut⟩
   go_wp2_with fail
   go_ret
   exact ⟨⟨C, n, cap, rfl, hC⟩, hbut⟩
  go_enter Tryz.func152, Tryz.ntmps152
  go_wp2_with fail
  refine hswap.mono ?_
  rintro e w' ⟨⟨C, n, cap, rfl, hC⟩, hbut⟩
  go_wp2_with fail
  go_ret
  exact ⟨⟨C, n, cap, rfl, hC⟩, hbut⟩
 ·obtain rfl : n0 = 1 := by
   have h1 := h.len_pos (by omega)
   have h2 := natIs_len h (K := 1) (by rw [Nat.pow_one]; omega)
   omega
  obtain ⟨g, rfl, ha, hb, hv⟩ := natIs_row h (by omega)
  obtain ⟨k', hk', hya, hyb, hyv⟩ := natIs_row hy (by omega)
  obtain rfl : k = k' := by injection hk' with hk'; injection hk'
  have HQ := Lib.hid hQ
  have hw0 := wd_self Q (by omega)
  have hw1 := wd_self 1 (by decide)
  have hrun := run_addVV
  have hwd0 : wd (Q + 1) 0 = Q + 1 := wd_self (Q + 1) hQ
  have hwd1 : wd (Q + 1) 1 = 0 := by unfold wd; rw [Nat.pow_one, Nat.div_eq_of_lt hQ]; rfl
  clear hQ hy
  go_enter Tryz.func152, Tryz.ntmps152
  go_wp2_with fail
  refine (make_any _ (Option.some ⟨g, 0, none⟩) 1 c0 Q 2 h (by omega) (by omega)).mono ?_
  rintro e w1 ⟨⟨G, cp, rfl, hc1, hc2, hz1, hG⟩, hb1⟩
  have hcx := (hv.below hb1).cell 0 (Nat.le_refl _) (by omega)
  have hcy := (hyv.below hb1).cell 0 (Nat.le_refl _) (by omega)
  rw [hw0] at hcx
  rw [hw1] at hcy
  clear hv hyv h hw0 hw1
  obtain ⟨v0, hv0⟩ := hz1.some 0 (by omega)
  have hf0 := hz1.free 0
  have q1 : 1 ≤ cp := by omega
  have q2 : (1 : Int) ≤ (cp : Int) := by omega
  have q3 : (1 : Int) ≤ (c0 : Int) := by omega
  have q4 : (1 : Int) ≤ (ck : Int) := by omega
  go_wp2_with fail
  go_still_tail 9, (by kernel_rfl)
  change wpList _ _ _ _ _ w1.drew
  have HT := Lib.hid (addVV_one w1.drew G g k Q 1 cp c0 ck v0 hv0 hf0 hcx hcy HQ.out)
  have hbd : Below w.heap.size w w1.drew := ⟨hb1.os, hb1.tape, hb1.output, hb1.size, hb1.block⟩
  have hzd : Vec w1.drew G cp 0 0 (fun _ => 0) := hz1
  generalize w1.drew = W2 at *
  clear hz1 hb1 hcx hcy hv0 hf0
  go_wp2_with fail
  refine HT.out.mono ?_
  rintro e w3 ⟨rfl, j, rfl⟩
  have hzj : Vec (W2.drewN j) G cp 0 0 (fun _ => 0) := hzd
  have hbj : w.grownBy (W2.drewN j) (some G) := grown_drewN (grown_of_below hbd) j
  have hz2 : Vec ((W2.drewN j).setCell ⟨G, 0, none⟩ (.int .u64 ((Q + 1 : Nat) : Int))) G cp 0 1 (wd (Q + 1)) := hzj.set 0 (Q + 1) (by omega) hwd0.symm (fun i _ hi hne => absurd (by omega) hne)
  have hg2 := grown_set hbj 0 (.int .u64 ((Q + 1 : Nat) : Int))
  clear HT hzd hbd hzj hbj
  generalize (W2.drewN j).setCell ⟨G, 0, none⟩ (.int .u64 ((Q + 1 : Nat) : Int)) = W3 at *
  obtain ⟨v1, hv1⟩ := hz2.some 1 (by omega)
  have hf1 := hz2.free 1
  have hz3 : Vec (W3.setCell ⟨G, 1, none⟩ (.int .u64 (0 : Nat))) G cp 0 2 (wd (Q + 1)) := hz2.set 1 0 (by omega) hwd1.symm (fun i _ hi hne => ⟨Nat.zero_le _, by omega, rfl⟩)
  have hg3 := grown_set hg2 1 (.int .u64 (0 : Nat))
  have HZ := Lib.hid hz3
  have HG := Lib.hid hg3
  clear hz2 hg2 hz3 hg3
  go_wp2_with fail
  refine (norm_row _ G 2 cp (Q + 1) HZ.out (Nat.lt_of_lt_of_le HQ.out (by rw [Nat.pow_succ, Nat.pow_one]; unfold B64; omega)) hc1 hc2).mono ?_
  rintro e w4 ⟨⟨n, hn, hnorm, rfl⟩, rfl⟩
  go_wp2_with fail
  go_ret
  exact ⟨⟨_, n, cp, rfl, hnorm, Or.inr ⟨G, rfl, by omega, by omega, HZ.out.weaken (Nat.le_refl _) hn (fun _ _ _ => rfl)⟩⟩, some G, HG.out, fun g hg => by injection hg with hg; subst hg; exact hG⟩
end Go.Proofs.YtpfbgenefjhcjaaGreatDoor
namespace Go.Proofs.YtpfbgenefjhcjaaGreatDoor
set_option linter.unusedVariables false
set_option linter.unusedSimpArgs false
open Go Go.RowKit
set_option maxRecDepth 100000
/-- Behind (nat).add in (*Int).Add, ahead of its stores. -/
structure AddRet (w w2 : World) (p lo : Nat) (C : Option Addr) (n c M : Nat) : Prop where
 nat : NatIs w2 C n c M
 int : w2.heap[p]? = w.heap[p]?
 below : ∀ B, B ≤ lo → B ≤ w.heap.size → Below B w w2
theorem AddRet.of {w w0 w2 : World} {p lo n c M n0 c0 M0 : Nat} {A C : Option Addr} {cs : Array Value} (hb0 : w0.heap = w.heap ∧ w0.os = w.os ∧ w0.tape = w.tape ∧ w0.output = w.output) (hp : w.heap[p]? = Option.some (.cells cs 190 (0, 0))) (hA : NatIs w A n0 c0 M0) (hnew : ∀ a, A = Option.some a → lo ≤ a.block) (h : NatIs w2 C n c M) (hbut : ButRow w0 w2 A) : AddRet w w2 p lo C n c M := by
 obtain ⟨r, hg, hr⟩ := hbut
 obtain ⟨e1, e2, e3, e4⟩ := hb0
 have hpl := (Array.getElem?_eq_some_iff.1 hp).1
 refine ⟨h, ?_, fun B h1 h2 => ⟨hg.os.trans e2, hg.tape.trans e3, hg.output.trans e4, by have := hg.size; rw [e1] at this; omega, fun k hk => ?_⟩⟩
 ·rw [← e1]
  refine hg.block p (by rw [e1]; exact hpl) fun hpr => ?_
  rcases hr p hpr.symm with h1 | h1
  ·obtain ⟨_, h2, _⟩ | ⟨g, h2, _, _, hv⟩ := hA.2
   ·rw [h1] at h2; cases h2
   ·rw [h1] at h2
    injection h2 with h2
    injection h2 with h2
    subst h2
    exact hv.ne_int hp rfl
  ·rw [e1] at h1; omega
 ·rw [← e1]
  refine hg.block k (by rw [e1]; omega) fun hpr => ?_
  rcases hr k hpr.symm with h3 | h3
  ·have := hnew _ h3
   simp only at this
   omega
  ·rw [e1] at h3; omega
theorem AddRet.cells {w w2 : World} {p lo n c M : Nat} {C : Option Addr} {v : Value} (h : AddRet w w2 p lo C n c M) (hp : w.heap[p]? = Option.some (.cells #[.bool false, v] 190 (0, 0))) (x : Value) :
  w2.cell? ⟨p, 0, none⟩ = Option.some (.bool false) ∧ w2.cell? ⟨p, 1, none⟩ = Option.some v ∧ w2.frozen? ⟨p, 0, none⟩ = false ∧ w2.frozen? ⟨p, 1, none⟩ = false ∧ (w2.setCell ⟨p, 1, none⟩ x).cell? ⟨p, 1, none⟩ = Option.some x := by
 obtain ⟨a, b, c, d⟩ := int_cells (h.int.trans hp)
 refine ⟨a, b, c, d, ?_⟩
 have h1 := heap_setCell_same w2 p 1 _ _ x (h.int.trans hp)
 rw [cell_of_row _ p 1 _ _ _ h1]
 rfl
theorem AddRet.set {w w2 : World} {p lo n c M : Nat} {C : Option Addr} {v : Value} (h : AddRet w w2 p lo C n c M) (hp : w.heap[p]? = Option.some (.cells #[.bool false, v] 190 (0, 0))) :
  IntIs ((w2.setCell ⟨p, 1, none⟩ (.slice C n c)).setCell ⟨p, 0, none⟩ (.bool false)) p M ∧ ∀ B, B ≤ lo → B ≤ p → Below B w ((w2.setCell ⟨p, 1, none⟩ (.slice C n c)).setCell ⟨p, 0, none⟩ (.bool false)) := by
 have hp2 := h.int.trans hp
 have hpl := (Array.getElem?_eq_some_iff.1 hp).1
 have h1 := heap_setCell_same w2 p 1 _ _ (.slice C n c) hp2
 have h2 := heap_setCell_same _ p 0 _ _ (.bool false) h1
 refine ⟨⟨C, n, c, h2, h.nat.other hp2 (fun k hk hne => ?_)⟩, fun B h3 h4 => ?_⟩
 ·rw [heap_setCell_other _ ⟨p, 0, none⟩ k _ hne, heap_setCell_other _ ⟨p, 1, none⟩ k _ hne]
 ·have hb := h.below B h3 (by omega)
  refine ⟨hb.os, hb.tape, hb.output, ?_, fun k hk => ?_⟩
  ·rw [show ((w2.setCell ⟨p, 1, none⟩ (.slice C n c)).setCell ⟨p, 0, none⟩ (.bool false)).heap.size = w2.heap.size by simp [World.setCell]]
   exact hb.size
  ·rw [heap_setCell_other _ ⟨p, 0, none⟩ k _ (show k ≠ p by omega), heap_setCell_other _ ⟨p, 1, none⟩ k _ (show k ≠ p by omega)]
   exact hb.block k hk
set_option maxHeartbeats 2000000 in
theorem int_add_one (w : World) (p r lo Q : Nat) (h : IntIsN lo w p Q) (h' : IntIs w r 1) (hQ : Q + 1 < B64) :
  Calls Tryz.prog 137 #[.pointer (Option.some ⟨p, 0, none⟩), .pointer (Option.some ⟨p, 0, none⟩), .pointer (Option.some ⟨r, 0, none⟩)] w fun e w' => e = .returned (.pointer (Option.some ⟨p, 0, none⟩)) ∧ IntIs w' p (Q + 1) ∧ ∀ B, B ≤ lo → B ≤ p → Below B w w' := by
 obtain ⟨A, n0, c0, hp, hn, hnew⟩ := h
 obtain ⟨B, m, cap', hr, hn'⟩ := h'
 obtain ⟨a0, a1, f0, f1⟩ := int_cells hp
 obtain ⟨d0, d1, _, _⟩ := int_cells hr
 have hm1 := hn'.len_pos (by omega)
 have hm2 := natIs_len hn' (K := 1) (by decide)
 obtain rfl : m = 1 := by omega
 obtain ⟨k, rfl, _, _, _⟩ := natIs_row hn' (by omega)
 have H1 : ∀ j, Calls Tryz.prog 152 #[.slice A n0 c0, .slice A n0 c0, .slice (Option.some ⟨k, 0, none⟩) 1 cap'] (w.drewN j) fun e w' => ∃ C n c, e = .returned (.slice C n c) ∧ AddRet w w' p lo C n c (Q + 1) := fun j => by
  refine (add_one (w.drewN j) A n0 c0 k cap' Q (hn.below (below_drewN _ _)) (hn'.below (below_drewN _ _)) hQ).mono ?_
  rintro e w' ⟨⟨C, n, c, he, hk⟩, hbut⟩
  exact ⟨C, n, c, he, AddRet.of (w0 := w.drewN j) ⟨rfl, rfl, rfl, rfl⟩ hp hn hnew hk hbut⟩
 clear hn hn' hnew hQ
 go_enter Tryz.func137, Tryz.ntmps137
 go_wp2_with fail
 go_quiet (fail)
 go_wp2_with fail
 go_region_with (go_at_call 152; refine (H1 _).mono ?_; rintro e w2 ⟨C, k, c, rfl, hR⟩; obtain ⟨e0, e1, g0, g1, ec⟩ := hR.cells hp (.slice C k c); have fin := Lib.hid (hR.set hp); clear hR)
 all_goals rcases Nat.eq_zero_or_pos k with rfl | hk
 all_goals go_wp2_with fail
 all_goals go_ret
 all_goals exact ⟨rfl, fin.out⟩
theorem setWord_nil (w : World) (u : Nat) (h0 : 0 < u) (hu : u < B64) :
  Calls Tryz.prog 174 #[.slice none 0 0, .int .u64 (u : Nat)] w fun e w' => (∃ C n cap, e = .returned (.slice C n cap) ∧ NatIs w' C n cap u) ∧ Below w.heap.size w w' := by
 have hu0 : ((u : Int) == 0) = false := by rw [beq_eq_false_iff_ne]; omega
 have hw0 := wd_self u hu
 have HN := Lib.hid (norm_one u h0 hu)
 clear hu
 go_enter Tryz.func174, Tryz.ntmps174
 go_wp2_with fail
 refine (make_nil 1 (by omega) (by omega) _).mono ?_
 rintro e w1 ⟨cap, hc1, hc2, rfl, rfl⟩
 have hz1 := Vec.made w cap
 have hb1 : Below w.heap.size w (w.alloc (Obj.cells (zeroWords cap) 203)) := (Below.refl _ _).alloc (Nat.le_refl _) _
 generalize w.alloc (Obj.cells (zeroWords cap) 203) = W at *
 obtain ⟨v, hv⟩ := hz1.some 0 (by omega)
 have hf := hz1.free 0
 have hz2 : Vec (W.setCell ⟨w.heap.size, 0, none⟩ (.int .u64 (u : Nat))) w.heap.size cap 0 1 (wd u) := hz1.set 0 u (by omega) hw0.symm (fun i _ hi hne => absurd (by omega) hne)
 have hg2 := below_of_grown (grown_set (grown_of_below hb1) 0 (.int .u64 (u : Nat))) (Nat.le_refl w.heap.size)
 have HZ := Lib.hid hz2
 have HG := Lib.hid hg2
 clear hz2 hg2 hz1 hb1
 go_wp2_with fail
 go_ret
 exact ⟨⟨_, 1, cap, rfl, HN.out, Or.inr ⟨w.heap.size, rfl, by omega, by omega, HZ.out⟩⟩, HG.out⟩
theorem int_setUint64 (w : World) (p u : Nat) (hp : IntNew w p) (h0 : 0 < u) (hu : u < B64) :
  Calls Tryz.prog 138 #[.pointer (Option.some ⟨p, 0, none⟩), .int .u64 (u : Nat)] w fun e w' => e = .returned (.pointer (Option.some ⟨p, 0, none⟩)) ∧ IntIs w' p u ∧ w.grownBy w' (Option.some p) := by
 obtain ⟨c0, c1, f0, f1⟩ := int_cells hp
 have hul : (u : Int) ≤ 18446744073709551615 := by unfold B64 at hu; omega
 have hnat : Calls Tryz.prog 156 #[.slice none 0 0, .int .u64 (u : Nat)] w fun e w' => (∃ C n cap, e = .returned (.slice C n cap) ∧ NatIs w' C n cap u) ∧ Below w.heap.size w w' := by
  go_enter Tryz.func156, Tryz.ntmps156
  go_wp2_with fail
  refine (setWord_nil _ u h0 hu).mono ?_
  rintro e w' ⟨⟨C, n, cap, rfl, hC⟩, hb⟩
  go_wp2_with fail
  go_ret
  exact ⟨⟨C, n, cap, rfl, hC⟩, hb⟩
 clear hu
 go_enter Tryz.func138, Tryz.ntmps138
 go_wp2_with fail
 refine hnat.mono ?_
 rintro e w2 ⟨⟨B, k, c, rfl, hk⟩, hb⟩
 have hR : IntRet w w2 p B k c u := ⟨hb, hk⟩
 obtain ⟨e0, e1, g0, g1⟩ := hR.cells hp
 have fin := Lib.hid (hR.set hp)
 clear hR hk hb
 go_wp2_with fail
 go_ret
 exact ⟨rfl, fin.out⟩
end Go.Proofs.YtpfbgenefjhcjaaGreatDoor
