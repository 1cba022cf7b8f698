/- math/big's Int: Sign, Rsh, Lsh, Sub, Cmp, Bit 0, NewInt 1, Uint64, SetUint64. math/big's Int: Bit 0, NewInt 1, Uint64, SetUint64. (nat).bitLen, (*Int).BitLen. -/
import Derived.Test.YtopilodakphhgaaGreatDoorNatSubs
import Derived.Deep.RegionWith
import Derived.Test.YtopilodakphhgaaGreatDoorShelf
import Derived.Lib.ItoaNum
namespace Go.Proofs.YtopilodakphhgaaGreatDoor
set_option linter.unusedVariables false
set_option linter.unusedSimpArgs false
open Go Go.RowKit
set_option maxRecDepth 100000
/-- A new Int. -/
def IntNew (w : World) (p : Nat) : Prop := w.heap[p]? = Option.some (.cells #[.bool false, .slice none 0 0] 94 (0, 0))
/-- .. of which the row of words lies from block lo on. -/
def IntIsN (lo : Nat) (w : World) (p M : Nat) : Prop := ∃ A n cap, w.heap[p]? = Option.some (.cells #[.bool false, .slice A n cap] 94 (0, 0)) ∧ NatIs w A n cap M ∧ ∀ a, A = Option.some a → lo ≤ a.block
theorem IntIsN.int {lo : Nat} {w : World} {p M : Nat} (h : IntIsN lo w p M) : IntIs w p M := by
  obtain ⟨A, n, cap, h1, h2, _⟩ := h
  exact ⟨A, n, cap, h1, h2⟩
theorem natIs_len {w : World} {A : Option Addr} {n cap M K : Nat} (h : NatIs w A n cap M) (hM : M < B64 ^ K) : n ≤ K := by
  refine Nat.le_of_not_lt fun hlt => ?_
  have h1 := h.1.2 (by omega)
  have h2 := Nat.pow_le_pow_right B64_pos (show K ≤ n - 1 by omega)
  omega
theorem below_drew1 (w : World) : Below w.heap.size w w.drew := ⟨rfl, rfl, rfl, Nat.le_refl _, fun _ _ => rfl⟩
/-- What a method that sets a new Int has, ahead of its stores. -/
def IntRet (w w2 : World) (p : Nat) (B : Option Addr) (k c M : Nat) : Prop := Below w.heap.size w w2 ∧ NatIs w2 B k c M
theorem IntRet.cells {w w2 : World} {p k c M : Nat} {B : Option Addr} (h : IntRet w w2 p B k c M) (hp : IntNew w p) : w2.cell? ⟨p, 0, none⟩ = Option.some (.bool false) ∧ w2.cell? ⟨p, 1, none⟩ = Option.some (.slice none 0 0) ∧ w2.frozen? ⟨p, 0, none⟩ = false ∧ w2.frozen? ⟨p, 1, none⟩ = false :=
  int_cells ((h.1.block p (Array.getElem?_eq_some_iff.1 hp).1).trans hp)
theorem IntRet.set {w w2 : World} {p k c M : Nat} {B : Option Addr} (h : IntRet w w2 p B k c M) (hp : IntNew w p) :
    IntIs ((w2.setCell ⟨p, 1, none⟩ (.slice B k c)).setCell ⟨p, 0, none⟩ (.bool false)) p M ∧ w.grownBy ((w2.setCell ⟨p, 1, none⟩ (.slice B k c)).setCell ⟨p, 0, none⟩ (.bool false)) (Option.some p) := int_set hp h.1 h.2
theorem IntRet.setN {w w2 : World} {p k c M : Nat} {B : Option Addr} (h : IntRet w w2 p B k c M) (hp : IntNew w p) (hnew : NewRow w B) :
    IntIsN w.heap.size ((w2.setCell ⟨p, 1, none⟩ (.slice B k c)).setCell ⟨p, 0, none⟩ (.bool false)) p M ∧ w.grownBy ((w2.setCell ⟨p, 1, none⟩ (.slice B k c)).setCell ⟨p, 0, none⟩ (.bool false)) (Option.some p) := by
  have hp2 : w2.heap[p]? = Option.some (.cells #[.bool false, .slice none 0 0] 94 (0, 0)) := (h.1.block p (Array.getElem?_eq_some_iff.1 hp).1).trans hp
  have h1 := heap_setCell_same w2 p 1 _ _ (.slice B k c) hp2
  have h2 := heap_setCell_same _ p 0 _ _ (.bool false) h1
  refine ⟨⟨B, k, c, h2, h.2.other hp2 (fun k hk hne => ?_), hnew⟩, grown_set (grown_set (grown_of_below h.1) 1 _) 0 _⟩
  rw [heap_setCell_other _ ⟨p, 0, none⟩ k _ hne, heap_setCell_other _ ⟨p, 1, none⟩ k _ hne]
set_option maxHeartbeats 1000000 in
theorem int_rsh (w : World) (p q M s K : Nat) (hp : IntNew w p) (h : IntIs w q M) (hs1 : 1 ≤ s) (hs : s ≤ 50000) (hM : M < B64 ^ K) (hK : K ≤ 50000) :
    Calls Tryz.prog 54 #[.pointer (Option.some ⟨p, 0, none⟩), .pointer (Option.some ⟨q, 0, none⟩), .int .u64 (s : Nat)] w fun e w' => e = .returned (.pointer (Option.some ⟨p, 0, none⟩)) ∧ IntIsN w.heap.size w' p (M / 2 ^ s) ∧ w.grownBy w' (Option.some p) := by
  obtain ⟨A, n, cap, hq, hn⟩ := h
  obtain ⟨c0, c1, f0, f1⟩ := int_cells hp
  obtain ⟨d0, d1, _, _⟩ := int_cells hq
  go_enter Tryz.func54, Tryz.ntmps54
  go_wp2_with fail
  have hlen := natIs_len hn hM
  have hp' : w.heap.size > p := (Array.getElem?_eq_some_iff.1 hp).1
  have HR : ∀ w2 : World, Below w.heap.size w w2 → Calls Tryz.prog 82 #[.slice none 0 0, .slice A n cap, .int .u64 (s : Nat)] w2 fun e w' => ∃ B k c, e = .returned (.slice B k c) ∧ IntRet w w' p B k c (M / 2 ^ s) ∧ NewRow w B := fun w2 hb => by
    refine (rsh_nil w2 A n cap M s (hn.below hb) hs1 hs (by omega)).mono ?_
    rintro e w' ⟨⟨B, k, c, he, hk, hnew⟩, hb'⟩
    exact ⟨B, k, c, he, ⟨hb.trans (hb'.mono hb.size), hk⟩, fun a ha => Nat.le_trans hb.size (hnew a ha)⟩
  have H := HR w.drew (below_drew1 w)
  clear HR hn hM
  go_region_with (go_at_call 82; refine H.mono ?_; rintro e w2 ⟨B, k, c, rfl, hr, hnew⟩; obtain ⟨e0, e1, g0, g1⟩ := hr.cells hp; have fin := Lib.hid (hr.setN hp hnew); clear hr hnew)
  all_goals go_wp2_with fail
  all_goals go_ret
  all_goals exact ⟨rfl, fin.out⟩
set_option maxHeartbeats 1000000 in
theorem int_lsh (w : World) (p q M s K : Nat) (hp : IntNew w p) (h : IntIs w q M) (hs1 : s = 0 → 0 < M) (hs : s ≤ 50000) (hM : M < B64 ^ K) (hK : K ≤ 50000) :
    Calls Tryz.prog 56 #[.pointer (Option.some ⟨p, 0, none⟩), .pointer (Option.some ⟨q, 0, none⟩), .int .u64 (s : Nat)] w fun e w' => e = .returned (.pointer (Option.some ⟨p, 0, none⟩)) ∧ IntIs w' p (M * 2 ^ s) ∧ w.grownBy w' (Option.some p) := by
  obtain ⟨A, n, cap, hq, hn⟩ := h
  obtain ⟨c0, c1, f0, f1⟩ := int_cells hp
  obtain ⟨d0, d1, _, _⟩ := int_cells hq
  have hlen := natIs_len hn hM
  have hn0 : s = 0 → 0 < n := fun e => by
    have h1 := hs1 e
    have h2 := hn.1.1
    refine Nat.pos_of_ne_zero fun hz => ?_
    rw [hz, Nat.pow_zero] at h2
    omega
  have hql : q < w.heap.size := (Array.getElem?_eq_some_iff.1 hq).1
  have HR : ∀ w2 : World, Below w.heap.size w w2 → Calls Tryz.prog 85 #[.slice none 0 0, .slice A n cap, .int .u64 (s : Nat)] w2 fun e w' => ∃ B k c, e = .returned (.slice B k c) ∧ IntRet w w' p B k c (M * 2 ^ s) := fun w2 hb => by
    refine (lsh_nil w2 A n cap M s (hn.below hb) hs (by omega) hn0).mono ?_
    rintro e w' ⟨⟨B, k, c, he, hk⟩, hb'⟩
    exact ⟨B, k, c, he, hb.trans (hb'.mono hb.size), hk⟩
  have H := HR w.drew (below_drew1 w)
  go_enter Tryz.func56, Tryz.ntmps56
  go_wp2_with fail
  clear HR hn hM hn0 hs1
  go_region_with (go_at_call 85; refine H.mono ?_; rintro e w2 ⟨B, k, c, rfl, hr⟩; obtain ⟨e0, e1, g0, g1⟩ := hr.cells hp; obtain ⟨i0, _, _, _⟩ := int_cells ((hr.1.block q hql).trans hq); have fin := Lib.hid (hr.set hp); clear hr)
  all_goals go_wp2_with fail
  all_goals go_ret
  all_goals exact ⟨rfl, fin.out⟩
set_option linter.unusedVariables false
set_option linter.unusedSimpArgs false
open Go Go.RowKit
set_option maxRecDepth 100000
theorem NatIs.len_pos {w : World} {A : Option Addr} {n cap M : Nat} (h : NatIs w A n cap M) (hM : 0 < M) : 0 < n := by
  have h2 := h.1.1
  refine Nat.pos_of_ne_zero fun hz => ?_
  rw [hz, Nat.pow_zero] at h2
  omega
theorem NatIs.len_zero {w : World} {A : Option Addr} {n cap : Nat} (h : NatIs w A n cap 0) : n = 0 := by
  refine Nat.eq_zero_of_not_pos fun hz => ?_
  have := h.1.2 hz
  have := Bpow_pos (n - 1)
  omega
theorem wd_low (M : Nat) : wd M 0 = M % B64 := by unfold wd; rw [Nat.pow_zero, Nat.div_one]
theorem and1 (x : Nat) (h : x < B64) : bits .and .u64 (x : Int) 1 = ((x % 2 : Nat) : Int) := by
  have h1 := u64_and_nat x 1 (show x < 18446744073709551616 from h) (by decide)
  rw [show x &&& 1 = x % 2 from Nat.and_two_pow_sub_one_eq_mod _ 1] at h1
  exact h1
theorem int_bit (w : World) (p M : Nat) (h : IntIs w p M) :
    Calls Tryz.prog 59 #[.pointer (Option.some ⟨p, 0, none⟩), .int .i64 0] w fun e w' => e = .returned (.int .u64 ((M % 2 : Nat) : Int)) ∧ w' = w := by
  obtain ⟨A, n, cap, hq, hn⟩ := h
  obtain ⟨d0, d1, _, _⟩ := int_cells hq
  by_cases h0 : M = 0
  · subst h0
    obtain rfl := hn.len_zero
    go_enter Tryz.func59, Tryz.ntmps59
    go_wp2_with fail
    go_ret
    exact ⟨rfl, rfl⟩
  · have hl := hn.len_pos (by omega)
    obtain ⟨g, rfl, ha, hb, hv⟩ := natIs_row hn hl
    have hc := hv.cell 0 (Nat.le_refl _) hl
    have hw := and1 (wd M 0) (wd_lt M 0)
    have hl' : (0 : Int) < (n : Int) := by omega
    have HM := Lib.hid (show wd M 0 % 2 = M % 2 by rw [wd_low]; unfold B64; omega)
    clear hn
    go_enter Tryz.func59, Tryz.ntmps59
    go_wp2_with fail
    go_ret
    exact ⟨by rw [← HM.out]; rfl, rfl⟩
theorem low64_any (w : World) (A : Option Addr) (n cap M : Nat) (hn : NatIs w A n cap M) :
    Calls Tryz.prog 107 #[.slice A n cap] w fun e w' => e = .returned (.int .u64 ((M % B64 : Nat) : Int)) ∧ w' = w := by
  by_cases h0 : M = 0
  · subst h0
    obtain rfl := hn.len_zero
    go_enter Tryz.func107, Tryz.ntmps107
    go_wp2_with fail
    go_ret
    exact ⟨rfl, rfl⟩
  · have hl := hn.len_pos (by omega)
    obtain ⟨g, rfl, ha, hb, hv⟩ := natIs_row hn hl
    have hc := hv.cell 0 (Nat.le_refl _) hl
    have hl' : ((n : Int) == 0) = false := by rw [beq_eq_false_iff_ne]; omega
    have hl2 : (0 : Int) < (n : Int) := by omega
    have HM := Lib.hid (wd_low M)
    clear hn
    go_enter Tryz.func107, Tryz.ntmps107
    go_wp2_with fail
    go_ret
    exact ⟨by rw [← HM.out]; rfl, rfl⟩
theorem int_uint64 (w : World) (p M : Nat) (h : IntIs w p M) :
    Calls Tryz.prog 88 #[.pointer (Option.some ⟨p, 0, none⟩)] w fun e w' => e = .returned (.int .u64 ((M % B64 : Nat) : Int)) ∧ w' = w := by
  obtain ⟨A, n, cap, hq, hn⟩ := h
  obtain ⟨d0, d1, _, _⟩ := int_cells hq
  go_enter Tryz.func88, Tryz.ntmps88
  go_wp2_with fail
  refine (low64_any _ A n cap M hn).mono ?_
  rintro e w' ⟨rfl, rfl⟩
  go_wp2_with fail
  go_ret
  exact ⟨rfl, rfl⟩
theorem norm_one (M : Nat) (h0 : 0 < M) (h1 : M < B64) : NormLen 1 M := ⟨by rw [Nat.pow_one]; exact h1, fun _ => by rw [Nat.sub_self, Nat.pow_zero]; exact h0⟩
theorem wd_self (M : Nat) (h1 : M < B64) : wd M 0 = M := by rw [wd_low, Nat.mod_eq_of_lt h1]
/-- A row made by NewInt: one word. -/
theorem newInt_one (w : World) :
    Calls Tryz.prog 57 #[.int .i64 1] w fun e w' => (∃ p, w.heap.size ≤ p ∧ e = .returned (.pointer (Option.some ⟨p, 0, none⟩)) ∧ IntIs w' p 1) ∧ Below w.heap.size w w' := by
  go_enter Tryz.func57, Tryz.ntmps57
  go_wp2_with fail
  go_ret
  refine ⟨⟨w.heap.size + 1, by omega, rfl, some ⟨w.heap.size, 0, none⟩, 1, 1, heap_alloc2_new w _ _, norm_one 1 (by decide) (by decide), Or.inr ⟨w.heap.size, rfl, by omega, by omega, _, heap_alloc2_old w _ _, rfl, fun j _ hj => ?_⟩⟩, ((Below.refl _ _).alloc (Nat.le_refl _) _).alloc (by simp) _⟩
  obtain rfl : j = 0 := by omega
  rw [wd_self 1 (by decide)]; rfl
set_option linter.unusedVariables false
set_option linter.unusedSimpArgs false
open Go Go.RowKit
set_option maxRecDepth 100000
/-- M has k bits. -/
def IsLen (k M : Nat) : Prop := M < 2 ^ k ∧ (0 < k → 2 ^ (k - 1) ≤ M)
theorem IsLen.unique {k l M : Nat} (h : IsLen k M) (h' : IsLen l M) : k = l := by
  rcases Nat.lt_trichotomy k l with hl | hl | hl
  · have h1 := h'.2 (by omega)
    have h2 := Nat.pow_le_pow_right (show 0 < 2 by decide) (show k ≤ l - 1 by omega)
    have h3 := h.1
    omega
  · exact hl
  · have h1 := h.2 (by omega)
    have h2 := Nat.pow_le_pow_right (show 0 < 2 by decide) (show l ≤ k - 1 by omega)
    have h3 := h'.1
    omega
theorem IsLen.zero : IsLen 0 0 := ⟨by decide, fun h => absurd h (Nat.lt_irrefl 0)⟩
theorem isLen_bitLen (x : Nat) (h : x < B64) : IsLen (Lib.bitLen x) x := by
  by_cases h0 : x = 0
  · subst h0
    rw [show Lib.bitLen 0 = 0 by decide]
    exact IsLen.zero
  · obtain ⟨a, b, c⟩ := Lib.bitLenAux_bounds 64 x h h0
    exact ⟨c, fun _ => b⟩
/-- A word that has t's bits, and more below. -/
theorem smear_step (t s L : Nat) (d : Int) (hd : d = ((2 ^ s : Nat) : Int)) (h : IsLen L t) (hL : L ≤ 64) : ∃ t' : Nat, bits .or .u64 (t : Int) ((t : Int) / d) = (t' : Int) ∧ IsLen L t' := by
  subst hd
  have h64 := Nat.pow_le_pow_right (show 0 < 2 by decide) hL
  have h1 := h.1
  have hd : t / 2 ^ s ≤ t := Nat.div_le_self _ _
  have h2 : t < 18446744073709551616 := by omega
  refine ⟨t ||| t / 2 ^ s, ?_, Nat.or_lt_two_pow h1 (by omega), fun hk => Nat.le_trans (h.2 hk) Nat.left_le_or⟩
  rw [← Int.natCast_ediv]
  exact u64_or_nat t (t / 2 ^ s) h2 (by omega)
theorem len_words (M n L : Nat) (h0 : 0 < n) (hM : M < B64 ^ n) (h : IsLen L (wd M (n - 1))) (hL : 0 < L) : IsLen (64 * (n - 1) + L) M := by
  obtain ⟨m, rfl⟩ : ∃ m, n = m + 1 := ⟨n - 1, by omega⟩
  rw [Nat.add_sub_cancel] at *
  have h1 := wd_add M m
  rw [Nat.mod_eq_of_lt hM] at h1
  have h2 := Nat.mod_lt M (Bpow_pos m)
  have h3 := h.1
  have h4 := h.2 hL
  rw [B64_pow] at *
  refine ⟨?_, fun _ => ?_⟩
  · rw [Nat.pow_add]
    have : (wd M m + 1) * 2 ^ (64 * m) ≤ 2 ^ L * 2 ^ (64 * m) := Nat.mul_le_mul_right _ h3
    rw [Nat.add_mul, Nat.one_mul, Nat.mul_comm (2 ^ L)] at this
    omega
  · rw [show 64 * m + L - 1 = 64 * m + (L - 1) by omega, Nat.pow_add]
    have : 2 ^ (L - 1) * 2 ^ (64 * m) ≤ wd M m * 2 ^ (64 * m) := Nat.mul_le_mul_right _ h4
    rw [Nat.mul_comm (2 ^ (L - 1))] at this
    omega
theorem wd_top_pos (M n : Nat) (h0 : 0 < n) (h : NormLen n M) : 0 < wd M (n - 1) := by
  refine Nat.pos_of_ne_zero fun hz => ?_
  have h1 := norm_step (n - 1) M (by rw [show n - 1 + 1 = n by omega]; exact h.1) hz
  have h2 := h.2 h0
  omega
set_option maxHeartbeats 1000000 in
theorem bitLen_any (w : World) (A : Option Addr) (n cap M k : Nat) (hn : NatIs w A n cap M) (hk : IsLen k M) (hm : n ≤ 50000) :
    Calls Tryz.prog 80 #[.slice A n cap] w fun e w' => e = .returned (.int .i64 (k : Nat)) ∧ w' = w := by
  by_cases h0 : n = 0
  · subst h0
    have hz : M = 0 := by have := hn.1.1; rw [Nat.pow_zero] at this; omega
    subst hz
    obtain rfl := hk.unique IsLen.zero
    clear hn hk
    go_enter Tryz.func80, Tryz.ntmps80
    go_wp2_with fail
    go_ret
    exact ⟨rfl, rfl⟩
  · obtain ⟨g, rfl, ha, hb, hv⟩ := natIs_row hn (by omega)
    obtain ⟨m, rfl⟩ : ∃ m, n = m + 1 := ⟨n - 1, by omega⟩
    have hc := hv.cell m (Nat.zero_le _) (by omega)
    have htp := wd_top_pos M (m + 1) (by omega) hn.1
    have htl := wd_lt M m
    rw [Nat.add_sub_cancel] at htp
    obtain ⟨L, hL⟩ : ∃ L, L = Lib.bitLen (wd M m) := ⟨_, rfl⟩
    have hl0 := isLen_bitLen (wd M m) htl
    rw [← hL] at hl0
    have hL64 : L ≤ 64 := by
      refine Nat.le_of_not_lt fun hgt => ?_
      have h1 := hl0.2 (by omega)
      have h2 := Nat.pow_le_pow_right (show 0 < 2 by decide) (show 64 ≤ L - 1 by omega)
      unfold B64 at htl
      omega
    have hLp : 0 < L := by
      refine Nat.pos_of_ne_zero fun hz => ?_
      subst hz
      have := hl0.1
      rw [Nat.pow_zero] at this
      omega
    have HK := Lib.hid (hk.unique (len_words M (m + 1) L (by omega) hn.1.1 (by rw [Nat.add_sub_cancel]; exact hl0) hLp))
    clear hn hk hL htp
    generalize wd M m = t0 at *
    obtain ⟨t1, e1, l1⟩ := smear_step t0 1 L 2 rfl hl0 hL64
    obtain ⟨t2, e2, l2⟩ := smear_step t1 2 L 4 rfl l1 hL64
    obtain ⟨t3, e3, l3⟩ := smear_step t2 4 L 16 rfl l2 hL64
    obtain ⟨t4, e4, l4⟩ := smear_step t3 8 L 256 rfl l3 hL64
    obtain ⟨t5, e5, l5⟩ := smear_step t4 16 L 65536 rfl l4 hL64
    obtain ⟨t6, e6, l6⟩ := smear_step t5 32 L 4294967296 rfl l5 hL64
    rw [show (t5 : Int) / 4294967296 = (t5 : Int) / 65536 / 65536 by omega] at e6
    have h64 := Nat.pow_le_pow_right (show 0 < 2 by decide) hL64
    have hu6 : t6 < 18446744073709551616 := Nat.lt_of_lt_of_le l6.1 h64
    have HU := Lib.hid (l6.unique (isLen_bitLen t6 hu6))
    have hcall := Tryz.bits_Len (t6 : Int) w (by omega) (by omega)
    have HM := Lib.hid (show (m : Int) * 64 + (L : Nat) = ((64 * (m + 1 - 1) + L : Nat) : Int) by omega)
    rw [Int.toNat_natCast, ← HU.out] at hcall
    have hm1 : ((m + 1 : Nat) : Int) - 1 = (m : Nat) := by omega
    clear l1 l2 l3 l4 l5 l6 hl0
    go_enter Tryz.func80, Tryz.ntmps80
    go_wp2_with fail
    refine hcall.mono ?_
    rintro e w' ⟨rfl, rfl⟩
    go_wp2_with fail
    go_ret
    exact ⟨by rw [HK.out, ← HM.out]; rfl, rfl⟩
theorem int_bitLen (w : World) (p M k : Nat) (h : IntIs w p M) (hk : IsLen k M) (hM : k ≤ 1000000) :
    Calls Tryz.prog 53 #[.pointer (Option.some ⟨p, 0, none⟩)] w fun e w' => e = .returned (.int .i64 (k : Nat)) ∧ w' = w := by
  obtain ⟨A, n, cap, hq, hn⟩ := h
  obtain ⟨d0, d1, _, _⟩ := int_cells hq
  have hlen : n ≤ 50000 := by
    obtain ⟨K, hK⟩ : ∃ K, K = 50000 := ⟨_, rfl⟩
    rw [← hK]
    refine natIs_len hn (Nat.lt_of_lt_of_le hk.1 ?_)
    rw [B64_pow]
    exact Nat.pow_le_pow_right (by decide) (by omega)
  go_enter Tryz.func53, Tryz.ntmps53
  go_wp2_with fail
  refine (bitLen_any _ A n cap M k hn hk hlen).mono ?_
  rintro e w' ⟨rfl, rfl⟩
  go_wp2_with fail
  go_ret
  exact ⟨rfl, rfl⟩
end Go.Proofs.YtopilodakphhgaaGreatDoor
