/- ambitref2.Round: what acc tells of the same real. -/
import Derived.Test.YtopilodakphhgaaGreatDoorRefTolds
import Derived.Test.YtopilodakphhgaaGreatDoorRefRound2
namespace Go.Proofs.YtopilodakphhgaaGreatDoor
set_option linter.unusedVariables false
set_option linter.unusedSimpArgs false
open Go Go.RowKit
set_option maxRecDepth 100000
theorem overH_fst (M P nn : Nat) (s : Int) (hs : s = (P : Int) - (nn : Int)) : (overH M s).1 = M * 2 ^ P / 2 ^ nn := by rw [over_scaled M P nn s hs]
theorem refRound_bad (w : World) (neg : Bool) (A : Option Addr) (n cap : Nat) (E d : Int) (hd : d < 0 ∨ 2 < d) (hd1 : -9223372036854775808 ≤ d) (hd2 : d ≤ 9223372036854775807) :
    Calls Tryz.prog 42 #[.int .i64 d, .agg #[.bool neg, .slice A n cap, .int .i64 E]] w fun e w' => e = .returned (.tuple #[.int .u64 0, .bool false]) ∧ Below w.heap.size w w' := by
  by_cases h1 : d < 0
  · go_enter Tryz.func42, Tryz.ntmps42
    go_wp2_with fail
    go_ret2
    exact ⟨rfl, below_alloc w _⟩
  · have h2 : 2 < d := by omega
    have h3 : decide (d < 0) = false := by simp; omega
    go_enter Tryz.func42, Tryz.ntmps42
    go_wp2_with fail
    go_ret2
    exact ⟨rfl, below_alloc w _⟩
theorem refRound_zero (w : World) (neg : Bool) (A : Option Addr) (cap : Nat) (E d : Int) (hd : d = 0 ∨ d = 1 ∨ d = 2) :
    Calls Tryz.prog 42 #[.int .i64 d, .agg #[.bool neg, .slice A 0 cap, .int .i64 E]] w fun e w' => e = .returned (.tuple #[.int .u64 0, .bool true]) ∧ Below w.heap.size w w' := by
  rcases hd with rfl | rfl | rfl
  all_goals go_enter Tryz.func42, Tryz.ntmps42
  all_goals go_wp2_with fail
  all_goals go_ret2
  all_goals exact ⟨rfl, below_alloc w _⟩
set_option maxHeartbeats 8000000 in
theorem refRound_num (w : World) (d : Int) (neg : Bool) (v : Value) (M n1 L0 : Nat) (E : Int) (hd : d = 0 ∨ d = 1 ∨ d = 2) (h : MagIs w v M) (hM0 : M ≠ 0) (hL0 : L0 ≤ 1000) (hM : M < W32 ^ L0) (hE1 : -10000 ≤ E) (hE2 : E ≤ 10000) (hn : (n1 : Int) = max ((blen M : Int) + E - 53) (-1074) + 1075) :
    Calls Tryz.prog 42 #[.int .i64 d, .agg #[.bool neg, v, .int .i64 E]] w fun e w' =>
      e = .returned (.tuple #[.int .u64 (((finishB (outB d neg) neg ((overH M (E - ((n1 : Int) - 1076))).1 / 2 + (moreB d neg ((overH M (E - ((n1 : Int) - 1076))).1 % 2 == 1) (overH M (E - ((n1 : Int) - 1076))).2 ((overH M (E - ((n1 : Int) - 1076))).1 / 2 % 2 == 1)).toNat) (n1 + 1137)).1 : Nat) : Int), .bool (finishB (outB d neg) neg ((overH M (E - ((n1 : Int) - 1076))).1 / 2 + (moreB d neg ((overH M (E - ((n1 : Int) - 1076))).1 % 2 == 1) (overH M (E - ((n1 : Int) - 1076))).2 ((overH M (E - ((n1 : Int) - 1076))).1 / 2 % 2 == 1)).toNat) (n1 + 1137)).2]) ∧ Below w.heap.size w w' := by
  have hbl : blen M ≤ 32 * L0 := blen_le M (32 * L0) (by rw [← W32_two]; exact hM)
  have hlen := fun (w1 : World) (h1 : Below w.heap.size w w1) => length_any w1 v M (h.below h1)
  obtain ⟨L, hL⟩ : ∃ L, L = blen M := ⟨_, rfl⟩
  rw [← hL] at hn hbl hlen
  obtain ⟨A, c, cap, rfl, hc, hc0⟩ := h.form
  have hcne : c ≠ 0 := fun e => hM0 (hc0.1 e)
  have hc1 : ((c : Int) == 0) = false := by rw [beq_eq_false_iff_ne]; omega
  have hmag := fun (w1 : World) (h1 : Below w.heap.size w w1) => h.below (w1 := w1) h1
  have hb0 := below_alloc w (.cells #[.bool neg, .slice A c cap, .int .i64 E] 29)
  have hl0 := hlen _ (hb0.drew)
  have hcells := heap_alloc_new w (.cells #[.bool neg, .slice A c cap, .int .i64 E] 29)
  obtain ⟨oh, hoh⟩ : ∃ oh, oh = overH M (E - ((n1 : Int) - 1076)) := ⟨_, rfl⟩
  rw [← hoh]
  -- h has 54 bits at the most
  have hn1p : 1 ≤ n1 := by omega
  have hnl : n1 ≤ 100000 := by omega
  have hfst : oh.1 < 18014398509481984 ∧ (n1 = 1 ∨ 4503599627370496 ≤ oh.1 / 2) := by
    have hP : E - ((n1 : Int) - 1076) = (((E + 20000).toNat : Nat) : Int) - (((n1 + 18924 : Nat)) : Int) := by omega
    rw [hoh, overH_fst M (E + 20000).toNat (n1 + 18924) _ hP]
    generalize hPP : (E + 20000).toNat = P
    have hMp : 0 < M := by omega
    have hbM := blen_shift M P hMp
    have hlo := isLen_blen (M * 2 ^ P)
    rw [hbM, ← hL] at hlo
    constructor
    · rw [Nat.div_lt_iff_lt_mul (Nat.two_pow_pos _)]
      refine Nat.lt_of_lt_of_le hlo.1 ?_
      rw [show (18014398509481984 : Nat) = 2 ^ 54 from rfl, ← Nat.pow_add]
      exact Nat.pow_le_pow_right (by decide) (by omega)
    · by_cases h1 : n1 = 1
      · exact Or.inl h1
      · right
        rw [Nat.div_div_eq_div_mul, ← Nat.pow_succ, Nat.le_div_iff_mul_le (Nat.two_pow_pos _)]
        rw [show (4503599627370496 : Nat) = 2 ^ 52 from rfl, ← Nat.pow_add]
        exact Nat.le_trans (Nat.pow_le_pow_right (by decide) (by omega)) (hlo.2 (by omega))
  obtain ⟨hoh1, hoh2⟩ := hfst
  obtain ⟨RB, hRB⟩ : ∃ RB, RB = finishB (outB d neg) neg (oh.1 / 2 + (moreB d neg (oh.1 % 2 == 1) oh.2 (oh.1 / 2 % 2 == 1)).toNat) (n1 + 1137) := ⟨_, rfl⟩
  rw [← hRB]
  have HRB := Lib.hid hRB
  have hd0 : decide (d < 0) = false := by simp; omega
  have hd2 : decide (2 < d) = false := by simp; omega
  have hw1 : IntKind.i64.wrap ((L : Int) + E) = (L : Int) + E := by rw [IntKind.wrap_i64]; omega
  have hw2 : IntKind.i64.wrap ((L : Int) + E - 53) = (L : Int) + E - 53 := by rw [IntKind.wrap_i64]; omega
  have hmx : max ((L : Int) + E - 53) (-1074) = (n1 : Int) - 1075 := by omega
  have HL := Lib.hid hL
  have HN := Lib.hid hn
  have HO := Lib.hid hoh
  clear hL hn hc0 h hlen hRB hoh
  go_enter Tryz.func42, Tryz.ntmps42
  go_wp2_with fail
  go_cut [6] from 19 to 26 (fun ev wx => ev = .int .i64 ((n1 : Int) - 1075) ∧ wx = (w.alloc (.cells #[.bool neg, .slice A c cap, .int .i64 E] 29)).drew)
  case first =>
    go_region_with ((go_at_call 65; refine hl0.mono ?_; rintro e w1 ⟨rfl, rfl⟩))
    all_goals go_wp2_with fail
    all_goals go_meet
    all_goals exact ⟨rfl, rfl⟩
  case rest =>
    obtain ⟨hev, rfl⟩ := hcut
    subst hev
    clear hl0
    go_wp2_with fail
    have hb1 : Below w.heap.size w (w.alloc (.cells #[.bool neg, .slice A c cap, .int .i64 E] 29)).drew := hb0.drew
    have hc1' : (w.alloc (.cells #[.bool neg, .slice A c cap, .int .i64 E] 29)).drew.heap[w.heap.size]? = some (.cells #[.bool neg, .slice A c cap, .int .i64 E] 29 (0, 0)) := hcells
    have hs1 : (w.alloc (.cells #[.bool neg, .slice A c cap, .int .i64 E] 29)).drew.heap.size = w.heap.size + 1 := by simp
    clear hcells hb0
    generalize (w.alloc (.cells #[.bool neg, .slice A c cap, .int .i64 E] 29)).drew = W1 at *
    refine (Size_any W1 neg A c cap E).mono ?_
    rintro e w2 ⟨rfl, hb2⟩
    have hb12 := hb1.trans (hb2.mono hb1.size)
    have hc2 := (hb2.block w.heap.size (by omega)).trans hc1'
    have hov := Over2_any w2 (.slice A c cap) M E ((n1 : Int) - 1076) L0 hL0 (hmag w2 hb12) hM (by omega) (by omega)
    rw [← HO.out] at hov
    have hn1 : (n1 : Int) - 1075 - 1 = (n1 : Int) - 1076 := by omega
    have hlt2 : w.heap.size < w2.heap.size := by have := hb2.size; omega
    clear hb1 hc1' hs1 hb2 hmag
    go_wp2_with fail
    refine hov.mono ?_
    rintro e w3 ⟨v', rfl, hm3, hb3⟩
    have hc3 := (hb3.block w.heap.size hlt2).trans hc2
    have hb13 := hb12.trans (hb3.mono hb12.size)
    obtain ⟨A', n', cap', rfl, _⟩ := hm3.form
    clear hov hb3 hc2 hb12
    go_wp2_with fail
    have hb7 := hb13.trans ((below_alloc w3 (.cells #[.bool false, .slice A' n' cap', .int .i64 0] 29)).mono hb13.size)
    have hm7 := hm3.below (below_alloc w3 (.cells #[.bool false, .slice A' n' cap', .int .i64 0] 29))
    have hg7 := heap_alloc_new w3 (.cells #[.bool false, .slice A' n' cap', .int .i64 0] 29)
    have hc7 := ((below_alloc w3 (.cells #[.bool false, .slice A' n' cap', .int .i64 0] 29)).block w.heap.size (by have := (Array.getElem?_eq_some_iff.1 hc3).1; exact this)).trans hc3
    have f0 : (w3.alloc (.cells #[.bool false, .slice A' n' cap', .int .i64 0] 29)).cell? ⟨w.heap.size, 0, none⟩ = some (.bool neg) := by rw [cell_of_row _ _ _ _ _ _ hc7]; rfl
    have f1 : (w3.alloc (.cells #[.bool false, .slice A' n' cap', .int .i64 0] 29)).cell? ⟨w3.heap.size, 1, none⟩ = some (.slice A' n' cap') := by rw [cell_of_row _ _ _ _ _ _ hg7]; rfl
    clear hc7 hg7 hc3 hm3 hb13 hlt2
    generalize w3.alloc (.cells #[.bool false, .slice A' n' cap', .int .i64 0] 29) = W7 at *
    generalize w3.heap.size = g7 at *
    have hword := word_any W7.drew (.slice A' n' cap') oh.1 (hm7.heap rfl) (by unfold B64; omega)
    have htold := rtold_any W7.drew d neg oh.2 oh.1 n1 hd hoh1 hn1p hnl hoh2
    rw [← HRB.out] at htold
    clear hm7 HRB HO hoh1 hoh2
    generalize oh.1 = H at *
    generalize oh.2 = rb at *
    go_region_held3 (fun w' => w'.cell? ⟨w.heap.size, 0, none⟩ = some (.bool neg) ∧ w'.cell? ⟨g7, 1, none⟩ = some (.slice A' n' cap'))
      (go_keep)
      (first
        | (go_at_call 69; refine hword.mono ?_; rintro e w' ⟨rfl, rfl⟩)
        | (go_at_call 68; refine htold.mono ?_; rintro e w' ⟨rfl, rfl⟩))
    all_goals go_wp2_with fail
    all_goals go_ret2
    all_goals exact ⟨rfl, hb7.drew⟩
/-- A document's number: its real in the lowest bit's units. -/
def NumIs (w : World) (neg : Bool) (v : Value) (E : Int) (z : Int) : Prop :=
  ∃ M : Nat, MagIs w v M ∧ (M = 0 → E = 0) ∧ -2212 ≤ E ∧ E ≤ 5000 ∧ M < W32 ^ 400 ∧ z = (if neg = true then -((M * 2 ^ (E + 2212).toNat : Nat) : Int) else ((M * 2 ^ (E + 2212).toNat : Nat) : Int))
theorem roundS_some (d : Int) (z : Int) : roundS d (some z) = toldB d (decide (z < 0)) z.natAbs := rfl
theorem refRound_any (w : World) (d : Int) (neg : Bool) (v : Value) (E z : Int) (h : NumIs w neg v E z) (hd1 : -9223372036854775808 ≤ d) (hd2 : d ≤ 9223372036854775807) :
    Calls Tryz.prog 42 #[.int .i64 d, .agg #[.bool neg, v, .int .i64 E]] w fun e w' => e = .returned (.tuple #[.int .u64 ((roundS d (some z)).1 : Nat), .bool (roundS d (some z)).2]) ∧ Below w.heap.size w w' := by
  obtain ⟨M, hm, hE0, hE1, hE2, hM, hz⟩ := h
  have hab : z.natAbs = M * 2 ^ (E + 2212).toNat := by rw [hz]; split <;> omega
  obtain ⟨A, n, cap, rfl, hn, hn0⟩ := hm.form
  by_cases hd : d < 0 ∨ 2 < d
  · rw [roundS_some, toldB_bad d _ _ hd]
    exact refRound_bad w neg A n cap E d hd hd1 hd2
  · have hd3 : d = 0 ∨ d = 1 ∨ d = 2 := by omega
    by_cases hM0 : M = 0
    · obtain rfl : n = 0 := hn0.2 hM0
      rw [roundS_some, hab, hM0, Nat.zero_mul, toldB_zero d _ hd]
      exact refRound_zero w neg A cap E d hd3
    · obtain ⟨n1, hn1⟩ : ∃ n1 : Nat, (n1 : Int) = max ((blen M : Int) + E - 53) (-1074) + 1075 := ⟨(max ((blen M : Int) + E - 53) (-1074) + 1075).toNat, by omega⟩
      have hr := refRound_num w d neg (.slice A n cap) M n1 400 E hd3 hm hM0 (by decide) hM (by omega) (by omega) hn1
      obtain ⟨P, hP⟩ : ∃ P, P = (E + 2212).toNat := ⟨_, rfl⟩
      rw [← hP] at hab hz
      have hMp : 0 < M := by omega
      have hzp : 0 < M * 2 ^ P := Nat.mul_pos hMp (Nat.two_pow_pos P)
      have hsg : decide (z < 0) = neg := by
        rw [hz]
        cases neg
        · rw [if_neg (by decide)]; exact decide_eq_false (by omega)
        · rw [if_pos rfl]; exact decide_eq_true (by omega)
      have hsh : n1 + 1137 = shiftOf (M * 2 ^ P) := by
        unfold shiftOf
        rw [blen_shift M P hMp]
        omega
      rw [over_scaled M P (n1 + 1136) (E - ((n1 : Int) - 1076)) (by omega)] at hr
      rw [roundS_some, hab, hsg, told_split d neg (M * 2 ^ P) (n1 + 1137) hd3 (by omega) hsh (by omega), show n1 + 1137 - 1 = n1 + 1136 by omega]
      exact hr
end Go.Proofs.YtopilodakphhgaaGreatDoor
