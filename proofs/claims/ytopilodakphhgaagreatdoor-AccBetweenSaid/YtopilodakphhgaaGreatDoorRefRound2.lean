/- ambitref2.Round to the nearest, of 53 bits at the most, nothing left over. -/
import Derived.Test.YtopilodakphhgaaGreatDoorRefRound
import Derived.Test.YtopilodakphhgaaGreatDoorRounds
import Derived.BigQuiet
import Derived.Deep.CutRange
namespace Go.Proofs.YtopilodakphhgaaGreatDoor
set_option linter.unusedVariables false
set_option linter.unusedSimpArgs false
open Go Go.RowKit
set_option maxRecDepth 100000
set_option maxHeartbeats 4000000 in
theorem refRound (w : World) (neg : Bool) (v : Value) (M n k : Nat) (E : Int) (h : MagIs w v M) (hM0 : M ≠ 0) (hM : M < 9007199254740992) (hE1 : -1074 ≤ E) (hE2 : E ≤ 90000) (hn : (n : Int) = max ((blen M : Int) + E - 53) (-1074) + 1075) (hk : (k : Int) = E - ((n : Int) - 1075)) :
    Calls Tryz.prog 42 #[.int .i64 0, .agg #[.bool neg, v, .int .i64 E]] w fun e w' => e = .returned (.tuple #[.int .u64 (((if n ≤ 2046 then numB neg (M * 2 ^ k) (n + 1137) else 0 : Nat)) : Int), .bool (decide (n ≤ 2046))]) ∧ Below w.heap.size w w' := by
  have hb53 := blen_le M 53 (by omega)
  have hlen := fun (w1 : World) (h1 : Below w.heap.size w w1) => length_any w1 v M (h.below h1)
  obtain ⟨L, hL⟩ : ∃ L, L = blen M := ⟨_, rfl⟩
  rw [← hL] at hn hb53 hlen
  obtain ⟨A, c, cap, rfl, hc, hc0⟩ := h.form
  have hcne : c ≠ 0 := fun e => hM0 (hc0.1 e)
  have hc1 : ((c : Int) == 0) = false := by rw [beq_eq_false_iff_ne]; omega
  have hmag := fun (w1 : World) (h1 : Below w.heap.size w w1) => h.below (w1 := w1) h1
  have hb0 := below_alloc w (.cells #[.bool neg, .slice A c cap, .int .i64 E] 29)
  have hl0 := hlen _ (hb0.drew)
  have hcells := heap_alloc_new w (.cells #[.bool neg, .slice A c cap, .int .i64 E] 29)
  have hw1 : IntKind.i64.wrap ((L : Int) + E) = (L : Int) + E := by rw [IntKind.wrap_i64]; omega
  have hw2 : IntKind.i64.wrap ((L : Int) + E - 53) = (L : Int) + E - 53 := by rw [IntKind.wrap_i64]; omega
  have hmx : max ((L : Int) + E - 53) (-1074) = (n : Int) - 1075 := by omega
  obtain ⟨R, hR⟩ : ∃ R : Nat, R = if n ≤ 2046 then numB neg (M * 2 ^ k) (n + 1137) else 0 := ⟨_, rfl⟩
  obtain ⟨bb, hB⟩ : ∃ bb : Bool, bb = decide (n ≤ 2046) := ⟨_, rfl⟩
  rw [← hR, ← hB]
  have HR := Lib.hid hR
  have HB := Lib.hid hB
  clear hR hB
  have HL := Lib.hid hL
  have HN := Lib.hid hn
  clear hL hn hc0 h hlen
  go_enter Tryz.func42, Tryz.ntmps42
  go_wp2_with fail
  go_cut [6] from 19 to 26 (fun ev wx => ev = .int .i64 ((n : Int) - 1075) ∧ wx = (w.alloc (.cells #[.bool neg, .slice A c cap, .int .i64 E] 29)).drew)
  case first =>
    go_region_with ((go_at_call 65; refine hl0.mono ?_; rintro e w1 ⟨rfl, rfl⟩))
    all_goals go_wp2_with fail
    all_goals go_meet
    all_goals exact ⟨rfl, rfl⟩
  case rest =>
    obtain ⟨hev, rfl⟩ := hcut
    subst hev
    clear hl0
    go_wp2_with fail
    have hb1 : Below w.heap.size w (w.alloc (.cells #[.bool neg, .slice A c cap, .int .i64 E] 29)).drew := hb0.drew
    have hc1' : (w.alloc (.cells #[.bool neg, .slice A c cap, .int .i64 E] 29)).drew.heap[w.heap.size]? = some (.cells #[.bool neg, .slice A c cap, .int .i64 E] 29 (0, 0)) := hcells
    have hs1 : (w.alloc (.cells #[.bool neg, .slice A c cap, .int .i64 E] 29)).drew.heap.size = w.heap.size + 1 := by simp
    clear hcells hb0
    generalize (w.alloc (.cells #[.bool neg, .slice A c cap, .int .i64 E] 29)).drew = W1 at *
    refine (Size_any W1 neg A c cap E).mono ?_
    rintro e w2 ⟨rfl, hb2⟩
    have hb12 := hb1.trans (hb2.mono hb1.size)
    have hc2 := (hb2.block w.heap.size (by omega)).trans hc1'
    have hov := Over2_left w2 (.slice A c cap) M ((k + 1) / 32) ((k + 1) % 32) ((n : Int) - 1076) 2 (by decide) (hmag w2 hb12) (Nat.lt_trans hM (show 9007199254740992 < W32 ^ 2 by decide)) (by have := HN.out; omega) (by omega) (by have := HN.out; omega)
    rw [show 32 * ((k + 1) / 32) + (k + 1) % 32 = k + 1 by omega, show (n : Int) - 1076 + ((k + 1 : Nat) : Int) = E by omega] at hov
    have hnl : n ≤ 100000 := by have := HN.out; omega
    have hn1 : (n : Int) - 1075 - 1 = (n : Int) - 1076 := by omega
    have hlt2 : w.heap.size < w2.heap.size := by have := hb2.size; omega
    have HK := Lib.hid hk
    clear hb1 hc1' hs1 hb2 hmag hk
    go_wp2_with fail
    refine hov.mono ?_
    rintro e w3 ⟨v', rfl, hm3, hb3⟩
    have hc3 := (hb3.block w.heap.size hlt2).trans hc2
    have hb13 := hb12.trans (hb3.mono hb12.size)
    obtain ⟨A', n', cap', rfl, _⟩ := hm3.form
    clear hov hb3 hc2 hb12
    go_wp2_with fail
    have hb7 := hb13.trans ((below_alloc w3 (.cells #[.bool false, .slice A' n' cap', .int .i64 0] 29)).mono hb13.size)
    have hm7 := hm3.below (below_alloc w3 (.cells #[.bool false, .slice A' n' cap', .int .i64 0] 29))
    have hg7 := heap_alloc_new w3 (.cells #[.bool false, .slice A' n' cap', .int .i64 0] 29)
    have hc7 := ((below_alloc w3 (.cells #[.bool false, .slice A' n' cap', .int .i64 0] 29)).block w.heap.size (by have := (Array.getElem?_eq_some_iff.1 hc3).1; exact this)).trans hc3
    have f0 : (w3.alloc (.cells #[.bool false, .slice A' n' cap', .int .i64 0] 29)).cell? ⟨w.heap.size, 0, none⟩ = some (.bool neg) := by rw [cell_of_row _ _ _ _ _ _ hc7]; rfl
    have f1 : (w3.alloc (.cells #[.bool false, .slice A' n' cap', .int .i64 0] 29)).cell? ⟨w3.heap.size, 1, none⟩ = some (.slice A' n' cap') := by rw [cell_of_row _ _ _ _ _ _ hg7]; rfl
    clear hc7 hg7 hc3 hm3 hb13 hlt2
    generalize w3.alloc (.cells #[.bool false, .slice A' n' cap', .int .i64 0] 29) = W7 at *
    generalize w3.heap.size = g7 at *
    have hQ0 : 0 < M * 2 ^ k := Nat.mul_pos (by omega) (Nat.two_pow_pos k)
    have hbQ : blen (M * 2 ^ k) = L + k := by rw [blen_shift M k (by omega), HL.out]
    have hQ1 : M * 2 ^ k < 9007199254740992 := by
      have h1 := (isLen_blen (M * 2 ^ k)).1
      rw [hbQ] at h1
      exact Nat.lt_of_lt_of_le h1 (show 2 ^ (L + k) ≤ 2 ^ 53 from Nat.pow_le_pow_right (by decide) (by have := HN.out; have := HK.out; omega))
    have hQ2 : n = 1 ∨ 4503599627370496 ≤ M * 2 ^ k := by
      by_cases h1 : n = 1
      · exact Or.inl h1
      · right
        have h2 := (isLen_blen (M * 2 ^ k)).2 (by rw [hbQ]; have := HN.out; have := HK.out; omega)
        rw [hbQ, show L + k - 1 = 52 by have := HN.out; have := HK.out; omega] at h2
        exact h2
    have hQQ : M * 2 ^ (k + 1) = 2 * (M * 2 ^ k) := by rw [Nat.pow_succ, ← Nat.mul_assoc, Nat.mul_comm]
    rw [hQQ] at hm7
    have hnp : 1 ≤ n := by have := HN.out; omega
    generalize M * 2 ^ k = Q at *
    have hword := word_any W7.drew (.slice A' n' cap') (2 * Q) (hm7.heap rfl) (by unfold B64; omega)
    have htold : Calls Tryz.prog 68 #[.int .i64 0, .bool neg, .int .u64 ((2 * Q : Nat) : Int), .bool false, .int .i64 ((n : Int) - 1075)] W7.drew fun e w' => e = .returned (.tuple #[.int .u64 ((R : Nat) : Int), .bool bb]) ∧ w' = W7.drew := by
      by_cases hbig : n ≤ 2046
      · rw [HR.out, HB.out, if_pos hbig, decide_eq_true hbig]
        exact told_low W7.drew neg Q n hQ0 hQ1 hnp hbig hQ2
      · rw [HR.out, HB.out, if_neg hbig, decide_eq_false hbig]
        exact told_big W7.drew neg Q n (by omega) hQ1 (by omega) hnl
    clear hQQ hbQ hQ2 hm7 HR HB
    generalize 2 * Q = Q2 at *
    go_region_held3 (fun w' => w'.cell? ⟨w.heap.size, 0, none⟩ = some (.bool neg) ∧ w'.cell? ⟨g7, 1, none⟩ = some (.slice A' n' cap'))
      (go_keep)
      (first
        | (go_at_call 69; refine hword.mono ?_; rintro e w' ⟨rfl, rfl⟩)
        | (go_at_call 68; refine htold.mono ?_; rintro e w' ⟨rfl, rfl⟩))
    all_goals go_wp2_with fail
    all_goals go_ret2
    all_goals exact ⟨rfl, hb7.drew⟩
end Go.Proofs.YtopilodakphhgaaGreatDoor
