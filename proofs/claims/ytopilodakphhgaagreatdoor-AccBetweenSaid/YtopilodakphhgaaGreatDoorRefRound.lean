/- ambitref2.Over2, told, Round, where nothing is left over. -/
import Derived.Test.YtopilodakphhgaaGreatDoorRefLow
import Derived.Deep.RegionHeld3
import Derived.Deep.RegionWith
namespace Go.Proofs.YtopilodakphhgaaGreatDoor
set_option linter.unusedVariables false
set_option linter.unusedSimpArgs false
open Go Go.RowKit
set_option maxRecDepth 100000
theorem set3 {w : World} {g : Nat} {t : TypeId} {a0 a1 a2 : Value} (h : w.heap[g]? = some (.cells #[a0, a1, a2] t (0, 0))) (b0 b1 b2 : Value) :
    (((w.setCell ⟨g, 0, none⟩ b0).setCell ⟨g, 1, none⟩ b1).setCell ⟨g, 2, none⟩ b2).heap[g]? = some (.cells #[b0, b1, b2] t (0, 0)) ∧ w.grownBy (((w.setCell ⟨g, 0, none⟩ b0).setCell ⟨g, 1, none⟩ b1).setCell ⟨g, 2, none⟩ b2) (some g) := by
  have h0 : (w.setCell ⟨g, 0, none⟩ b0).heap[g]? = some (.cells #[b0, a1, a2] t (0, 0)) := heap_setCell_same w g 0 _ _ _ h
  have h1 : ((w.setCell ⟨g, 0, none⟩ b0).setCell ⟨g, 1, none⟩ b1).heap[g]? = some (.cells #[b0, b1, a2] t (0, 0)) := heap_setCell_same _ g 1 _ _ _ h0
  have h2 : (((w.setCell ⟨g, 0, none⟩ b0).setCell ⟨g, 1, none⟩ b1).setCell ⟨g, 2, none⟩ b2).heap[g]? = some (.cells #[b0, b1, b2] t (0, 0)) := heap_setCell_same _ g 2 _ _ _ h1
  exact ⟨h2, grown_set (grown_set (grown_set (grown_refl w _) 0 b0) 1 b1) 2 b2⟩
theorem below_of_grown' {w w1 : World} {B g : Nat} (h : w.grownBy w1 (some g)) (hB : B ≤ w.heap.size) (hg : B ≤ g) : Below B w w1 :=
  ⟨h.os, h.tape, h.output, h.size, fun k hk => h.block k (by omega) (fun e => by injection e with e; omega)⟩
/-- A block of another type is written: the row stands. -/
theorem MagIs.other {w w' : World} {v : Value} {M g : Nat} {c : Array Value} (h : MagIs w v M) (hc : w.heap[g]? = some (.cells c 29 (0, 0))) (hg : w.grownBy w' (some g)) : MagIs w' v M := by
  rcases h with h | ⟨gh, n, cap, h1, h2, h3, h4, h5⟩
  · exact Or.inl h
  · refine Or.inr ⟨gh, n, cap, h1, h2, h3, h4, h5.grown hg fun e => ?_⟩
    injection e with e
    subst e
    obtain ⟨cur, hcur, _, _⟩ := h5
    rw [hc] at hcur
    injection hcur with hcur
    injection hcur with _ ht _
    exact absurd ht (by decide)
theorem Over2_left (w : World) (v : Value) (M q r : Nat) (E : Int) (L0 : Nat) (hL0 : L0 ≤ 1000) (h : MagIs w v M) (hM : M < W32 ^ L0) (hq : q ≤ 100000) (hr : r ≤ 31) (hE : -1000000 ≤ E ∧ E ≤ 1000000) :
    Calls Tryz.prog 66 #[.agg #[.bool false, v, .int .i64 (E + ((32 * q + r : Nat) : Int))], .int .i64 E] w fun e w' => ∃ v', e = .returned (.tuple #[.agg #[.bool false, v', .int .i64 0], .bool false]) ∧ MagIs w' v' (M * 2 ^ (32 * q + r)) ∧ Below w.heap.size w w' := by
  have hn : ∀ A n cap, v = .slice A n cap → n ≤ 100000 := fun A n cap hv => by
    rcases h with ⟨h1, _⟩ | ⟨g, n1, cap1, h1, h2, h3, h4, h5⟩
    · rw [h1] at hv; injection hv with _ e _; omega
    · rw [h1] at hv
      injection hv with _ e _
      have := NL32_le h4 hM
      omega
  have hl := fun (w1 : World) (h1 : Below w.heap.size w w1) => left_any w1 v M q r (h.below h1) hq hr hn
  obtain ⟨s, hs⟩ : ∃ s : Nat, s = 32 * q + r := ⟨_, rfl⟩
  have hsl : s ≤ 4000000 := by omega
  rw [← hs] at hl
  rw [← hs]
  have hge : E ≤ E + (s : Int) := by omega
  have hsub : E + (s : Int) - E = (s : Int) := by omega
  have hb := below_alloc w (.cells #[.bool false, v, .int .i64 (E + (s : Int))] 29)
  have hb2 := hb.trans ((below_alloc (w.alloc (.cells #[.bool false, v, .int .i64 (E + (s : Int))] 29)) (.cells #[.bool false, .slice none 0 0, .int .i64 0] 29)).mono (by simp))
  have hl2 := hl _ hb2
  have hgc := heap_alloc_new (w.alloc (.cells #[.bool false, v, .int .i64 (E + (s : Int))] 29)) (.cells #[.bool false, .slice none 0 0, .int .i64 0] 29)
  have hsz : (w.alloc (.cells #[.bool false, v, .int .i64 (E + (s : Int))] 29)).heap.size = w.heap.size + 1 := by simp
  rw [hsz] at hgc
  clear hl hs hn h hM hb hsz
  go_enter Tryz.func66, Tryz.ntmps66
  go_wp2_with fail
  generalize hW : (w.alloc (.cells #[.bool false, v, .int .i64 (E + (s : Int))] 29)).alloc (.cells #[.bool false, .slice none 0 0, .int .i64 0] 29) = W at *
  have hWs : W.heap.size = w.heap.size + 1 + 1 := by rw [← hW]; simp
  clear hW
  refine hl2.mono ?_
  rintro e w1 ⟨v', rfl, hm, hb3⟩
  have hg1 := (hb3.block (w.heap.size + 1) (by omega)).trans hgc
  obtain ⟨k0, k1, k2⟩ : w1.cell? ⟨w.heap.size + 1, 0, none⟩ = some (.bool false) ∧ w1.cell? ⟨w.heap.size + 1, 1, none⟩ = some (.slice none 0 0) ∧ w1.cell? ⟨w.heap.size + 1, 2, none⟩ = some (.int .i64 0) := by
    refine ⟨?_, ?_, ?_⟩ <;> (rw [cell_of_row _ _ _ _ _ _ hg1]; rfl)
  obtain ⟨A', n', cap', rfl, _⟩ := hm.form
  have hfr : ∀ j, w1.frozen? ⟨w.heap.size + 1, j, none⟩ = false := fun j => frozen_of_row w1 _ j _ _ hg1
  have hbel : Below w.heap.size w w1 := hb2.trans (hb3.mono (by omega))
  go_wp2_with fail
  obtain ⟨hg3, hgr⟩ := set3 hg1 (.bool false) (.slice A' n' cap') (.int .i64 0)
  have hm3 := hm.other hg1 hgr
  have hbel3 := hbel.trans (below_of_grown' hgr hbel.size (by omega))
  generalize ((w1.setCell ⟨w.heap.size + 1, 0, none⟩ (.bool false)).setCell ⟨w.heap.size + 1, 1, none⟩ (.slice A' n' cap')).setCell ⟨w.heap.size + 1, 2, none⟩ (.int .i64 0) = W3 at *
  obtain ⟨j0, j1, j2⟩ : W3.cell? ⟨w.heap.size + 1, 0, none⟩ = some (.bool false) ∧ W3.cell? ⟨w.heap.size + 1, 1, none⟩ = some (.slice A' n' cap') ∧ W3.cell? ⟨w.heap.size + 1, 2, none⟩ = some (.int .i64 0) := by
    refine ⟨?_, ?_, ?_⟩ <;> (rw [cell_of_row _ _ _ _ _ _ hg3]; rfl)
  refine bodyPost_ret (v := .tuple #[.agg #[.bool false, .slice A' n' cap', .int .i64 0], .bool false]) (by simp [results, Tryz.results66, go_sem, j0, j1, j2]) rfl ?_
  exact ⟨_, rfl, hm3, hbel3⟩
/-- A float told of a significand of 53 bits at the most, nothing left over, to the nearest. -/
theorem told_low (w : World) (neg : Bool) (Q n : Nat) (hQ : 0 < Q) (hQ2 : Q < 9007199254740992) (hn : 1 ≤ n) (hn2 : n ≤ 2046) (hor : n = 1 ∨ 4503599627370496 ≤ Q) :
    Calls Tryz.prog 68 #[.int .i64 0, .bool neg, .int .u64 ((2 * Q : Nat) : Int), .bool false, .int .i64 ((n : Int) - 1075)] w fun e w' => e = .returned (.tuple #[.int .u64 ((numB neg Q (n + 1137) : Nat) : Int), .bool true]) ∧ w' = w := by
  have hdiv : ((2 * Q : Nat) : Int) / 2 = (Q : Int) := by omega
  have hand : bits .and .u64 ((2 * Q : Nat) : Int) 1 = 0 := by
    have h := u64_and_nat (2 * Q) 1 (by omega) (by decide)
    rw [Nat.and_one_is_mod, show 2 * Q % 2 = 0 by omega] at h
    exact h
  have hne : ((Q : Int) == 9007199254740992) = false := by rw [beq_eq_false_iff_ne]; omega
  obtain ⟨h, hh⟩ : ∃ h, h = 2 * Q := ⟨_, rfl⟩
  rw [← hh] at hdiv hand
  rw [← hh]
  have hhl : (h : Int) ≤ 18446744073709551615 := by omega
  clear hh
  have hQp : (0 : Int) < (Q : Int) := by omega
  have hnum : numB neg Q (n + 1137) = Q + (n - 1) * 4503599627370496 + (bif neg then 9223372036854775808 else 0) := by unfold numB; rw [if_neg (by omega), show n + 1137 - 1138 = n - 1 by omega]
  obtain ⟨S, hS⟩ : ∃ S, S = Q + (n - 1) * 4503599627370496 := ⟨_, rfl⟩
  rw [← hS] at hnum
  have hSl : S < 9223372036854775808 := by omega
  have hSp : (0 : Int) < (S : Int) := by omega
  have hSi : (S : Int) ≤ 9223372036854775807 := by omega
  have hsg : bits .or .u64 (S : Int) 9223372036854775808 = ((S + 9223372036854775808 : Nat) : Int) := by
    have := u64_or_nat S 9223372036854775808 (by omega) (by decide)
    rw [Nat.or_comm, show (9223372036854775808 : Nat) = 2 ^ 63 * 1 by rfl, ← Nat.two_pow_add_eq_or_of_lt (show S < 2 ^ 63 by exact hSl)] at this
    rw [show S + 9223372036854775808 = 2 ^ 63 * 1 + S by omega]
    exact this
  have HN := Lib.hid hnum
  clear hnum
  by_cases hlo : Q < 4503599627370496
  · obtain rfl : n = 1 := by omega
    obtain rfl : S = Q := by omega
    have hlt : decide ((4503599627370496 : Int) ≤ (S : Int)) = false := by simp; omega
    clear hS
    cases neg with
    | false =>
      go_enter Tryz.func68, Tryz.ntmps68
      go_wp2_with fail
      go_ret2
      rw [HN.out, cond_false, Nat.add_zero]
      exact ⟨rfl, rfl⟩
    | true =>
      go_enter Tryz.func68, Tryz.ntmps68
      go_wp2_with fail
      go_ret2
      rw [HN.out, cond_true]
      exact ⟨rfl, rfl⟩
  · have hlt : (4503599627370496 : Int) ≤ (Q : Int) := by omega
    have hle : (n : Int) - 1075 ≤ 971 := by omega
    have hadd : (n : Int) - 1075 + 1075 = (n : Int) := by omega
    have hgt : decide ((971 : Int) < (n : Int) - 1075) = false := by simp; omega
    have hsh : IntKind.u64.wrap ((n : Int) * 4503599627370496) = ((n * 4503599627370496 : Nat) : Int) := by rw [IntKind.wrap_u64]; omega
    obtain ⟨ns, hns⟩ : ∃ ns, ns = n * 4503599627370496 := ⟨_, rfl⟩
    obtain ⟨mq, hmq⟩ : ∃ mq, mq = fman Q := ⟨_, rfl⟩
    have hman := and_man Q (by unfold B64; omega)
    rw [← hmq] at hman
    rw [← hns] at hsh
    have hmqv : mq = Q - 4503599627370496 := by rw [hmq]; unfold fman; omega
    have hor2 : bits .or .u64 (ns : Int) (mq : Int) = (S : Int) := by
      have := u64_or_nat ns mq (by omega) (by omega)
      rw [this]
      rw [hns, Nat.mul_comm n, show (4503599627370496 : Nat) = 2 ^ 52 by rfl, ← Nat.two_pow_add_eq_or_of_lt (show mq < 2 ^ 52 by omega)]
      omega
    have hn0 : (0 : Int) ≤ (n : Int) := by omega
    clear hS hns hmq hmqv
    cases neg with
    | false =>
      go_enter Tryz.func68, Tryz.ntmps68
      go_wp2_with fail
      go_ret2
      rw [HN.out, cond_false, Nat.add_zero]
      exact ⟨rfl, rfl⟩
    | true =>
      go_enter Tryz.func68, Tryz.ntmps68
      go_wp2_with fail
      go_ret2
      rw [HN.out, cond_true]
      exact ⟨rfl, rfl⟩
theorem told_big (w : World) (neg : Bool) (Q n : Nat) (hQ : 4503599627370496 ≤ Q) (hQ2 : Q < 9007199254740992) (hn : 2046 < n) (hn2 : n ≤ 100000) :
    Calls Tryz.prog 68 #[.int .i64 0, .bool neg, .int .u64 ((2 * Q : Nat) : Int), .bool false, .int .i64 ((n : Int) - 1075)] w fun e w' => e = .returned (.tuple #[.int .u64 0, .bool false]) ∧ w' = w := by
  have hdiv : ((2 * Q : Nat) : Int) / 2 = (Q : Int) := by omega
  have hand : bits .and .u64 ((2 * Q : Nat) : Int) 1 = 0 := by
    have h := u64_and_nat (2 * Q) 1 (by omega) (by decide)
    rw [Nat.and_one_is_mod, show 2 * Q % 2 = 0 by omega] at h
    exact h
  have hne : ((Q : Int) == 9007199254740992) = false := by rw [beq_eq_false_iff_ne]; omega
  obtain ⟨h, hh⟩ : ∃ h, h = 2 * Q := ⟨_, rfl⟩
  rw [← hh] at hdiv hand
  rw [← hh]
  have hhl : (h : Int) ≤ 18446744073709551615 := by omega
  have hge : (4503599627370496 : Int) ≤ (Q : Int) := by omega
  have he : decide ((n : Int) - 1075 ≤ 971) = false := by simp; omega
  have he2 : (971 : Int) < (n : Int) - 1075 := by omega
  clear hh
  go_enter Tryz.func68, Tryz.ntmps68
  go_wp2_with fail
  go_ret2
  exact ⟨rfl, rfl⟩
end Go.Proofs.YtopilodakphhgaaGreatDoor
