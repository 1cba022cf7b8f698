/- ambitlaw3.into: a term added, or taken away. -/
import Derived.Test.YtopilodakphhgaaGreatDoorRounds
import Derived.Deep.RegionWith
namespace Go.Proofs.YtopilodakphhgaaGreatDoor
set_option linter.unusedVariables false
set_option linter.unusedSimpArgs false
open Go Go.RowKit
set_option maxRecDepth 100000
set_option maxHeartbeats 2000000 in
theorem into_any (w : World) (b A B : Nat) (n : Int) (neg : Bool) (s : Option Int) (h : AccIs w b s) (hA : A < B64) (hB : B < B64) :
    Calls Tryz.prog 8 #[.pointer (some ⟨b, 0, none⟩), .agg #[.int .u64 (A : Nat), .int .u64 (B : Nat), .int .i64 n], .bool neg] w fun e w' => e = .returned (.tuple #[]) ∧ AccIs w' b (prodS s (bif neg then nf A else A) B n) ∧ w.grownBy w' (some b) := by
  have hfA := float_nat A
  have hfB := float_nat B
  have hun := run_neg_float A
  have hAl : (A : Int) ≤ 18446744073709551615 := by unfold B64 at hA; omega
  have hBl : (B : Int) ≤ 18446744073709551615 := by unfold B64 at hB; omega
  go_enter Tryz.func8, Tryz.ntmps8
  go_wp2_with fail
  refine (hfA _).mono ?_
  rintro e w1 ⟨rfl, rfl⟩
  have hg1 := World.grownBy_alloc w (Obj.cells #[.int .u64 (A : Nat), .int .u64 (B : Nat), .int .i64 n] 33) (some b)
  have ha1 : AccIs (w.alloc (Obj.cells #[.int .u64 (A : Nat), .int .u64 (B : Nat), .int .i64 n] 33)) b s := h.below h.lt ((Below.refl _ _).alloc (Nat.le_refl _) _)
  have hP : ∀ (w2 : World) (u : Nat), u < B64 → w2.heap = (w.alloc (Obj.cells #[.int .u64 (A : Nat), .int .u64 (B : Nat), .int .i64 n] 33)).heap → w2.os = w.os → w2.tape = w.tape → w2.output = w.output →
      Calls Tryz.prog 29 #[.pointer (some ⟨b, 0, none⟩), .float .f64 u, .float .f64 B, .int .i64 n] w2 fun e w' => e = .returned (.tuple #[]) ∧ AccIs w' b (prodS s u B n) ∧ w.grownBy w' (some b) := fun w2 u hu h1 h2 h3 h4 => by
    refine (prod_any w2 b u B n s (ha1.heap (by rw [h1])) hu hB).mono fun e w' ⟨he, ha, hg⟩ => ⟨he, ha, ?_⟩
    exact grown_trans ⟨h2, h3, h4, by rw [h1]; exact hg1.size, fun k hk hr => by rw [h1]; exact hg1.block k hk hr⟩ hg
  obtain ⟨k0, k1, k2⟩ : (w.alloc (Obj.cells #[.int .u64 (A : Nat), .int .u64 (B : Nat), .int .i64 n] 33)).cell? ⟨w.heap.size, 0, none⟩ = some (.int .u64 (A : Nat)) ∧ (w.alloc (Obj.cells #[.int .u64 (A : Nat), .int .u64 (B : Nat), .int .i64 n] 33)).cell? ⟨w.heap.size, 1, none⟩ = some (.int .u64 (B : Nat)) ∧ (w.alloc (Obj.cells #[.int .u64 (A : Nat), .int .u64 (B : Nat), .int .i64 n] 33)).cell? ⟨w.heap.size, 2, none⟩ = some (.int .i64 n) := by
    have hh := heap_alloc_new w (Obj.cells #[.int .u64 (A : Nat), .int .u64 (B : Nat), .int .i64 n] 33)
    refine ⟨?_, ?_, ?_⟩ <;> (rw [cell_of_row _ _ _ _ _ _ hh]; rfl)
  cases neg with
  | false =>
    have hF := hP (w.alloc (Obj.cells #[.int .u64 (A : Nat), .int .u64 (B : Nat), .int .i64 n] 33)).drew A hA rfl rfl rfl rfl
    generalize w.alloc (Obj.cells #[.int .u64 (A : Nat), .int .u64 (B : Nat), .int .i64 n] 33) = W at *
    clear hP ha1 h
    go_wp2_with fail
    go_region_with (first | (go_at_call 16; refine (hfB _).mono ?_; rintro e w2 ⟨rfl, rfl⟩) | (go_at_call 29; refine hF.mono ?_; rintro e w2 ⟨rfl, ha2, hg2⟩))
    all_goals go_wp2_with fail
    all_goals go_end0
    all_goals exact ⟨rfl, ha2, hg2⟩
  | true =>
    have hF := hP (w.alloc (Obj.cells #[.int .u64 (A : Nat), .int .u64 (B : Nat), .int .i64 n] 33)).drew (nf A) (nf_lt A hA) rfl rfl rfl rfl
    generalize w.alloc (Obj.cells #[.int .u64 (A : Nat), .int .u64 (B : Nat), .int .i64 n] 33) = W at *
    clear hP ha1 h
    go_wp2_with fail
    go_region_with (first | (go_at_call 16; refine (hfB _).mono ?_; rintro e w2 ⟨rfl, rfl⟩) | (go_at_call 29; refine hF.mono ?_; rintro e w2 ⟨rfl, ha2, hg2⟩))
    all_goals go_wp2_with fail
    all_goals go_end0
    all_goals exact ⟨rfl, ha2, hg2⟩
end Go.Proofs.YtopilodakphhgaaGreatDoor
