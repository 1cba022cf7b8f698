/- (*Acc).Prod, where it makes the Acc bad. -/
import Derived.Test.YtopilodakphhgaaDoorAccProd
namespace Go.Proofs.YtopilodakphhgaaDoor
set_option linter.unusedVariables false
set_option linter.unusedSimpArgs false
open Go Go.RowKit
set_option maxRecDepth 100000
set_option maxHeartbeats 1000000 in
theorem prod_bad (w : World) (b X u v : Nat) (n : Int) (bad : Bool) (h : AccAt w b X bad) (hu : u < B64) (hv : v < B64) (hc : bad = true ∨ (bad = false ∧ fexp u = 2047) ∨ (bad = false ∧ fexp u ≠ 2047 ∧ fexp v = 2047) ∨ (bad = false ∧ fexp u ≠ 2047 ∧ fexp v ≠ 2047 ∧ n < -64) ∨ (bad = false ∧ fexp u ≠ 2047 ∧ fexp v ≠ 2047 ∧ -64 ≤ n ∧ 64 < n)) :
    Calls Tryd.prog 26 #[.pointer (some ⟨b, 0, none⟩), .float .f64 u, .float .f64 v, .int .i64 n] w fun e w' => e = .returned (.tuple #[]) ∧ AccAt w' b 0 true ∧ w.grownBy w' (some b) := by
  have hbad := h.bad
  generalize ho1 : (fexp u != 2047) = ok1
  generalize ho2 : (fexp v != 2047) = ok2
  have hq : bad = true ∨ (bad = false ∧ ok1 = false) ∨ (bad = false ∧ ok1 = true ∧ ok2 = false) ∨ (bad = false ∧ ok1 = true ∧ ok2 = true ∧ n < -64) ∨ (bad = false ∧ ok1 = true ∧ ok2 = true ∧ -64 ≤ n ∧ 64 < n) := by
    subst ho1 ho2
    simpa using hc
  clear hc
  have H1 := Lib.hid ho1
  have H2 := Lib.hid ho2
  clear ho1 ho2
  go_enter Tryd.func26, Tryd.ntmps26
  go_wp2_with fail
  refine (split_any u hu _).mono ?_
  rintro e w' ⟨⟨s1, m1, x1, rfl⟩, rfl⟩
  rw [H1.out]
  go_wp2_with fail
  refine (split_any v hv _).mono ?_
  rintro e w' ⟨⟨s2, m2, x2, rfl⟩, rfl⟩
  rw [H2.out]
  have fin := Lib.hid (And.intro (setRow_heap w b (accCells X bad) (accCells 0 true) 62 (0, 0) h) (grown_setRow w b (accCells 0 true)))
  rcases hq with rfl | ⟨rfl, rfl⟩ | ⟨rfl, rfl, rfl⟩ | ⟨rfl, rfl, rfl, hn⟩ | ⟨rfl, rfl, rfl, hn1, hn2⟩
  · go_wp2_with (refine wpList_store_row rfl 62 (.tmp 57) (.tmp 56) rfl b (accCells 0 true) rfl (by kernel_rfl) 62 (accCells X true) h (info_acc _ _) (acc_sizes _ _ _ _) (acc_one _ _) ?_)
    refine bodyPost_ret (results_none rfl _ _ _) rfl ⟨rfl, fin.out⟩
  · go_wp2_with (refine wpList_store_row rfl 62 (.tmp 57) (.tmp 56) rfl b (accCells 0 true) rfl (by kernel_rfl) 62 (accCells X false) h (info_acc _ _) (acc_sizes _ _ _ _) (acc_one _ _) ?_)
    refine bodyPost_ret (results_none rfl _ _ _) rfl ⟨rfl, fin.out⟩
  · go_wp2_with (refine wpList_store_row rfl 62 (.tmp 57) (.tmp 56) rfl b (accCells 0 true) rfl (by kernel_rfl) 62 (accCells X false) h (info_acc _ _) (acc_sizes _ _ _ _) (acc_one _ _) ?_)
    refine bodyPost_ret (results_none rfl _ _ _) rfl ⟨rfl, fin.out⟩
  · have q1 : decide (n < -64) = true := by simp; omega
    go_wp2_with (refine wpList_store_row rfl 62 (.tmp 57) (.tmp 56) rfl b (accCells 0 true) rfl (by kernel_rfl) 62 (accCells X false) h (info_acc _ _) (acc_sizes _ _ _ _) (acc_one _ _) ?_)
    refine bodyPost_ret (results_none rfl _ _ _) rfl ⟨rfl, fin.out⟩
  · have q1 : decide (n < -64) = false := by simp; omega
    have q2 : decide (n > 64) = true := by simp; omega
    go_wp2_with (refine wpList_store_row rfl 62 (.tmp 57) (.tmp 56) rfl b (accCells 0 true) rfl (by kernel_rfl) 62 (accCells X false) h (info_acc _ _) (acc_sizes _ _ _ _) (acc_one _ _) ?_)
    refine bodyPost_ret (results_none rfl _ _ _) rfl ⟨rfl, fin.out⟩
end Go.Proofs.YtopilodakphhgaaDoor
