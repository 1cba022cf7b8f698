/- ambitlaw3.begun: true. -/
import Derived.Test.YtopilodakphhgaaDoorRound
import Derived.Test.YtopilodakphhgaaDoorAccSign
namespace Go.Proofs.YtopilodakphhgaaDoor
set_option linter.unusedVariables false
set_option linter.unusedSimpArgs false
open Go Go.RowKit
set_option maxRecDepth 100000
theorem begun_a : roundS 0 (prodS (some 0) 4613937818241073152 4598175219545276416 (-1)) = (4600427019358961664, true) := by decide +kernel
theorem begun_s : signS (prodS (some 0) 4613937818241073152 4598175219545276416 (-1)) = 1 := by decide +kernel
theorem begun_b : roundS 0 (sumS [4845873199050653696, 4607182418800017408, 4607182418800017408]) = (4845873199050653697, true) := by decide +kernel
theorem begun_row : ∀ j u : Nat, ([4845873199050653696, 4607182418800017408, 4607182418800017408] : List Nat)[j]? = some u → (#[.float .f64 4845873199050653696, .float .f64 4607182418800017408, .float .f64 4607182418800017408] : Array Value)[j]? = some (Value.float .f64 u) ∧ u < B64 := by
  intro j u h
  rcases j with _ | _ | _ | j
  · cases h; exact ⟨rfl, by decide⟩
  · cases h; exact ⟨rfl, by decide⟩
  · cases h; exact ⟨rfl, by decide⟩
  · simp at h
set_option maxHeartbeats 1000000 in
theorem begun_any (w : World) :
    Calls Tryd.prog 6 #[] w fun e w' => e = .returned (.bool true) ∧ Below w.heap.size w w' := by
  go_enter Tryd.func6, Tryd.ntmps6
  go_wp2_with fail
  refine (new_any w).mono ?_
  rintro e w1 ⟨rfl, rfl⟩
  have ha0 : AccIs (w.alloc (.cells (accCells 0 false) 62)) w.heap.size (some 0) := ⟨heap_alloc_new w _, LIM_pos⟩
  have hb0 : Below w.heap.size w (w.alloc (.cells (accCells 0 false) 62)) := (Below.refl _ _).alloc (Nat.le_refl _) _
  generalize w.alloc (.cells (accCells 0 false) 62) = w1 at *
  go_wp2_with fail
  have hp := prod_any w1 w.heap.size 4613937818241073152 4598175219545276416 (-1) _ ha0 (by decide) (by decide)
  have hba := begun_a
  have hbs := begun_s
  revert hp hba hbs
  generalize prodS (some 0) 4613937818241073152 4598175219545276416 (-1) = s0
  intro hp hba hbs
  have HA := Lib.hid hba
  have HS := Lib.hid hbs
  clear hba hbs
  refine hp.mono ?_
  rintro e w2 ⟨rfl, ha2, hg2⟩
  clear hp
  have hb2 := hb0.trans (below_row hg2 (Nat.le_refl _) hb0.size)
  have hr := round_any w2 w.heap.size 0 _ ha2 (by decide) (by decide)
  rw [HA.out] at hr
  clear ha0 hb0 hg2
  go_wp2_with fail
  refine hr.mono ?_
  rintro e w3 ⟨rfl, hb3⟩
  have ha3 := ha2.below ha2.lt hb3
  have hbw3 := hb2.trans (hb3.mono hb2.size)
  have hsz3 : w.heap.size ≤ w3.heap.size := hbw3.size
  clear hr ha2 hb2 hb3
  go_wp2_with fail
  have hfr := heap_alloc_new w3 (Obj.cells #[.float .f64 4845873199050653696, .float .f64 4607182418800017408, .float .f64 4607182418800017408] 26)
  have hb4 : Below w3.heap.size w3 (w3.alloc (Obj.cells #[.float .f64 4845873199050653696, .float .f64 4607182418800017408, .float .f64 4607182418800017408] 26)) := (Below.refl _ _).alloc (Nat.le_refl _) _
  generalize w3.alloc (Obj.cells #[.float .f64 4845873199050653696, .float .f64 4607182418800017408, .float .f64 4607182418800017408] 26) = w4 at *
  have hsum := sum_any w4 0 (some ⟨w3.heap.size, 0, none⟩) 3 [4845873199050653696, 4607182418800017408, 4607182418800017408] (Or.inr ⟨w3.heap.size, _, _, rfl, hfr, begun_row⟩) (by decide) (by decide) (by decide)
  rw [begun_b] at hsum
  have ha4 := ha3.below ha3.lt hb4
  have hbw4 := hbw3.trans (hb4.mono hbw3.size)
  clear hb4 hfr ha3 hbw3
  go_wp2_with fail
  refine hsum.mono ?_
  rintro e w5 ⟨rfl, hb5⟩
  have hs5 := sign_any w5 w.heap.size _ (ha4.below ha4.lt hb5)
  rw [HS.out] at hs5
  have hbw5 := hbw4.trans (hb5.mono hbw4.size)
  clear hsum ha4 hbw4 hb5
  have ho1 : (FloatKind.f64.format.order 4600427019358961664 4600427019358961664 == some .eq) = true := by decide +kernel
  have ho2 : (FloatKind.f64.format.order 4845873199050653697 4845873199050653697 == some .eq) = true := by decide +kernel
  go_wp2_with fail
  refine hs5.mono ?_
  rintro e w6 ⟨rfl, rfl⟩
  go_wp2_with fail
  go_ret
  exact ⟨rfl, hbw5⟩
end Go.Proofs.YtopilodakphhgaaDoor
