/- ambitref10.Lift. -/
import Derived.Test.YtpfbgenefjhcjaaGreatDoorZoU
import Derived.Test.YtpfbgenefjhcjaaGreatDoorPZoRct
namespace Go.Proofs.YtpfbgenefjhcjaaGreatDoor
set_option linter.unusedVariables false
set_option linter.unusedSimpArgs false
open Go Go.RowKit
attribute [local go_sem] Oper.semAt_some
set_option maxRecDepth 100000
def TellsU (w : World) (p : ZD × Int) (e : Ending) (w' : World) : Prop := ∃ v, e = .returned (.tuple #[v, .int .i64 p.2]) ∧ UIs w' v p.1 ∧ Below w.heap.size w w'
set_option maxHeartbeats 8000000 in
theorem lift10_no (w : World) (A B C D : Option Addr) (kA kB kC kD : Nat) (z : ZD) (next : Int) (hc : ZC cU w z A B C D kA kB kC kD) (hk : ZOk z) (hno : liftOk z next = false) :
  Calls Tryz.prog 48 #[zval z A B C D kA kB kC kD, .int .i64 next] w fun e w' => TellsU w (lostZ (sizeD z), next) e w' := by
 unfold TellsU
 obtain ⟨f0, f1, f2, f3⟩ := two_blocks w (.cells #[.int .i64 z.n, .slice A z.c.length kA, .slice B z.ids.length kB, .slice C z.g.length kC, .slice D z.r.length kD, .bool z.bad] 30) (.cells #[.int .i64 0, .slice none 0 0, .slice none 0 0, .slice none 0 0, .slice none 0 0, .bool false] 30)
 have hr := Reals_any _ _ z ⟨A, B, C, D, kA, kB, kC, kD, rfl, hc.below f3⟩ hk
 unfold zval at hr ⊢
 unfold liftOk at hno
 generalize hgd : goodD z = gd at hno
 cases gd with
 | false =>
  clear hno
  go_enter Tryz.func48, Tryz.ntmps48
  go_wp2_with fail
  refine hr.mono ?_
  rintro e w1 (⟨hg', v', rfl, _, hb⟩ | ⟨_, rfl, hb⟩)
  ·rw [hgd] at hg'
   cases hg'
  unfold noReal
  have hb1 := f3.trans (hb.mono f3.size)
  rw [f2] at hb
  have hba := below_alloc w1 (.cells #[.int .i64 0, .slice none 0 0, .slice none 0 0, .slice none 0 0, .slice none 0 0] 61)
  have k0 : UB (w1.alloc (.cells #[.int .i64 0, .slice none 0 0, .slice none 0 0, .slice none 0 0, .slice none 0 0] 61)) w.heap.size _ _ _ _ _ _ := UB.below ((hb.block _ (by omega)).trans f0) hba
  have k1 : UB (w1.alloc (.cells #[.int .i64 0, .slice none 0 0, .slice none 0 0, .slice none 0 0, .slice none 0 0] 61)) (w.heap.size + 1) _ _ _ _ _ _ := UB.below ((hb.block _ (by omega)).trans f1) hba
  have kr := heap_alloc_new w1 (.cells #[.int .i64 0, .slice none 0 0, .slice none 0 0, .slice none 0 0, .slice none 0 0] 61)
  have hb2 := hb1.trans (hba.mono hb1.size)
  skip
  have hsz := Size10_any (w1.alloc (.cells #[.int .i64 0, .slice none 0 0, .slice none 0 0, .slice none 0 0, .slice none 0 0] 61)) _ z ⟨A, B, C, D, kA, kB, kC, kD, rfl, hc.below hb2⟩ hk
  unfold zval at hsz
  obtain ⟨x0, x1, x2, x3, x4, x5⟩ := k0.cells
  clear hr hb f0 f1 f2 f3 hb1 hba
  go_wp2_with fail
  refine hsz.mono ?_
  rintro e w2 ⟨rfl, hb3⟩
  replace k0 := k0.below hb3
  replace k1 := k1.below hb3
  replace kr := (hb3.block _ (Array.getElem?_eq_some_iff.1 kr).1).trans kr
  replace hb2 := hb2.trans (hb3.mono hb2.size)
  skip
  have hlo := Lost10_any w2 (sizeD z)
  unfold lostV at hlo
  clear x0 x1 x2 x3 x4 x5 hb3 hsz
  go_wp2_with fail
  refine hlo.mono ?_
  rintro e w3 ⟨rfl, hb4⟩
  replace k0 := (k0.below hb4).below (below_alloc w3 (.cells #[.int .i64 (sizeD z), .slice none 0 0, .slice none 0 0, .slice none 0 0, .slice none 0 0, .bool true] 30))
  replace k1 := (k1.below hb4).below (below_alloc w3 (.cells #[.int .i64 (sizeD z), .slice none 0 0, .slice none 0 0, .slice none 0 0, .slice none 0 0, .bool true] 30))
  replace kr := (hb4.block _ (Array.getElem?_eq_some_iff.1 kr).1).trans kr
  replace kr := ((below_alloc w3 (.cells #[.int .i64 (sizeD z), .slice none 0 0, .slice none 0 0, .slice none 0 0, .slice none 0 0, .bool true] 30)).block _ (Array.getElem?_eq_some_iff.1 kr).1).trans kr
  replace hb2 := hb2.trans (hb4.mono hb2.size)
  replace hb2 := hb2.trans ((below_alloc w3 (.cells #[.int .i64 (sizeD z), .slice none 0 0, .slice none 0 0, .slice none 0 0, .slice none 0 0, .bool true] 30)).mono hb2.size)
  skip
  have kl := UB.new w3 (.int .i64 (sizeD z)) (.slice none 0 0) (.slice none 0 0) (.slice none 0 0) (.slice none 0 0) (.bool true)
  clear hlo hb4
  go_upto_region 3 with fail
  generalize w3.alloc (.cells #[.int .i64 (sizeD z), .slice none 0 0, .slice none 0 0, .slice none 0 0, .slice none 0 0, .bool true] 30) = W at *
  generalize w3.heap.size = bL at *
  generalize w1.heap.size = bR at *
  clear w1 w2 w3
  obtain ⟨l0, l1, l2, l3, l4, l5⟩ := kl.cells
  obtain ⟨y0, y1, y2, y3, y4, y5⟩ := k1.cells
  have hfr := fun j => k1.frozen j
  go_wp2_with fail
  obtain ⟨q1, q2⟩ := k1.put (.int .i64 (sizeD z)) (.slice none 0 0) (.slice none 0 0) (.slice none 0 0) (.slice none 0 0) (.bool true)
  obtain ⟨c0, c1, c2, c3, c4, c5⟩ := q1.cells
  refine bodyPost_ret (v := .tuple #[.agg #[.int .i64 (sizeD z), .slice none 0 0, .slice none 0 0, .slice none 0 0, .slice none 0 0, .bool true], .int .i64 next]) (by simp [results, Tryz.results48, go_sem, c0, c1, c2, c3, c4, c5]) rfl ?_
  exact ⟨_, rfl, lostV_uis _ _, hb2.trans (below_row q2 (by omega) hb2.size)⟩
 | true =>
  by_cases hn : next < 0
  ·clear hno
   go_enter Tryz.func48, Tryz.ntmps48
   go_wp2_with fail
   refine hr.mono ?_
   rintro e w1 (⟨_, v', rfl, ⟨A', B', C', D', kA', kB', kC', kD', rfl, hR⟩, hb⟩ | ⟨hg', rfl, hb⟩)
   rotate_left
   ·rw [hgd] at hg'
    cases hg'
   unfold rval
   have hb1 := f3.trans (hb.mono f3.size)
   rw [f2] at hb
   have hba := below_alloc w1 (.cells #[.int .i64 z.n, .slice A' z.c.length kA', .slice B' z.ids.length kB', .slice C' z.g.length kC', .slice D' z.r.length kD'] 61)
   have k0 : UB (w1.alloc (.cells #[.int .i64 z.n, .slice A' z.c.length kA', .slice B' z.ids.length kB', .slice C' z.g.length kC', .slice D' z.r.length kD'] 61)) w.heap.size _ _ _ _ _ _ := UB.below ((hb.block _ (by omega)).trans f0) hba
   have k1 : UB (w1.alloc (.cells #[.int .i64 z.n, .slice A' z.c.length kA', .slice B' z.ids.length kB', .slice C' z.g.length kC', .slice D' z.r.length kD'] 61)) (w.heap.size + 1) _ _ _ _ _ _ := UB.below ((hb.block _ (by omega)).trans f1) hba
   have kr := heap_alloc_new w1 (.cells #[.int .i64 z.n, .slice A' z.c.length kA', .slice B' z.ids.length kB', .slice C' z.g.length kC', .slice D' z.r.length kD'] 61)
   have hb2 := hb1.trans (hba.mono hb1.size)
   replace hR := hR.below hba
   have hsz := Size10_any (w1.alloc (.cells #[.int .i64 z.n, .slice A' z.c.length kA', .slice B' z.ids.length kB', .slice C' z.g.length kC', .slice D' z.r.length kD'] 61)) _ z ⟨A, B, C, D, kA, kB, kC, kD, rfl, hc.below hb2⟩ hk
   unfold zval at hsz
   obtain ⟨x0, x1, x2, x3, x4, x5⟩ := k0.cells
   clear hr hb f0 f1 f2 f3 hb1 hba
   go_wp2_with fail
   refine hsz.mono ?_
   rintro e w2 ⟨rfl, hb3⟩
   replace k0 := k0.below hb3
   replace k1 := k1.below hb3
   replace kr := (hb3.block _ (Array.getElem?_eq_some_iff.1 kr).1).trans kr
   replace hb2 := hb2.trans (hb3.mono hb2.size)
   replace hR := hR.below hb3
   have hlo := Lost10_any w2 (sizeD z)
   unfold lostV at hlo
   clear x0 x1 x2 x3 x4 x5 hb3 hsz
   go_wp2_with fail
   refine hlo.mono ?_
   rintro e w3 ⟨rfl, hb4⟩
   replace k0 := (k0.below hb4).below (below_alloc w3 (.cells #[.int .i64 (sizeD z), .slice none 0 0, .slice none 0 0, .slice none 0 0, .slice none 0 0, .bool true] 30))
   replace k1 := (k1.below hb4).below (below_alloc w3 (.cells #[.int .i64 (sizeD z), .slice none 0 0, .slice none 0 0, .slice none 0 0, .slice none 0 0, .bool true] 30))
   replace kr := (hb4.block _ (Array.getElem?_eq_some_iff.1 kr).1).trans kr
   replace kr := ((below_alloc w3 (.cells #[.int .i64 (sizeD z), .slice none 0 0, .slice none 0 0, .slice none 0 0, .slice none 0 0, .bool true] 30)).block _ (Array.getElem?_eq_some_iff.1 kr).1).trans kr
   replace hb2 := hb2.trans (hb4.mono hb2.size)
   replace hb2 := hb2.trans ((below_alloc w3 (.cells #[.int .i64 (sizeD z), .slice none 0 0, .slice none 0 0, .slice none 0 0, .slice none 0 0, .bool true] 30)).mono hb2.size)
   replace hR := (hR.below hb4).below (below_alloc w3 (.cells #[.int .i64 (sizeD z), .slice none 0 0, .slice none 0 0, .slice none 0 0, .slice none 0 0, .bool true] 30))
   have kl := UB.new w3 (.int .i64 (sizeD z)) (.slice none 0 0) (.slice none 0 0) (.slice none 0 0) (.slice none 0 0) (.bool true)
   clear hlo hb4
   go_upto_region 3 with fail
   generalize w3.alloc (.cells #[.int .i64 (sizeD z), .slice none 0 0, .slice none 0 0, .slice none 0 0, .slice none 0 0, .bool true] 30) = W at *
   generalize w3.heap.size = bL at *
   generalize w1.heap.size = bR at *
   clear w1 w2 w3
   clear kr hR
   obtain ⟨l0, l1, l2, l3, l4, l5⟩ := kl.cells
   obtain ⟨y0, y1, y2, y3, y4, y5⟩ := k1.cells
   have hfr := fun j => k1.frozen j
   go_wp2_with fail
   obtain ⟨q1, q2⟩ := k1.put (.int .i64 (sizeD z)) (.slice none 0 0) (.slice none 0 0) (.slice none 0 0) (.slice none 0 0) (.bool true)
   obtain ⟨c0, c1, c2, c3, c4, c5⟩ := q1.cells
   refine bodyPost_ret (v := .tuple #[.agg #[.int .i64 (sizeD z), .slice none 0 0, .slice none 0 0, .slice none 0 0, .slice none 0 0, .bool true], .int .i64 next]) (by simp [results, Tryz.results48, go_sem, c0, c1, c2, c3, c4, c5]) rfl ?_
   exact ⟨_, rfl, lostV_uis _ _, hb2.trans (below_row q2 (by omega) hb2.size)⟩
  ·have hn' : decide (next < 0) = false := by simp; omega
   rw [decide_eq_true (show (0 : Int) ≤ next by omega), Bool.true_and, Bool.true_and] at hno
   rw [Bool.or_eq_false_iff, beq_eq_false_iff_ne, decide_eq_false_iff_not] at hno
   obtain ⟨h0, h1⟩ := hno
   obtain ⟨i, hi⟩ : ∃ i, z.ids[z.ids.length - 1]? = some i := ⟨z.ids[z.ids.length - 1]'(by omega), List.getElem?_eq_getElem _⟩
   rw [List.getD_eq_getElem?_getD, hi, Option.getD_some] at h1
   have hil : next ≤ i := by omega
   have hl0 : (0 : Int) < (z.ids.length : Int) := by omega
   have hl0' : 0 < z.ids.length := by omega
   have hli := hk.li
   unfold MAXF at hli
   clear h0 h1 hn
   go_enter Tryz.func48, Tryz.ntmps48
   go_wp2_with fail
   refine hr.mono ?_
   rintro e w1 (⟨_, v', rfl, ⟨A', B', C', D', kA', kB', kC', kD', rfl, hR⟩, hb⟩ | ⟨hg', rfl, hb⟩)
   rotate_left
   ·rw [hgd] at hg'
    cases hg'
   unfold rval
   have hb1 := f3.trans (hb.mono f3.size)
   rw [f2] at hb
   have hba := below_alloc w1 (.cells #[.int .i64 z.n, .slice A' z.c.length kA', .slice B' z.ids.length kB', .slice C' z.g.length kC', .slice D' z.r.length kD'] 61)
   have k0 : UB (w1.alloc (.cells #[.int .i64 z.n, .slice A' z.c.length kA', .slice B' z.ids.length kB', .slice C' z.g.length kC', .slice D' z.r.length kD'] 61)) w.heap.size _ _ _ _ _ _ := UB.below ((hb.block _ (by omega)).trans f0) hba
   have k1 : UB (w1.alloc (.cells #[.int .i64 z.n, .slice A' z.c.length kA', .slice B' z.ids.length kB', .slice C' z.g.length kC', .slice D' z.r.length kD'] 61)) (w.heap.size + 1) _ _ _ _ _ _ := UB.below ((hb.block _ (by omega)).trans f1) hba
   have kr := heap_alloc_new w1 (.cells #[.int .i64 z.n, .slice A' z.c.length kA', .slice B' z.ids.length kB', .slice C' z.g.length kC', .slice D' z.r.length kD'] 61)
   have hb2 := hb1.trans (hba.mono hb1.size)
   replace hR := hR.below hba
   have hsz := Size10_any (w1.alloc (.cells #[.int .i64 z.n, .slice A' z.c.length kA', .slice B' z.ids.length kB', .slice C' z.g.length kC', .slice D' z.r.length kD'] 61)) _ z ⟨A, B, C, D, kA, kB, kC, kD, rfl, hc.below hb2⟩ hk
   unfold zval at hsz
   obtain ⟨x0, x1, x2, x3, x4, x5⟩ := k0.cells
   clear hr hb f0 f1 f2 f3 hb1 hba
   go_wp2_with fail
   refine hsz.mono ?_
   rintro e w2 ⟨rfl, hb3⟩
   replace k0 := k0.below hb3
   replace k1 := k1.below hb3
   replace kr := (hb3.block _ (Array.getElem?_eq_some_iff.1 kr).1).trans kr
   replace hb2 := hb2.trans (hb3.mono hb2.size)
   replace hR := hR.below hb3
   have hlo := Lost10_any w2 (sizeD z)
   unfold lostV at hlo
   clear x0 x1 x2 x3 x4 x5 hb3 hsz
   go_wp2_with fail
   refine hlo.mono ?_
   rintro e w3 ⟨rfl, hb4⟩
   replace k0 := (k0.below hb4).below (below_alloc w3 (.cells #[.int .i64 (sizeD z), .slice none 0 0, .slice none 0 0, .slice none 0 0, .slice none 0 0, .bool true] 30))
   replace k1 := (k1.below hb4).below (below_alloc w3 (.cells #[.int .i64 (sizeD z), .slice none 0 0, .slice none 0 0, .slice none 0 0, .slice none 0 0, .bool true] 30))
   replace kr := (hb4.block _ (Array.getElem?_eq_some_iff.1 kr).1).trans kr
   replace kr := ((below_alloc w3 (.cells #[.int .i64 (sizeD z), .slice none 0 0, .slice none 0 0, .slice none 0 0, .slice none 0 0, .bool true] 30)).block _ (Array.getElem?_eq_some_iff.1 kr).1).trans kr
   replace hb2 := hb2.trans (hb4.mono hb2.size)
   replace hb2 := hb2.trans ((below_alloc w3 (.cells #[.int .i64 (sizeD z), .slice none 0 0, .slice none 0 0, .slice none 0 0, .slice none 0 0, .bool true] 30)).mono hb2.size)
   replace hR := (hR.below hb4).below (below_alloc w3 (.cells #[.int .i64 (sizeD z), .slice none 0 0, .slice none 0 0, .slice none 0 0, .slice none 0 0, .bool true] 30))
   have kl := UB.new w3 (.int .i64 (sizeD z)) (.slice none 0 0) (.slice none 0 0) (.slice none 0 0) (.slice none 0 0) (.bool true)
   clear hlo hb4
   go_upto_region 3 with fail
   generalize w3.alloc (.cells #[.int .i64 (sizeD z), .slice none 0 0, .slice none 0 0, .slice none 0 0, .slice none 0 0, .bool true] 30) = W at *
   generalize w3.heap.size = bL at *
   generalize w1.heap.size = bR at *
   clear w1 w2 w3
   obtain ⟨b, o, rfl, hbb, hcell⟩ := hR.ids.row (z.ids.length - 1) i hi
   have hcell' : W.cell? ⟨b, o + (z.ids.length - 1), none⟩ = some (.int .i64 i) := hcell
   have kn : ((z.ids.length : Int) - 1).toNat = z.ids.length - 1 := by omega
   have kp : (0 : Int) ≤ (z.ids.length : Int) - 1 := by omega
   have kp' : 1 ≤ z.ids.length := by omega
   have kl' : (z.ids.length : Int) - 1 < (z.ids.length : Int) := by omega
   obtain ⟨r0, r1, r2, r3, r4⟩ := cells5 kr
   clear hi hR kr hcell
   obtain ⟨l0, l1, l2, l3, l4, l5⟩ := kl.cells
   obtain ⟨y0, y1, y2, y3, y4, y5⟩ := k1.cells
   have hfr := fun j => k1.frozen j
   go_wp2_with fail
   obtain ⟨q1, q2⟩ := k1.put (.int .i64 (sizeD z)) (.slice none 0 0) (.slice none 0 0) (.slice none 0 0) (.slice none 0 0) (.bool true)
   obtain ⟨c0, c1, c2, c3, c4, c5⟩ := q1.cells
   refine bodyPost_ret (v := .tuple #[.agg #[.int .i64 (sizeD z), .slice none 0 0, .slice none 0 0, .slice none 0 0, .slice none 0 0, .bool true], .int .i64 next]) (by simp [results, Tryz.results48, go_sem, c0, c1, c2, c3, c4, c5]) rfl ?_
   exact ⟨_, rfl, lostV_uis _ _, hb2.trans (below_row q2 (by omega) hb2.size)⟩
set_option maxHeartbeats 16000000 in
theorem lift10_yes (w : World) (A B C D : Option Addr) (kA kB kC kD : Nat) (z : ZD) (next : Int) (hc : ZC cU w z A B C D kA kB kC kD) (hk : ZOk z) (hz : Good z) (hn0 : 0 ≤ next) (hn1 : next ≤ 9223372036854775807) (hlast : z.ids.length = 0 ∨ (z.ids.length ≠ 0 ∧ z.ids.getD (z.ids.length - 1) 0 < next)) :
  Calls Tryz.prog 48 #[zval z A B C D kA kB kC kD, .int .i64 next] w fun e w' => TellsU w (liftD z next) e w' := by
 unfold TellsU
 have hN1 := hz.n1
 have hN2 := hz.n2
 have hgd := (goodD_iff z).2 hz
 obtain ⟨f0, f1, f2, f3⟩ := two_blocks w (.cells #[.int .i64 z.n, .slice A z.c.length kA, .slice B z.ids.length kB, .slice C z.g.length kC, .slice D z.r.length kD, .bool z.bad] 30) (.cells #[.int .i64 0, .slice none 0 0, .slice none 0 0, .slice none 0 0, .slice none 0 0, .bool false] 30)
 have hr := Reals_any _ _ z ⟨A, B, C, D, kA, kB, kC, kD, rfl, hc.below f3⟩ hk
 unfold zval at hr ⊢
 have hno : decide (next < 0) = false := by simp; omega
 have hokD : liftOk z next = true := by
  unfold liftOk
  rw [hgd, decide_eq_true hn0, Bool.true_and, Bool.true_and]
  rcases hlast with h | ⟨_, h⟩
  ·rw [h]; rfl
  ·rw [decide_eq_true h, Bool.or_true]
 have HOK := Lib.hid hokD
 clear hokD
 have HL := Lib.hid hlast
 clear hlast
 go_enter Tryz.func48, Tryz.ntmps48
 go_wp2_with fail
 refine hr.mono ?_
 rintro e w1 (⟨_, v', rfl, ⟨A', B', C', D', kA', kB', kC', kD', rfl, hR⟩, hb⟩ | ⟨hg', rfl, hb⟩)
 rotate_left
 ·rw [hgd] at hg'
  cases hg'
 unfold rval
 have hb1 := f3.trans (hb.mono f3.size)
 rw [f2] at hb
 have hba := below_alloc w1 (.cells #[.int .i64 z.n, .slice A' z.c.length kA', .slice B' z.ids.length kB', .slice C' z.g.length kC', .slice D' z.r.length kD'] 61)
 have k0 : UB (w1.alloc (.cells #[.int .i64 z.n, .slice A' z.c.length kA', .slice B' z.ids.length kB', .slice C' z.g.length kC', .slice D' z.r.length kD'] 61)) w.heap.size _ _ _ _ _ _ := UB.below ((hb.block _ (by omega)).trans f0) hba
 have k1 : UB (w1.alloc (.cells #[.int .i64 z.n, .slice A' z.c.length kA', .slice B' z.ids.length kB', .slice C' z.g.length kC', .slice D' z.r.length kD'] 61)) (w.heap.size + 1) _ _ _ _ _ _ := UB.below ((hb.block _ (by omega)).trans f1) hba
 have kr := heap_alloc_new w1 (.cells #[.int .i64 z.n, .slice A' z.c.length kA', .slice B' z.ids.length kB', .slice C' z.g.length kC', .slice D' z.r.length kD'] 61)
 have hb2 := hb1.trans (hba.mono hb1.size)
 replace hR := hR.below hba
 have hsz := Size10_any (w1.alloc (.cells #[.int .i64 z.n, .slice A' z.c.length kA', .slice B' z.ids.length kB', .slice C' z.g.length kC', .slice D' z.r.length kD'] 61)) _ z ⟨A, B, C, D, kA, kB, kC, kD, rfl, hc.below hb2⟩ hk
 unfold zval at hsz
 obtain ⟨x0, x1, x2, x3, x4, x5⟩ := k0.cells
 clear hr hb f0 f1 f2 f3 hb1 hba
 go_wp2_with fail
 refine hsz.mono ?_
 rintro e w2 ⟨rfl, hb3⟩
 replace k0 := k0.below hb3
 replace k1 := k1.below hb3
 replace kr := (hb3.block _ (Array.getElem?_eq_some_iff.1 kr).1).trans kr
 replace hb2 := hb2.trans (hb3.mono hb2.size)
 replace hR := hR.below hb3
 have hlo := Lost10_any w2 (sizeD z)
 unfold lostV at hlo
 clear x0 x1 x2 x3 x4 x5 hb3 hsz
 go_wp2_with fail
 refine hlo.mono ?_
 rintro e w3 ⟨rfl, hb4⟩
 replace k0 := (k0.below hb4).below (below_alloc w3 (.cells #[.int .i64 (sizeD z), .slice none 0 0, .slice none 0 0, .slice none 0 0, .slice none 0 0, .bool true] 30))
 replace k1 := (k1.below hb4).below (below_alloc w3 (.cells #[.int .i64 (sizeD z), .slice none 0 0, .slice none 0 0, .slice none 0 0, .slice none 0 0, .bool true] 30))
 replace kr := (hb4.block _ (Array.getElem?_eq_some_iff.1 kr).1).trans kr
 replace kr := ((below_alloc w3 (.cells #[.int .i64 (sizeD z), .slice none 0 0, .slice none 0 0, .slice none 0 0, .slice none 0 0, .bool true] 30)).block _ (Array.getElem?_eq_some_iff.1 kr).1).trans kr
 replace hb2 := hb2.trans (hb4.mono hb2.size)
 replace hb2 := hb2.trans ((below_alloc w3 (.cells #[.int .i64 (sizeD z), .slice none 0 0, .slice none 0 0, .slice none 0 0, .slice none 0 0, .bool true] 30)).mono hb2.size)
 replace hR := (hR.below hb4).below (below_alloc w3 (.cells #[.int .i64 (sizeD z), .slice none 0 0, .slice none 0 0, .slice none 0 0, .slice none 0 0, .bool true] 30))
 have kl := UB.new w3 (.int .i64 (sizeD z)) (.slice none 0 0) (.slice none 0 0) (.slice none 0 0) (.slice none 0 0) (.bool true)
 clear hlo hb4
 go_upto_region 3 with fail
 generalize w3.alloc (.cells #[.int .i64 (sizeD z), .slice none 0 0, .slice none 0 0, .slice none 0 0, .slice none 0 0, .bool true] 30) = W at *
 generalize w3.heap.size = bL at *
 generalize w1.heap.size = bR at *
 clear w1 w2 w3
 go_cut [45] from 22 to 44 (fun c wx => c = .bool false ∧ W = wx)
 case first =>
  rcases HL.out with h0 | ⟨h0, h1⟩
  ·have hl0 : decide ((0 : Int) < (z.ids.length : Int)) = false := decide_eq_false (by omega)
   have hl0' : decide (0 < z.ids.length) = false := decide_eq_false (by omega)
   obtain ⟨r0, r1, r2, r3, r4⟩ := cells5 kr
   clear h0
   go_wp2_with fail
   go_meet
   exact ⟨rfl, rfl⟩
  ·obtain ⟨i, hi⟩ : ∃ i, z.ids[z.ids.length - 1]? = some i := ⟨z.ids[z.ids.length - 1]'(by omega), List.getElem?_eq_getElem _⟩
   rw [List.getD_eq_getElem?_getD, hi, Option.getD_some] at h1
   have hil : decide (next ≤ i) = false := by simp; omega
   have hl0 : (0 : Int) < (z.ids.length : Int) := by omega
   have hl0' : 0 < z.ids.length := by omega
   have hli := hk.li
   unfold MAXF at hli
   clear h0 h1
   obtain ⟨b, o, rfl, hbb, hcell⟩ := hR.ids.row (z.ids.length - 1) i hi
   have hcell' : W.cell? ⟨b, o + (z.ids.length - 1), none⟩ = some (.int .i64 i) := hcell
   have kn : ((z.ids.length : Int) - 1).toNat = z.ids.length - 1 := by omega
   have kp : (0 : Int) ≤ (z.ids.length : Int) - 1 := by omega
   have kp' : 1 ≤ z.ids.length := by omega
   have kl' : (z.ids.length : Int) - 1 < (z.ids.length : Int) := by omega
   obtain ⟨r0, r1, r2, r3, r4⟩ := cells5 kr
   clear hi hcell
   go_wp2_with fail
   go_meet
   exact ⟨rfl, rfl⟩
 case rest =>
  obtain ⟨rfl, rfl⟩ := hcut
  have hok := HOK.out
  have hend := fun ids g a h => lift_end (next := next) (ids := ids) (g := g) (a := a) hz hok h
  have hover := fun k u ids g a h1 h2 h3 h4 => lift_over (next := next) (k := k) (u := u) (ids := ids) (g := g) (a := a) hz hok h1 h2 h3 h4
  have hcW := hc.below hb2
  have hPl := fun w1 (hb : Below W.heap.size W w1) => plainAll_any w1 A z.c.length kA z.c (hcW.c.below (Nat.le_refl _) hb) hk.c rfl hk.lc
  clear HL HOK hno hgd hok
  go_upto_region 5 with fail
  go_cut [9] from 48 to 56 (fun v wx => ∃ (gb : Nat) (A4 : Option Addr) (c4 g7 : Nat), v = .pointer (some ⟨gb, 0, none⟩) ∧ LU W gb z.n A4 (some ⟨g7, 0, none⟩) z.c.length c4 z.n.toNat z.n.toNat (z.c.map plainU) (List.replicate z.n.toNat 0) wx (.slice none 0 0) (.slice none 0 0) [] [] [])
  case first =>
   have hS : ∀ W', Below W.heap.size W W' → (fun w' => w'.cell? ⟨w.heap.size, 0, none⟩ = some (.int .i64 z.n) ∧ w'.cell? ⟨w.heap.size, 1, none⟩ = some (.slice A z.c.length kA)) W' := fun W' hb => ⟨(k0.below hb).cells.1, (k0.below hb).cells.2.1⟩
   have hd := (Below.refl W.heap.size W).drew
   refine late_begin (fun w' => w'.cell? ⟨w.heap.size, 0, none⟩ = some (.int .i64 z.n) ∧ w'.cell? ⟨w.heap.size, 1, none⟩ = some (.slice A z.c.length kA)) [10] (by kernel_rfl) ?_
   refine late_take (i := 0) (v := ?_) (some 48) rfl rfl (by kernel_rfl) (by kernel_rfl) (by kernel_rfl) (by kernel_rfl) (fun _ _ _ h => h) (by kernel_rfl) (hS _ hd) ?_ ?_
   rotate_left
   ·(intro w hSw; (try dsimp only at hSw); go_simp; try rfl)
   try simp only [Act.put, List.setIfInBounds_toArray, List.set_cons_zero, List.set_cons_succ]
   refine late_take (i := 1) (v := ?_) (some 49) rfl rfl (by kernel_rfl) (by kernel_rfl) (by kernel_rfl) (by kernel_rfl) (fun _ _ _ h => h) (by kernel_rfl) (hS _ hd) ?_ ?_
   rotate_left
   ·(intro w hSw; (try dsimp only at hSw); go_simp; try rfl)
   try simp only [Act.put, List.setIfInBounds_toArray, List.set_cons_zero, List.set_cons_succ]
   refine late_take (i := 2) (v := ?_) (some 50) rfl rfl (by kernel_rfl) (by kernel_rfl) (by kernel_rfl) (by kernel_rfl) (fun _ _ _ h => h) (by kernel_rfl) (hS _ hd) ?_ ?_
   rotate_left
   ·(intro w hSw; (try dsimp only at hSw); go_simp; try rfl)
   try simp only [Act.put, List.setIfInBounds_toArray, List.set_cons_zero, List.set_cons_succ]
   refine late_take (i := 3) (v := ?_) (some 51) rfl rfl (by kernel_rfl) (by kernel_rfl) (by kernel_rfl) (by kernel_rfl) (fun _ _ _ h => h) (by kernel_rfl) (hS _ hd) ?_ ?_
   rotate_left
   ·(intro w hSw; (try dsimp only at hSw); go_simp; try rfl)
   try simp only [Act.put, List.setIfInBounds_toArray, List.set_cons_zero, List.set_cons_succ]
   refine late_take (i := 5) (v := ?_) (some 53) rfl rfl (by kernel_rfl) (by kernel_rfl) (by kernel_rfl) (by kernel_rfl) (fun _ _ _ h => h) (by kernel_rfl) (hS _ hd) ?_ ?_
   rotate_left
   ·(intro w hSw; (try dsimp only at hSw); go_simp; try rfl)
   try simp only [Act.put, List.setIfInBounds_toArray, List.set_cons_zero, List.set_cons_succ]
   refine late_take (i := 6) (v := ?_) (some 54) rfl rfl (by kernel_rfl) (by kernel_rfl) (by kernel_rfl) (by kernel_rfl) (fun _ _ _ h => h) (by kernel_rfl) (hS _ hd) ?_ ?_
   rotate_left
   ·(intro w hSw; (try dsimp only at hSw); go_simp; try rfl)
   try simp only [Act.put, List.setIfInBounds_toArray, List.set_cons_zero, List.set_cons_succ]
   refine late_both (i := 4) (j := 9) rfl rfl (by kernel_rfl) ?_ ?_
   ·intro K hK
    go_simp
    refine (hPl _ hd).mono ?_
    rintro e w4 ⟨A4, c4, rfl, hT4, hb4⟩
    have hp := hd.trans (hb4.mono hd.size)
    try show K _ _
    refine hK.out _ _ (Or.inr (hS _ hp)) ?_
    clear hK K
    try simp only [Act.put, List.setIfInBounds_toArray, List.set_cons_zero, List.set_cons_succ]
    refine late_both (i := 7) (j := 9) rfl rfl (by kernel_rfl) ?_ ?_
    ·intro K hK
     go_simp
     refine (zeros_anyZ _ z.n (by omega) (by omega)).mono ?_
     rintro e w7 ⟨g7, rfl, hl7, hZ7, hb7⟩
     have hq := hp.trans (hb7.mono hp.size)
     replace hT4 := hT4.below hb7
     try show K _ _
     refine hK.out _ _ (Or.inr (hS _ hq)) ?_
     clear hK K
     try simp only [Act.put, List.setIfInBounds_toArray, List.set_cons_zero, List.set_cons_succ]
     refine late_take (i := 8) (v := ?_) (some 56) rfl rfl (by kernel_rfl) (by kernel_rfl) (by kernel_rfl) (by kernel_rfl) (fun _ _ _ h => h) (by kernel_rfl) (hS _ hq) ?_ ?_
     rotate_left
     ·(intro w hSw; (try dsimp only at hSw); go_simp; try rfl)
     try simp only [Act.put, List.setIfInBounds_toArray, List.set_cons_zero, List.set_cons_succ]
     refine late_one (i := 9) rfl (by kernel_rfl) ?_
     intro K hK
     go_simp
     have hz0 : UB (w7.alloc (.cells #[.int .i64 0, .slice none 0 0, .slice none 0 0, .slice none 0 0, .slice none 0 0, .bool false] 30)) w7.heap.size _ _ _ _ _ _ := UB.new w7 _ _ _ _ _ _
     have hlo := hq.size
     have ha := hq.alloc hq.size (.cells #[.int .i64 0, .slice none 0 0, .slice none 0 0, .slice none 0 0, .slice none 0 0, .bool false] 30)
     replace hT4 := hT4.below (below_alloc w7 (.cells #[.int .i64 0, .slice none 0 0, .slice none 0 0, .slice none 0 0, .slice none 0 0, .bool false] 30))
     replace hZ7 := hZ7.below (below_alloc w7 (.cells #[.int .i64 0, .slice none 0 0, .slice none 0 0, .slice none 0 0, .slice none 0 0, .bool false] 30))
     generalize w7.alloc (.cells #[.int .i64 0, .slice none 0 0, .slice none 0 0, .slice none 0 0, .slice none 0 0, .bool false] 30) = Wa at *
     generalize w7.heap.size = gb at *
     try show K _ _
     refine hK.out _ _ (Or.inr (hS _ ha)) ?_
     clear hK K
     try simp only [Act.put, List.setIfInBounds_toArray, List.set_cons_zero, List.set_cons_succ]
     refine late_one (i := 10) rfl (by kernel_rfl) ?_
     intro K hK
     obtain ⟨z0, z1, z2, z3, z4, z5⟩ := hz0.cells
     have hfr := fun j => hz0.frozen j
     go_simp
     try show K _ _
     refine hK.out _ _ (Or.inl (by decide)) ?_
     clear hK K
     try simp only [Act.put, List.setIfInBounds_toArray, List.set_cons_zero, List.set_cons_succ]
     refine late_done (by kernel_rfl) ?_ _
     go_wp2_with fail
     go_meet
     case rel =>
      obtain ⟨q1, q2⟩ := hz0.put (.int .i64 z.n) (.slice A4 z.c.length c4) (.slice none 0 0) (.slice none 0 0) (.slice (some ⟨g7, 0, none⟩) z.n.toNat z.n.toNat) (.bool false)
      exact ⟨_, _, _, _, rfl, LU.start (ha.trans (below_row q2 hlo ha.size)) q1 (hT4.far q2 (fun k e => by cases e; exact hz0.typed) (by decide)) ((hZ7.tat (by unfold MAXF; omega)).far q2 (fun k e => by cases e; exact hz0.typed) (by decide)) (by rw [List.length_map]) (by rw [List.length_replicate]) hlo⟩
    ·intro K hK
     go_simp
     have hz0 : UB (w4.alloc (.cells #[.int .i64 0, .slice none 0 0, .slice none 0 0, .slice none 0 0, .slice none 0 0, .bool false] 30)) w4.heap.size _ _ _ _ _ _ := UB.new w4 _ _ _ _ _ _
     have hlo := hp.size
     have ha := hp.alloc hp.size (.cells #[.int .i64 0, .slice none 0 0, .slice none 0 0, .slice none 0 0, .slice none 0 0, .bool false] 30)
     replace hT4 := hT4.below (below_alloc w4 (.cells #[.int .i64 0, .slice none 0 0, .slice none 0 0, .slice none 0 0, .slice none 0 0, .bool false] 30))
     generalize w4.alloc (.cells #[.int .i64 0, .slice none 0 0, .slice none 0 0, .slice none 0 0, .slice none 0 0, .bool false] 30) = Wa at *
     generalize w4.heap.size = gb at *
     try show K _ _
     refine hK.out _ _ (Or.inr (hS _ ha)) ?_
     clear hK K
     try simp only [Act.put, List.setIfInBounds_toArray, List.set_cons_zero, List.set_cons_succ]
     refine late_one (i := 7) rfl (by kernel_rfl) ?_
     intro K hK
     go_simp
     refine (zeros_anyZ _ z.n (by omega) (by omega)).mono ?_
     rintro e w7 ⟨g7, rfl, hl7, hZ7, hb7⟩
     have hq := ha.trans (hb7.mono ha.size)
     replace hT4 := hT4.below hb7
     replace hz0 := UB.below hz0 hb7
     try show K _ _
     refine hK.out _ _ (Or.inr (hS _ hq)) ?_
     clear hK K
     try simp only [Act.put, List.setIfInBounds_toArray, List.set_cons_zero, List.set_cons_succ]
     refine late_take (i := 8) (v := ?_) (some 56) rfl rfl (by kernel_rfl) (by kernel_rfl) (by kernel_rfl) (by kernel_rfl) (fun _ _ _ h => h) (by kernel_rfl) (hS _ hq) ?_ ?_
     rotate_left
     ·(intro w hSw; (try dsimp only at hSw); go_simp; try rfl)
     try simp only [Act.put, List.setIfInBounds_toArray, List.set_cons_zero, List.set_cons_succ]
     refine late_one (i := 10) rfl (by kernel_rfl) ?_
     intro K hK
     obtain ⟨z0, z1, z2, z3, z4, z5⟩ := hz0.cells
     have hfr := fun j => hz0.frozen j
     go_simp
     try show K _ _
     refine hK.out _ _ (Or.inl (by decide)) ?_
     clear hK K
     try simp only [Act.put, List.setIfInBounds_toArray, List.set_cons_zero, List.set_cons_succ]
     refine late_done (by kernel_rfl) ?_ _
     go_wp2_with fail
     go_meet
     case rel =>
      obtain ⟨q1, q2⟩ := hz0.put (.int .i64 z.n) (.slice A4 z.c.length c4) (.slice none 0 0) (.slice none 0 0) (.slice (some ⟨g7, 0, none⟩) z.n.toNat z.n.toNat) (.bool false)
      exact ⟨_, _, _, _, rfl, LU.start (hq.trans (below_row q2 hlo hq.size)) q1 (hT4.far q2 (fun k e => by cases e; exact hz0.typed) (by decide)) ((hZ7.tat (by unfold MAXF; omega)).far q2 (fun k e => by cases e; exact hz0.typed) (by decide)) (by rw [List.length_map]) (by rw [List.length_replicate]) hlo⟩
   ·intro K hK
    go_simp
    have hz0 : UB (W.alloc (.cells #[.int .i64 0, .slice none 0 0, .slice none 0 0, .slice none 0 0, .slice none 0 0, .bool false] 30)).drew W.heap.size _ _ _ _ _ _ := UB.new W _ _ _ _ _ _
    have hlo := Nat.le_refl W.heap.size
    have ha : Below W.heap.size W (W.alloc (.cells #[.int .i64 0, .slice none 0 0, .slice none 0 0, .slice none 0 0, .slice none 0 0, .bool false] 30)).drew := ((Below.refl _ _).alloc (Nat.le_refl _) _).drew
    generalize (W.alloc (.cells #[.int .i64 0, .slice none 0 0, .slice none 0 0, .slice none 0 0, .slice none 0 0, .bool false] 30)).drew = Wa at *
    try show K _ _
    refine hK.out _ _ (Or.inr (hS _ ha)) ?_
    clear hK K
    try simp only [Act.put, List.setIfInBounds_toArray, List.set_cons_zero, List.set_cons_succ]
    refine late_one (i := 4) rfl (by kernel_rfl) ?_
    intro K hK
    go_simp
    refine (hPl _ ha).mono ?_
    rintro e w4 ⟨A4, c4, rfl, hT4, hb4⟩
    have hp := ha.trans (hb4.mono ha.size)
    replace hz0 := UB.below hz0 hb4
    try show K _ _
    refine hK.out _ _ (Or.inr (hS _ hp)) ?_
    clear hK K
    try simp only [Act.put, List.setIfInBounds_toArray, List.set_cons_zero, List.set_cons_succ]
    refine late_one (i := 7) rfl (by kernel_rfl) ?_
    intro K hK
    go_simp
    refine (zeros_anyZ _ z.n (by omega) (by omega)).mono ?_
    rintro e w7 ⟨g7, rfl, hl7, hZ7, hb7⟩
    have hq := hp.trans (hb7.mono hp.size)
    replace hT4 := hT4.below hb7
    replace hz0 := UB.below hz0 hb7
    try show K _ _
    refine hK.out _ _ (Or.inr (hS _ hq)) ?_
    clear hK K
    try simp only [Act.put, List.setIfInBounds_toArray, List.set_cons_zero, List.set_cons_succ]
    refine late_take (i := 8) (v := ?_) (some 56) rfl rfl (by kernel_rfl) (by kernel_rfl) (by kernel_rfl) (by kernel_rfl) (fun _ _ _ h => h) (by kernel_rfl) (hS _ hq) ?_ ?_
    rotate_left
    ·(intro w hSw; (try dsimp only at hSw); go_simp; try rfl)
    try simp only [Act.put, List.setIfInBounds_toArray, List.set_cons_zero, List.set_cons_succ]
    refine late_one (i := 10) rfl (by kernel_rfl) ?_
    intro K hK
    obtain ⟨z0, z1, z2, z3, z4, z5⟩ := hz0.cells
    have hfr := fun j => hz0.frozen j
    go_simp
    try show K _ _
    refine hK.out _ _ (Or.inl (by decide)) ?_
    clear hK K
    try simp only [Act.put, List.setIfInBounds_toArray, List.set_cons_zero, List.set_cons_succ]
    refine late_done (by kernel_rfl) ?_ _
    go_wp2_with fail
    go_meet
    case rel =>
     obtain ⟨q1, q2⟩ := hz0.put (.int .i64 z.n) (.slice A4 z.c.length c4) (.slice none 0 0) (.slice none 0 0) (.slice (some ⟨g7, 0, none⟩) z.n.toNat z.n.toNat) (.bool false)
     exact ⟨_, _, _, _, rfl, LU.start (hq.trans (below_row q2 hlo hq.size)) q1 (hT4.far q2 (fun k e => by cases e; exact hz0.typed) (by decide)) ((hZ7.tat (by unfold MAXF; omega)).far q2 (fun k e => by cases e; exact hz0.typed) (by decide)) (by rw [List.length_map]) (by rw [List.length_replicate]) hlo⟩
  case rest =>
   obtain ⟨gb, A4, c4, g7, rfl, hU⟩ := hcut
   clear hPl
   go_wp2_with fail
   go_loopw [10] (fun kk wr => ∃ (k : Nat) (vi vg : Value) (vals : List Value), k ≤ z.g.length ∧ kk = .int .i64 (k : Nat) ∧ LU W gb z.n A4 (some ⟨g7, 0, none⟩) z.c.length c4 z.n.toNat z.n.toNat (z.c.map plainU) (List.replicate z.n.toNat 0) wr vi vg vals (z.ids.take k) ((z.g.take k).map fun g => g.map plainU)) (fun kk _ => z.g.length - (intOf kk).toNat)
   case atStart => exact ⟨0, _, _, [], Nat.zero_le _, rfl, hU⟩
   case round =>
    obtain ⟨k, vi, vg, vals, hk', rfl, hst⟩ := hrel
    clear hU
    have x3 := (k0.below hst.bel).cells.2.2.2.1
    by_cases hlt : k < z.g.length
    ·have hlt' : (k : Int) < (z.g.length : Int) := by omega
     have hzl := hz.len
     have hcols := hz.cols
     obtain ⟨i, hi⟩ := get_some z.ids k (by omega)
     obtain ⟨g', hg0⟩ := get_some z.g k hlt
     have HTi := Lib.hid (take_more z.ids k i hi).symm
     have HTg := Lib.hid (show (z.g.take k).map (fun g => g.map plainU) ++ [g'.map plainU] = (z.g.take (k + 1)).map (fun g => g.map plainU) by rw [take_more z.g k g' hg0, List.map_append]; rfl)
     obtain ⟨bi, oi, rfl, hbi, hci0⟩ := hcW.ids k i hi
     have hci : W.cell? ⟨bi, oi + k, none⟩ = some (.int .i64 i) := hci0
     obtain ⟨bg, og, rfl, hbg, Bk, capk, hcg, hcap, hcm, hRg⟩ := hcW.g k g' hg0
     have hgs := (hk.g g' (List.mem_of_getElem? hg0)).1
     have hgl := (hk.g g' (List.mem_of_getElem? hg0)).2
     have hil : (z.ids.take k).length ≤ k := List.length_take_le _ _
     have hvl : vals.length ≤ k := by rw [hst.vlen, List.length_map]; exact List.length_take_le _ _
     have hki : k < z.ids.length := by omega
     have hki' : (k : Int) < (z.ids.length : Int) := by omega
     clear hi hg0 hci0 hzl
     generalize z.ids.take k = idk at *
     go_wp2_with fail
     clear x3
     have hS0 : ∀ W', Below W.heap.size W W' → W'.cell? ⟨w.heap.size, 2, none⟩ = some (.slice (some ⟨bi, oi, none⟩) z.ids.length kB) ∧ W'.cell? ⟨bi, oi + k, none⟩ = some (.int .i64 i) := fun W' hb => ⟨(k0.below hb).cells.2.2.1, (hb.cell (p := ⟨bi, oi + k, none⟩) hbi).trans hci⟩
     have hS : ∀ W', Below wr.heap.size wr W' → (fun w' => w'.cell? ⟨gb, 2, none⟩ = some vi ∧ w'.cell? ⟨w.heap.size, 2, none⟩ = some (.slice (some ⟨bi, oi, none⟩) z.ids.length kB) ∧ w'.cell? ⟨bi, oi + k, none⟩ = some (.int .i64 i)) W' := fun W' hb => ⟨(hst.b hb).out.cells.2.2.1, hS0 _ (hst.b hb).bel⟩
     have hd := (Below.refl wr.heap.size wr).drew
     refine late_begin (fun w' => w'.cell? ⟨gb, 2, none⟩ = some vi ∧ w'.cell? ⟨w.heap.size, 2, none⟩ = some (.slice (some ⟨bi, oi, none⟩) z.ids.length kB) ∧ w'.cell? ⟨bi, oi + k, none⟩ = some (.int .i64 i)) [10] (by kernel_rfl) ?_
     refine late_take (i := 0) (v := ?_) (some 64) rfl rfl (by kernel_rfl) (by kernel_rfl) (by kernel_rfl) (by kernel_rfl) (fun _ _ _ h => h) (by kernel_rfl) (hS _ hd) ?_ ?_
     rotate_left
     ·(intro w hSw; (try dsimp only at hSw); go_simp; try rfl)
     try simp only [Act.put, List.setIfInBounds_toArray, List.set_cons_zero, List.set_cons_succ]
     refine late_take (i := 1) (v := ?_) (some 65) rfl rfl (by kernel_rfl) (by kernel_rfl) (by kernel_rfl) (by kernel_rfl) (fun _ _ _ h => h) (by kernel_rfl) (hS _ hd) ?_ ?_
     rotate_left
     ·(intro w hSw; (try dsimp only at hSw); go_simp; try rfl)
     try simp only [Act.put, List.setIfInBounds_toArray, List.set_cons_zero, List.set_cons_succ]
     refine late_take (i := 2) (v := ?_) (some 66) rfl rfl (by kernel_rfl) (by kernel_rfl) (by kernel_rfl) (by kernel_rfl) (fun _ _ _ h => h) (by kernel_rfl) (hS _ hd) ?_ ?_
     rotate_left
     ·(intro w hSw; (try dsimp only at hSw); go_simp; try rfl)
     try simp only [Act.put, List.setIfInBounds_toArray, List.set_cons_zero, List.set_cons_succ]
     refine late_take (i := 3) (v := ?_) (some 67) rfl rfl (by kernel_rfl) (by kernel_rfl) (by kernel_rfl) (by kernel_rfl) (fun _ _ _ h => h) (by kernel_rfl) (hS _ hd) ?_ ?_
     rotate_left
     ·(intro w hSw; (try dsimp only at hSw); go_simp; try rfl)
     try simp only [Act.put, List.setIfInBounds_toArray, List.set_cons_zero, List.set_cons_succ]
     refine late_take (i := 4) (v := ?_) (some 68) rfl rfl (by kernel_rfl) (by kernel_rfl) (by kernel_rfl) (by kernel_rfl) (fun _ _ _ h => h) (by kernel_rfl) (hS _ hd) ?_ ?_
     rotate_left
     ·(intro w hSw; (try dsimp only at hSw); go_simp; try rfl)
     try simp only [Act.put, List.setIfInBounds_toArray, List.set_cons_zero, List.set_cons_succ]
     refine late_take (i := 5) (v := ?_) (some 69) rfl rfl (by kernel_rfl) (by kernel_rfl) (by kernel_rfl) (by kernel_rfl) (fun _ _ _ h => h) (by kernel_rfl) (hS _ hd) ?_ ?_
     rotate_left
     ·(intro w hSw; (try dsimp only at hSw); go_simp; try rfl)
     try simp only [Act.put, List.setIfInBounds_toArray, List.set_cons_zero, List.set_cons_succ]
     refine late_take (i := 6) (v := ?_) (some 70) rfl rfl (by kernel_rfl) (by kernel_rfl) (by kernel_rfl) (by kernel_rfl) (fun _ _ _ h => h) (by kernel_rfl) (hS _ hd) ?_ ?_
     rotate_left
     ·(intro w hSw; (try dsimp only at hSw); go_simp; try rfl)
     try simp only [Act.put, List.setIfInBounds_toArray, List.set_cons_zero, List.set_cons_succ]
     refine late_one (i := 7) rfl (by kernel_rfl) ?_
     intro K hK
     go_simp
     have ha := hd.alloc hd.size (.cells #[.int .i64 i] 3)
     try show K _ _
     refine hK.out _ _ (Or.inr (hS _ ha)) ?_
     clear hK K
     try simp only [Act.put, List.setIfInBounds_toArray, List.set_cons_zero, List.set_cons_succ]
     refine late_one (i := 8) rfl (by kernel_rfl) ?_
     intro K hK
     have hA := hst.b ha
     refine step_app1 cI 8 (.int .i64 0) 23 3 Tryz.underlying23 infoInt rfl rfl _ _ rfl W.heap.size vi idk i (.int .i64 i) wr.heap.size rfl rfl hA.ids rfl rfl (cell_new0 wr.drew (.int .i64 i) 3) (by omega) (by omega) hA.size ?_
     intro v4 w4 ho4 hg4 _
     obtain ⟨A4', c4', hv4, _⟩ := ho4.lat
     rw [List.length_append, List.length_singleton] at hv4
     subst hv4
     obtain ⟨kz, kst⟩ := hA.putIds ho4 hg4
     have hW4 := hA.bel.trans (below_ownG hA.ids hg4 hA.size)
     have KK := Lib.hid kst
     clear kst ho4 hg4 hA
     try show K _ _
     refine hK.out _ _ (Or.inr ⟨kz.cells.2.2.1, hS0 _ hW4⟩) ?_
     clear hK K
     try simp only [Act.put, List.setIfInBounds_toArray, List.set_cons_zero, List.set_cons_succ]
     refine late_take (i := 9) (v := ?_) (some 73) rfl rfl (by kernel_rfl) (by kernel_rfl) (by kernel_rfl) (by kernel_rfl) (fun _ _ _ h => h) (by kernel_rfl) ⟨kz.cells.2.2.1, hS0 _ hW4⟩ ?_ ?_
     rotate_left
     ·(intro w hSw; (try dsimp only at hSw); go_simp; try rfl)
     try simp only [Act.put, List.setIfInBounds_toArray, List.set_cons_zero, List.set_cons_succ]
     refine late_one (i := 10) rfl (by kernel_rfl) ?_
     intro K hK
     obtain ⟨z0, z1, z2, z3, z4, z5⟩ := kz.cells
     have hfr := fun j => kz.frozen j
     go_simp
     try show K _ _
     refine hK.out _ _ (Or.inl (by decide)) ?_
     clear hK K
     try simp only [Act.put, List.setIfInBounds_toArray, List.set_cons_zero, List.set_cons_succ]
     refine late_done (by kernel_rfl) ?_ _
     have hs5 := KK.out
     clear KK kz hW4 z0 z1 z2 z3 z4 z5 hfr hS hS0 hd ha
     generalize w4.setCell ⟨gb, 2, none⟩ (.slice A4' (idk.length + 1) c4') = W5 at *
     clear hst
     go_wp2_with fail
     have hS0 : ∀ W', Below W.heap.size W W' → W'.cell? ⟨w.heap.size, 3, none⟩ = some (.slice (some ⟨bg, og, none⟩) z.g.length kC) ∧ W'.cell? ⟨bg, og + k, none⟩ = some (.slice Bk g'.length capk) := fun W' hb => ⟨(k0.below hb).cells.2.2.2.1, (hb.cell (p := ⟨bg, og + k, none⟩) hbg).trans hcg⟩
     have hS : ∀ W', Below W5.heap.size W5 W' → (fun w' => w'.cell? ⟨gb, 3, none⟩ = some vg ∧ w'.cell? ⟨w.heap.size, 3, none⟩ = some (.slice (some ⟨bg, og, none⟩) z.g.length kC) ∧ w'.cell? ⟨bg, og + k, none⟩ = some (.slice Bk g'.length capk)) W' := fun W' hb => ⟨(hs5.b hb).out.cells.2.2.2.1, hS0 _ (hs5.b hb).bel⟩
     have hd := (Below.refl W5.heap.size W5).drew
     refine late_begin (fun w' => w'.cell? ⟨gb, 3, none⟩ = some vg ∧ w'.cell? ⟨w.heap.size, 3, none⟩ = some (.slice (some ⟨bg, og, none⟩) z.g.length kC) ∧ w'.cell? ⟨bg, og + k, none⟩ = some (.slice Bk g'.length capk)) [11] (by kernel_rfl) ?_
     refine late_take (i := 0) (v := ?_) (some 74) rfl rfl (by kernel_rfl) (by kernel_rfl) (by kernel_rfl) (by kernel_rfl) (fun _ _ _ h => h) (by kernel_rfl) (hS _ hd) ?_ ?_
     rotate_left
     ·(intro w hSw; (try dsimp only at hSw); go_simp; try rfl)
     try simp only [Act.put, List.setIfInBounds_toArray, List.set_cons_zero, List.set_cons_succ]
     refine late_take (i := 1) (v := ?_) (some 75) rfl rfl (by kernel_rfl) (by kernel_rfl) (by kernel_rfl) (by kernel_rfl) (fun _ _ _ h => h) (by kernel_rfl) (hS _ hd) ?_ ?_
     rotate_left
     ·(intro w hSw; (try dsimp only at hSw); go_simp; try rfl)
     try simp only [Act.put, List.setIfInBounds_toArray, List.set_cons_zero, List.set_cons_succ]
     refine late_take (i := 2) (v := ?_) (some 76) rfl rfl (by kernel_rfl) (by kernel_rfl) (by kernel_rfl) (by kernel_rfl) (fun _ _ _ h => h) (by kernel_rfl) (hS _ hd) ?_ ?_
     rotate_left
     ·(intro w hSw; (try dsimp only at hSw); go_simp; try rfl)
     try simp only [Act.put, List.setIfInBounds_toArray, List.set_cons_zero, List.set_cons_succ]
     refine late_take (i := 3) (v := ?_) (some 77) rfl rfl (by kernel_rfl) (by kernel_rfl) (by kernel_rfl) (by kernel_rfl) (fun _ _ _ h => h) (by kernel_rfl) (hS _ hd) ?_ ?_
     rotate_left
     ·(intro w hSw; (try dsimp only at hSw); go_simp; try rfl)
     try simp only [Act.put, List.setIfInBounds_toArray, List.set_cons_zero, List.set_cons_succ]
     refine late_take (i := 4) (v := ?_) (some 78) rfl rfl (by kernel_rfl) (by kernel_rfl) (by kernel_rfl) (by kernel_rfl) (fun _ _ _ h => h) (by kernel_rfl) (hS _ hd) ?_ ?_
     rotate_left
     ·(intro w hSw; (try dsimp only at hSw); go_simp; try rfl)
     try simp only [Act.put, List.setIfInBounds_toArray, List.set_cons_zero, List.set_cons_succ]
     refine late_take (i := 5) (v := ?_) (some 79) rfl rfl (by kernel_rfl) (by kernel_rfl) (by kernel_rfl) (by kernel_rfl) (fun _ _ _ h => h) (by kernel_rfl) (hS _ hd) ?_ ?_
     rotate_left
     ·(intro w hSw; (try dsimp only at hSw); go_simp; try rfl)
     try simp only [Act.put, List.setIfInBounds_toArray, List.set_cons_zero, List.set_cons_succ]
     refine late_take (i := 6) (v := ?_) (some 80) rfl rfl (by kernel_rfl) (by kernel_rfl) (by kernel_rfl) (by kernel_rfl) (fun _ _ _ h => h) (by kernel_rfl) (hS _ hd) ?_ ?_
     rotate_left
     ·(intro w hSw; (try dsimp only at hSw); go_simp; try rfl)
     try simp only [Act.put, List.setIfInBounds_toArray, List.set_cons_zero, List.set_cons_succ]
     refine late_one (i := 7) rfl (by kernel_rfl) ?_
     intro K hK
     go_simp
     refine (plainAll_any _ Bk g'.length capk g' (hRg.below (Nat.le_refl _) (hs5.b hd).bel) hgs rfl hgl).mono ?_
     rintro e w6 ⟨A6, c6, rfl, hT6, hb6⟩
     have hc6 := hd.trans (hb6.mono hd.size)
     try show K _ _
     refine hK.out _ _ (Or.inr (hS _ hc6)) ?_
     clear hK K
     try simp only [Act.put, List.setIfInBounds_toArray, List.set_cons_zero, List.set_cons_succ]
     refine late_one (i := 8) rfl (by kernel_rfl) ?_
     intro K hK
     go_simp
     have ha := hc6.alloc hc6.size (.cells #[.slice A6 g'.length c6] 27)
     try show K _ _
     refine hK.out _ _ (Or.inr (hS _ ha)) ?_
     clear hK K
     try simp only [Act.put, List.setIfInBounds_toArray, List.set_cons_zero, List.set_cons_succ]
     refine late_one (i := 9) rfl (by kernel_rfl) ?_
     intro K hK
     have hA := hs5.b ha
     have hT7 := hT6.below (below_alloc w6 (.cells #[.slice A6 g'.length c6] 27))
     refine step_app1 cV 24 (.slice none 0 0) 28 27 Tryz.underlying28 infoLU rfl rfl _ _ rfl W.heap.size vg vals (.slice A6 g'.length c6) (.slice A6 g'.length c6) w6.heap.size rfl rfl hA.g.own rfl rfl (cell_new0 w6 (.slice A6 g'.length c6) 27) (by omega) (by omega) hA.size ?_
     intro v8 w8 ho8 hg8 _
     obtain ⟨A8', c8', hv8, _⟩ := ho8.lat
     rw [List.length_append, List.length_singleton] at hv8
     subst hv8
     obtain ⟨kz, kst⟩ := hA.putCol hT7 (List.length_map _) ho8 hg8
     have hW8 := hA.bel.trans (below_ownG hA.g.own hg8 hA.size)
     have KK := Lib.hid kst
     clear kst ho8 hg8 hA hT7
     try show K _ _
     refine hK.out _ _ (Or.inr ⟨kz.cells.2.2.2.1, hS0 _ hW8⟩) ?_
     clear hK K
     try simp only [Act.put, List.setIfInBounds_toArray, List.set_cons_zero, List.set_cons_succ]
     refine late_take (i := 10) (v := ?_) (some 84) rfl rfl (by kernel_rfl) (by kernel_rfl) (by kernel_rfl) (by kernel_rfl) (fun _ _ _ h => h) (by kernel_rfl) ⟨kz.cells.2.2.2.1, hS0 _ hW8⟩ ?_ ?_
     rotate_left
     ·(intro w hSw; (try dsimp only at hSw); go_simp; try rfl)
     try simp only [Act.put, List.setIfInBounds_toArray, List.set_cons_zero, List.set_cons_succ]
     refine late_one (i := 11) rfl (by kernel_rfl) ?_
     intro K hK
     obtain ⟨z0, z1, z2, z3, z4, z5⟩ := kz.cells
     have hfr := fun j => kz.frozen j
     go_simp
     try show K _ _
     refine hK.out _ _ (Or.inl (by decide)) ?_
     clear hK K
     try simp only [Act.put, List.setIfInBounds_toArray, List.set_cons_zero, List.set_cons_succ]
     refine late_done (by kernel_rfl) ?_ _
     go_wp2_with fail
     have kst := KK.out
     go_roundw
     case rel => exact ⟨k + 1, _, _, _, by omega, by go_num, HTg.out ▸ HTi.out ▸ kst⟩
     case measure => simp [intOf]; omega
    ·obtain rfl : k = z.g.length := by omega
     have hlt' : decide ((z.g.length : Int) < (z.g.length : Nat)) = false := by simp
     have hst1 : LU W gb z.n A4 (some ⟨g7, 0, none⟩) z.c.length c4 z.n.toNat z.n.toNat (z.c.map plainU) (List.replicate z.n.toNat 0) wr vi vg vals z.ids (z.g.map fun g => g.map plainU) := by
      have h1 := hst
      rw [List.take_length, List.take_of_length_le (by rw [hz.len]; exact Nat.le_refl _)] at h1
      exact h1
     clear hst
     go_wp2_with fail
     clear x3
     go_loopw [12, 11] (fun kk tv wr => ∃ (k : Nat) (vi vg : Value) (vals : List Value) (ids : List Int) (g : List (List Nat)) (a : Int), k ≤ z.n.toNat ∧ kk = .int .i64 (k : Nat) ∧ tv = .int .i64 a ∧ LiftAt z next k ids g a ∧ LU W gb z.n A4 (some ⟨g7, 0, none⟩) z.c.length c4 z.n.toNat z.n.toNat (z.c.map plainU) (List.replicate z.n.toNat 0) wr vi vg vals ids g) (fun kk _ _ => z.n.toNat - (intOf kk).toNat)
     case atStart => exact ⟨0, _, _, _, _, _, _, Nat.zero_le _, rfl, rfl, LiftAt.zero z next, hst1⟩
     case round =>
      clear hst1
      obtain ⟨k, vi, vg, vals, ids, g, a, hkr, rfl, rfl, hL, hst⟩ := hrel
      obtain ⟨x0, x1, x2, x3, x4, x5⟩ := (k0.below hst.bel).cells
      clear x1 x2 x3 x5
      by_cases hlt : k < z.n.toNat
      ·have hlt' : (k : Int) < z.n := by omega
       have hlr := hz.lenR
       have hkr' : k < z.r.length := by omega
       obtain ⟨u, hu⟩ := get_some z.r k hkr'
       have hum := List.mem_of_getElem? hu
       have hgu : z.r.getD k 0 = u := by rw [List.getD_eq_getElem?_getD, hu, Option.getD_some]
       obtain ⟨bn, on, y, rfl, hbn, e1, e2, e3, hy⟩ := row_num hR.r k hkr'
       rw [hgu] at hy
       have r4 := (cells5 ((hst.bel.block _ (Array.getElem?_eq_some_iff.1 kr).1).trans kr)).2.2.2.2
       replace e1 := (hst.bel.cell (p := ⟨bn, on + k * 3, none⟩) hbn).trans e1
       replace e2 := (hst.bel.cell (p := ⟨bn, on + k * 3 + 1, none⟩) hbn).trans e2
       replace e3 := (hst.bel.cell (p := ⟨bn, on + k * 3 + 2, none⟩) hbn).trans e3
       have hsg := sign_r wr _ _ y _ (hy.below hst.bel)
       have hpos : 0 ≤ fz u := by
        have h1 := hz.pos u hum
        unfold neg0 at h1
        have := of_decide_eq_false h1
        omega
       by_cases h0 : fz u = 0
       ·rw [h0, show Int.sign 0 = 0 from rfl] at hsg
        have hLn := Lib.hid (liftT_skip hL hu (sig_of_fz h0))
        clear hL hu hgu h0 hpos hy
        go_wp2_with fail
        refine hsg.mono ?_
        rintro e w1 ⟨rfl, hb1⟩
        have hst1 := hst.b hb1
        clear e1 e2 e3 r4 x0 x4 hsg hst
        go_wp2_with fail
        go_roundw
        case rel => exact ⟨k + 1, _, _, _, _, _, _, by omega, by go_num, rfl, hLn.out, hst1⟩
        case measure => simp [intOf]; omega
       ·rw [Int.sign_eq_one_of_pos (show 0 < fz u by omega)] at hsg
        have hpos' : 0 < fz u := by omega
        clear h0 hpos hy hgu
        by_cases hov : 1073741824 < a
        ·have hov1 := Lib.hid (hover k u ids g a hL hu hpos' hov)
         clear hL hu hpos'
         go_wp2_with fail
         refine hsg.mono ?_
         rintro e w1 ⟨rfl, hb1⟩
         have hst1 := hst.b hb1
         replace k1 := k1.below hst1.bel
         replace kl := kl.below hst1.bel
         replace hb2 := hb2.trans (hst1.bel.mono hb2.size)
         clear e1 e2 e3 r4 x0 x4 hsg hst
         obtain ⟨l0, l1, l2, l3, l4, l5⟩ := kl.cells
         obtain ⟨y0, y1, y2, y3, y4, y5⟩ := k1.cells
         have hfr := fun j => k1.frozen j
         go_wp2_with fail
         obtain ⟨q1, q2⟩ := k1.put (.int .i64 (sizeD z)) (.slice none 0 0) (.slice none 0 0) (.slice none 0 0) (.slice none 0 0) (.bool true)
         obtain ⟨c0, c1, c2, c3, c4, c5⟩ := q1.cells
         refine bodyPost_ret (v := .tuple #[.agg #[.int .i64 (sizeD z), .slice none 0 0, .slice none 0 0, .slice none 0 0, .slice none 0 0, .bool true], .int .i64 next]) (by simp [results, Tryz.results48, go_sem, c0, c1, c2, c3, c4, c5]) rfl ?_
         rw [hov1.out]
         exact ⟨_, rfl, lostV_uis _ _, hb2.trans (below_row q2 (by omega) hb2.size)⟩
        ·have hov' : decide (1073741824 < a) = false := decide_eq_false hov
         have hLN := Lib.hid (liftT_more hL hu (sig_ne_fz hpos') (by omega))
         obtain ⟨br, or_, rfl, hbr, hcr0⟩ := hcW.r k u hu
         have hcr : W.cell? ⟨br, or_ + k, none⟩ = some (.int .u64 (u : Int)) := hcr0
         have hlen := hL.len
         have hcols := hz.cols
         have hzl := hz.len
         have hvl := hst.vlen
         have hil : ids.length ≤ 1073742081 := by omega
         have hvl2 : vals.length ≤ 1073742081 := by omega
         have ha0 : 0 ≤ a := by omega
         have ha1 : a ≤ 1073741824 := by omega
         clear hL hu hpos' hcr0 hov hlen hcols hzl hvl
         go_wp2_with fail
         refine hsg.mono ?_
         rintro e w1 ⟨rfl, hb1⟩
         replace hst := hst.b hb1
         clear e1 e2 e3 r4 x0 x4 hsg hb1
         obtain ⟨x0, x1, x2, x3, x4, x5⟩ := (k0.below hst.bel).cells
         have hze := zeros_anyZ w1 z.n (by omega) (by omega)
         go_wp2_with fail
         refine hze.mono ?_
         rintro e w2 ⟨g2, rfl, hl2, hZ2, hb1⟩
         have hst2 := hst.b hb1
         clear x0 x1 x2 x3 x4 x5 hze
         obtain ⟨x0, x1, x2, x3, x4, x5⟩ := (k0.below hst2.bel).cells
         have hcr2 := (hst2.bel.cell (p := ⟨br, or_ + k, none⟩) hbr).trans hcr
         obtain ⟨hc0, hcf⟩ := hZ2.cell hlt
         obtain ⟨hT3, hg3⟩ := hZ2.put (by unfold MAXF; omega) hlt u
         have hlN : (k : Int) < (z.n.toNat : Int) := by omega
         have hb3 : Below w1.heap.size w1 (w2.setCell ⟨g2, k, none⟩ (.int .u64 (u : Int))) := hb1.trans (below_row hg3 hl2 hb1.size)
         have hst3 := hst.b hb3
         clear hst hst2 hb3 hb1 hg3 hZ2 hl2
         go_upto_region 20 with fail
         clear x0 x1 x2 x3 x4 x5 hcr2 hc0 hcf
         generalize w2.setCell ⟨g2, k, none⟩ (.int .u64 (u : Int)) = W3 at *
         clear w1 w2
         have hst4 := hst3.b (below_alloc W3 (.cells #[.int .i64 a] 3))
         have hT4 := hT3.below (below_alloc W3 (.cells #[.int .i64 a] 3))
         have q2 := hst3.out.cells.2.2.1
         go_upto_region 21 with (at_builtin; refine wpList_app1 cI 8 (.int .i64 0) 23 3 Tryz.underlying23 infoInt rfl rfl (.tmp 115) (.tmp 117) rfl W.heap.size vi ids a _ W3.heap.size rfl rfl hst4.ids rfl rfl (cell_new0 W3 _ 3) (by omega) (by omega) hst4.size ?_; intro v5 w5 ho5 hg5 _; obtain ⟨A5, c5, hv5, _⟩ := ho5.lat; rw [List.length_append, List.length_singleton] at hv5; subst hv5; obtain ⟨kz, kst⟩ := hst4.putIds ho5 hg5; have hT5 := ((hT4.far hg5 hst4.ids.typed (by decide)).far (kz.set2 (.slice A5 (ids.length + 1) c5)).2 (fun k e => by cases e; exact kz.typed) (by decide)); have KK := Lib.hid (And.intro kst hT5); clear kst ho5 hg5 hT5; obtain ⟨y0, y1, y2, y3, y4, y5⟩ := kz.cells; have fr5 := (fun j => kz.frozen j))
         obtain ⟨kst, hT6⟩ := KK.out
         clear kz KK y0 y1 y2 y3 y4 y5 fr5 hst4 hT4 hst3 hT3 q2
         generalize w5.setCell ⟨gb, 2, none⟩ (.slice A5 (ids.length + 1) c5) = W6 at *
         have hst7 := kst.b (below_alloc W6 (.cells #[.slice (some ⟨g2, 0, none⟩) z.n.toNat z.n.toNat] 27))
         have hT7 := hT6.below (below_alloc W6 (.cells #[.slice (some ⟨g2, 0, none⟩) z.n.toNat z.n.toNat] 27))
         have q3 := kst.out.cells.2.2.2.1
         go_wp2_with (at_builtin; refine wpList_app1 cV 24 (.slice none 0 0) 28 27 Tryz.underlying28 infoLU rfl rfl (.tmp 121) (.tmp 123) rfl W.heap.size vg vals (.slice (some ⟨g2, 0, none⟩) z.n.toNat z.n.toNat) (.slice (some ⟨g2, 0, none⟩) z.n.toNat z.n.toNat) W6.heap.size rfl rfl hst7.g.own rfl rfl (cell_new0 W6 _ 27) (by omega) (by omega) hst7.size ?_; intro v8 w8 ho8 hg8 _; obtain ⟨A8, c8, hv8, _⟩ := ho8.lat; rw [List.length_append, List.length_singleton] at hv8; subst hv8; obtain ⟨kz, kst8⟩ := hst7.putCol hT7 (by unfold unitL; rw [List.length_set, List.length_replicate]) ho8 hg8; have KK := Lib.hid kst8; clear kst8 ho8 hg8; obtain ⟨y0, y1, y2, y3, y4, y5⟩ := kz.cells; have fr8 := (fun j => kz.frozen j))
         have kst8 := KK.out
         go_roundw
         case rel => exact ⟨k + 1, _, _, _, _, _, a + 1, by omega, by go_num, rfl, hLN.out, kst8⟩
         case measure => simp [intOf]; omega
      ·have hkn : k = z.r.length := by have := hz.lenR; omega
       have hlt' : decide ((k : Int) < z.n) = false := decide_eq_false (by omega)
       have HEND := Lib.hid (hend ids g a (hkn ▸ hL))
       obtain ⟨Ai, ci, Ag, cg, rfl, rfl⟩ := hst.slices
       have k1' := k1.below hst.bel
       obtain ⟨o0, o1, o2, o3, o4, o5⟩ := hst.out.cells
       obtain ⟨y0, y1, y2, y3, y4, y5⟩ := k1'.cells
       have hfr := fun j => k1'.frozen j
       have hbE := hb2.trans (hst.bel.mono hb2.size)
       clear hL hkn
       go_wp2_with fail
       obtain ⟨q1, q2⟩ := k1'.put (.int .i64 z.n) (.slice A4 z.c.length c4) (.slice Ai ids.length ci) (.slice Ag g.length cg) (.slice (some ⟨g7, 0, none⟩) z.n.toNat z.n.toNat) (.bool false)
       obtain ⟨c0, c1, c2, c3, c4', c5⟩ := q1.cells
       refine bodyPost_ret (v := .tuple #[.agg #[.int .i64 z.n, .slice A4 z.c.length c4, .slice Ai ids.length ci, .slice Ag g.length cg, .slice (some ⟨g7, 0, none⟩) z.n.toNat z.n.toNat, .bool false], .int .i64 a]) (by simp [results, Tryz.results48, go_sem, c0, c1, c2, c3, c4', c5]) rfl ?_
       rw [HEND.out]
       exact ⟨_, rfl, hst.farZ q2 k1'.typed, hbE.trans (below_row q2 (by omega) hbE.size)⟩
theorem Lift10_any (w : World) (v : Value) (z : ZD) (next : Int) (h : UIs w v z) (hk : ZOk z) (hn1 : next ≤ 9223372036854775807) :
  Calls Tryz.prog 48 #[v, .int .i64 next] w fun e w' => TellsU w (liftD z next) e w' := by
 obtain ⟨A, B, C, D, kA, kB, kC, kD, rfl, hc⟩ := h
 cases hok : liftOk z next with
 | false =>
  have h1 := lift10_no w A B C D kA kB kC kD z next hc hk hok
  unfold liftD
  rw [hok]
  exact h1
 | true =>
  have h2 := hok
  unfold liftOk at h2
  simp only [Bool.and_eq_true, decide_eq_true_eq, Bool.or_eq_true, beq_iff_eq] at h2
  obtain ⟨⟨hg, h0⟩, hl⟩ := h2
  refine lift10_yes w A B C D kA kB kC kD z next hc hk ((goodD_iff z).1 hg) h0 hn1 ?_
  rcases hl with h | h
  ·exact Or.inl h
  ·by_cases e : z.ids.length = 0
   ·exact Or.inl e
   ·exact Or.inr ⟨e, h⟩
end Go.Proofs.YtpfbgenefjhcjaaGreatDoor
