/-
 ambitref10.Reals: past its head.
-/
import Derived.Test.YtpfbgenefjhcjaaGreatDoorZoLateT
import Derived.Test.YtpfbgenefjhcjaaGreatDoorPZoNms
import Derived.IntWalk
namespace Go.Proofs.YtpfbgenefjhcjaaGreatDoor
set_option linter.unusedVariables false
set_option linter.unusedSimpArgs false
open Go Go.RowKit
set_option maxRecDepth 100000
theorem set5 {w : World} {g : Nat} {t : TypeId} {a0 a1 a2 a3 a4 : Value} (h : w.heap[g]? = some (.cells #[a0, a1, a2, a3, a4] t (0, 0))) (b0 b1 b2 b3 b4 : Value) :
  (((((w.setCell ⟨g, 0, none⟩ b0).setCell ⟨g, 1, none⟩ b1).setCell ⟨g, 2, none⟩ b2).setCell ⟨g, 3, none⟩ b3).setCell ⟨g, 4, none⟩ b4).heap[g]? = some (.cells #[b0, b1, b2, b3, b4] t (0, 0)) ∧ w.grownBy (((((w.setCell ⟨g, 0, none⟩ b0).setCell ⟨g, 1, none⟩ b1).setCell ⟨g, 2, none⟩ b2).setCell ⟨g, 3, none⟩ b3).setCell ⟨g, 4, none⟩ b4) (some g) := by
 have h0 : (w.setCell ⟨g, 0, none⟩ b0).heap[g]? = some (.cells #[b0, a1, a2, a3, a4] t (0, 0)) := heap_setCell_same w g 0 _ _ _ h
 have h1 : ((w.setCell ⟨g, 0, none⟩ b0).setCell ⟨g, 1, none⟩ b1).heap[g]? = some (.cells #[b0, b1, a2, a3, a4] t (0, 0)) := heap_setCell_same _ g 1 _ _ _ h0
 have h2 : (((w.setCell ⟨g, 0, none⟩ b0).setCell ⟨g, 1, none⟩ b1).setCell ⟨g, 2, none⟩ b2).heap[g]? = some (.cells #[b0, b1, b2, a3, a4] t (0, 0)) := heap_setCell_same _ g 2 _ _ _ h1
 have h3 : ((((w.setCell ⟨g, 0, none⟩ b0).setCell ⟨g, 1, none⟩ b1).setCell ⟨g, 2, none⟩ b2).setCell ⟨g, 3, none⟩ b3).heap[g]? = some (.cells #[b0, b1, b2, b3, a4] t (0, 0)) := heap_setCell_same _ g 3 _ _ _ h2
 have h4 := heap_setCell_same _ g 4 _ _ b4 h3
 exact ⟨h4, grown_set (grown_set (grown_set (grown_set (grown_set (grown_refl w _) 0 b0) 1 b1) 2 b2) 3 b3) 4 b4⟩
/-- The world in which Reals begins behind its head: its boxes. -/
structure RWorld (w W : World) (n : Int) (A B C D : Option Addr) (kA kB kC kD a b c d : Nat) : Prop where
 box : W.heap[w.heap.size]? = some (.cells #[.int .i64 n, .slice A a kA, .slice B b kB, .slice C c kC, .slice D d kD, .bool false] 30 (0, 0))
 res : W.heap[w.heap.size + 1]? = some (.cells #[.int .i64 0, .slice none 0 0, .slice none 0 0, .slice none 0 0, .slice none 0 0] 61 (0, 0))
 real : W.heap[w.heap.size + 1 + 1]? = some (.cells #[.int .i64 n, .slice none 0 0, .slice none 0 0, .slice none 0 0, .slice none 0 0] 61 (0, 0))
 below : Below w.heap.size w W
theorem RWorld.make (w : World) (n : Int) (A B C D : Option Addr) (kA kB kC kD a b c d : Nat) : RWorld w (((w.alloc (.cells #[.int .i64 n, .slice A a kA, .slice B b kB, .slice C c kC, .slice D d kD, .bool false] 30)).alloc (.cells #[.int .i64 0, .slice none 0 0, .slice none 0 0, .slice none 0 0, .slice none 0 0] 61)).alloc (.cells #[.int .i64 n, .slice none 0 0, .slice none 0 0, .slice none 0 0, .slice none 0 0] 61)) n A B C D kA kB kC kD a b c d := by
 have h1 := heap_alloc_new w (.cells #[.int .i64 n, .slice A a kA, .slice B b kB, .slice C c kC, .slice D d kD, .bool false] 30)
 have h2 := heap_alloc_new (w.alloc (.cells #[.int .i64 n, .slice A a kA, .slice B b kB, .slice C c kC, .slice D d kD, .bool false] 30)) (.cells #[.int .i64 0, .slice none 0 0, .slice none 0 0, .slice none 0 0, .slice none 0 0] 61)
 have h3 := heap_alloc_new ((w.alloc (.cells #[.int .i64 n, .slice A a kA, .slice B b kB, .slice C c kC, .slice D d kD, .bool false] 30)).alloc (.cells #[.int .i64 0, .slice none 0 0, .slice none 0 0, .slice none 0 0, .slice none 0 0] 61)) (.cells #[.int .i64 n, .slice none 0 0, .slice none 0 0, .slice none 0 0, .slice none 0 0] 61)
 have b1 := below_alloc w (.cells #[.int .i64 n, .slice A a kA, .slice B b kB, .slice C c kC, .slice D d kD, .bool false] 30)
 have b2 := below_alloc (w.alloc (.cells #[.int .i64 n, .slice A a kA, .slice B b kB, .slice C c kC, .slice D d kD, .bool false] 30)) (.cells #[.int .i64 0, .slice none 0 0, .slice none 0 0, .slice none 0 0, .slice none 0 0] 61)
 have b3 := below_alloc ((w.alloc (.cells #[.int .i64 n, .slice A a kA, .slice B b kB, .slice C c kC, .slice D d kD, .bool false] 30)).alloc (.cells #[.int .i64 0, .slice none 0 0, .slice none 0 0, .slice none 0 0, .slice none 0 0] 61)) (.cells #[.int .i64 n, .slice none 0 0, .slice none 0 0, .slice none 0 0, .slice none 0 0] 61)
 have s1 : (w.alloc (.cells #[.int .i64 n, .slice A a kA, .slice B b kB, .slice C c kC, .slice D d kD, .bool false] 30)).heap.size = w.heap.size + 1 := by simp
 have s2 : ((w.alloc (.cells #[.int .i64 n, .slice A a kA, .slice B b kB, .slice C c kC, .slice D d kD, .bool false] 30)).alloc (.cells #[.int .i64 0, .slice none 0 0, .slice none 0 0, .slice none 0 0, .slice none 0 0] 61)).heap.size = w.heap.size + 1 + 1 := by simp
 rw [s1] at h2
 rw [s2] at h3
 refine ⟨(b3.block _ (by rw [s2]; omega)).trans ((b2.block _ (by rw [s1]; omega)).trans h1), (b3.block _ (by rw [s2]; omega)).trans h2, h3, (b1.trans (b2.mono b1.size)).trans (b3.mono (by rw [s2]; omega))⟩
set_option maxHeartbeats 4000000 in
theorem Reals_rows (w : World) (A B C D : Option Addr) (kA kB kC kD : Nat) (z : ZD) (h : ZC cU w z A B C D kA kB kC kD) (hk : ZOk z) (p1 : z.bad = false) (p2 : 1 ≤ z.n) (p3 : z.n ≤ 256) (p6 : z.ids.length = z.g.length) (hh : rowD z.c z.n = false ∨ rowD z.r z.n = false) :
  Calls Tryz.prog 33 #[zval z A B C D kA kB kC kD] w fun e w' => e = .returned (.tuple #[noReal, .bool false]) ∧ Below w.heap.size w w' := by
 obtain ⟨n, c, ids, g, r, bad⟩ := z
 obtain rfl : bad = false := p1
 show Calls Tryz.prog 33 #[.agg #[.int .i64 n, .slice A c.length kA, .slice B ids.length kB, .slice C g.length kC, .slice D r.length kD, .bool false]] w _
 replace p2 : 1 ≤ n := p2
 replace p3 : n ≤ 256 := p3
 replace p6 : ids.length = g.length := p6
 rw [← p6]
 have n1' : decide (n < 1) = false := by simp; omega
 have n2' : decide (256 < n) = false := by simp; omega
 have hW := RWorld.make w n A B C D kA kB kC kD c.length ids.length ids.length r.length
 unfold noReal
 have Q1y := fun w1 (hb : Below w.heap.size w w1) => numbers_yes w1 A c.length kA c n (h.c.below (Nat.le_refl _) hb) hk.c rfl (by omega) hk.lc
 have Q1n := fun w1 (hb : Below w.heap.size w w1) => numbers_no w1 A c.length kA c n (h.c.below (Nat.le_refl _) hb) hk.c rfl (by omega) hk.lc
 have Q2y := fun w1 (hb : Below w.heap.size w w1) => numbers_yes w1 D r.length kD r n (h.r.below (Nat.le_refl _) hb) hk.r rfl (by omega) hk.lr
 have Q2n := fun w1 (hb : Below w.heap.size w w1) => numbers_no w1 D r.length kD r n (h.r.below (Nat.le_refl _) hb) hk.r rfl (by omega) hk.lr
 replace hh : rowD c n = false ∨ rowD r n = false := hh
 clear h hk p2 p3 p6
 cases e1 : rowD c n with
 | true =>
  have e2 : rowD r n = false := by rcases hh with h | h; rw [e1] at h; cases h; exact h
  have R1 := fun w1 hb => Q1y w1 hb e1
  have R2 := fun w1 hb => Q2n w1 hb e2
  clear Q1y Q1n Q2y Q2n hh e1 e2
  go_enter Tryz.func33, Tryz.ntmps33
  go_wp2_with fail
  generalize ((w.alloc (.cells #[.int .i64 n, .slice A c.length kA, .slice B ids.length kB, .slice C ids.length kC, .slice D r.length kD, .bool false] 30)).alloc (.cells #[.int .i64 0, .slice none 0 0, .slice none 0 0, .slice none 0 0, .slice none 0 0] 61)).alloc (.cells #[.int .i64 n, .slice none 0 0, .slice none 0 0, .slice none 0 0, .slice none 0 0] 61) = W at *
  have hbW := hW.below
  obtain ⟨x0, x1, x2, x3, x4, x5⟩ := cells6 hW.box
  refine (R1 W hbW).mono ?_
  rintro e w1 ⟨A6, k6, rfl, hN6, b1⟩
  have hb1 := hbW.trans (b1.mono hbW.size)
  obtain ⟨x0, x1, x2, x3, x4, x5⟩ := cells6 ((b1.block _ (Array.getElem?_eq_some_iff.1 hW.box).1).trans hW.box)
  have hres := (b1.block _ (Array.getElem?_eq_some_iff.1 hW.res).1).trans hW.res
  have R2' := R2 w1 hb1
  clear R1 R2
  go_wp2_with fail
  refine R2'.mono ?_
  rintro e w2 ⟨rfl, b2⟩
  have hb2 := hb1.trans (b2.mono hb1.size)
  have hres2 := (b2.block _ (Array.getElem?_eq_some_iff.1 hres).1).trans hres
  have hfr : ∀ j, w2.frozen? ⟨w.heap.size + 1, j, none⟩ = false := fun j => frozen_of_row w2 _ j _ _ hres2
  obtain ⟨z0, z1, z2, z3, z4⟩ := cells5 hres2
  clear R2' x0 x1 x2 x3 x4 x5 hres
  go_wp2_with fail
  obtain ⟨hz6, hgr6⟩ := set5 hres2 (.int .i64 0) (.slice none 0 0) (.slice none 0 0) (.slice none 0 0) (.slice none 0 0)
  have hb6 := hb2.trans (below_of_grown' hgr6 hb2.size (by omega))
  clear z0 z1 z2 z3 z4
  generalize ((((w2.setCell ⟨w.heap.size + 1, 0, none⟩ (.int .i64 0)).setCell ⟨w.heap.size + 1, 1, none⟩ (.slice none 0 0)).setCell ⟨w.heap.size + 1, 2, none⟩ (.slice none 0 0)).setCell ⟨w.heap.size + 1, 3, none⟩ (.slice none 0 0)).setCell ⟨w.heap.size + 1, 4, none⟩ (.slice none 0 0) = W6 at *
  obtain ⟨z0, z1, z2, z3, z4⟩ := cells5 hz6
  refine bodyPost_ret (v := .tuple #[.agg #[.int .i64 0, .slice none 0 0, .slice none 0 0, .slice none 0 0, .slice none 0 0], .bool false]) (by simp [results, Tryz.results33, go_sem, z0, z1, z2, z3, z4]) rfl ?_
  exact ⟨rfl, hb6⟩
 | false =>
  cases e2 : rowD r n with
  | true =>
   have R1 := fun w1 hb => Q1n w1 hb e1
   have R2 := fun w1 hb => Q2y w1 hb e2
   clear Q1y Q1n Q2y Q2n hh e1 e2
   go_enter Tryz.func33, Tryz.ntmps33
   go_wp2_with fail
   generalize ((w.alloc (.cells #[.int .i64 n, .slice A c.length kA, .slice B ids.length kB, .slice C ids.length kC, .slice D r.length kD, .bool false] 30)).alloc (.cells #[.int .i64 0, .slice none 0 0, .slice none 0 0, .slice none 0 0, .slice none 0 0] 61)).alloc (.cells #[.int .i64 n, .slice none 0 0, .slice none 0 0, .slice none 0 0, .slice none 0 0] 61) = W at *
   have hbW := hW.below
   obtain ⟨x0, x1, x2, x3, x4, x5⟩ := cells6 hW.box
   refine (R1 W hbW).mono ?_
   rintro e w1 ⟨rfl, b1⟩
   have hb1 := hbW.trans (b1.mono hbW.size)
   obtain ⟨x0, x1, x2, x3, x4, x5⟩ := cells6 ((b1.block _ (Array.getElem?_eq_some_iff.1 hW.box).1).trans hW.box)
   have hres := (b1.block _ (Array.getElem?_eq_some_iff.1 hW.res).1).trans hW.res
   have R2' := R2 w1 hb1
   clear R1 R2
   go_wp2_with fail
   refine R2'.mono ?_
   rintro e w2 ⟨A7, k7, rfl, hN7, b2⟩
   have hb2 := hb1.trans (b2.mono hb1.size)
   have hres2 := (b2.block _ (Array.getElem?_eq_some_iff.1 hres).1).trans hres
   have hfr : ∀ j, w2.frozen? ⟨w.heap.size + 1, j, none⟩ = false := fun j => frozen_of_row w2 _ j _ _ hres2
   obtain ⟨z0, z1, z2, z3, z4⟩ := cells5 hres2
   clear R2' x0 x1 x2 x3 x4 x5 hres
   go_wp2_with fail
   obtain ⟨hz6, hgr6⟩ := set5 hres2 (.int .i64 0) (.slice none 0 0) (.slice none 0 0) (.slice none 0 0) (.slice none 0 0)
   have hb6 := hb2.trans (below_of_grown' hgr6 hb2.size (by omega))
   clear z0 z1 z2 z3 z4
   generalize ((((w2.setCell ⟨w.heap.size + 1, 0, none⟩ (.int .i64 0)).setCell ⟨w.heap.size + 1, 1, none⟩ (.slice none 0 0)).setCell ⟨w.heap.size + 1, 2, none⟩ (.slice none 0 0)).setCell ⟨w.heap.size + 1, 3, none⟩ (.slice none 0 0)).setCell ⟨w.heap.size + 1, 4, none⟩ (.slice none 0 0) = W6 at *
   obtain ⟨z0, z1, z2, z3, z4⟩ := cells5 hz6
   refine bodyPost_ret (v := .tuple #[.agg #[.int .i64 0, .slice none 0 0, .slice none 0 0, .slice none 0 0, .slice none 0 0], .bool false]) (by simp [results, Tryz.results33, go_sem, z0, z1, z2, z3, z4]) rfl ?_
   exact ⟨rfl, hb6⟩
  | false =>
   have R1 := fun w1 hb => Q1n w1 hb e1
   have R2 := fun w1 hb => Q2n w1 hb e2
   clear Q1y Q1n Q2y Q2n hh e1 e2
   go_enter Tryz.func33, Tryz.ntmps33
   go_wp2_with fail
   generalize ((w.alloc (.cells #[.int .i64 n, .slice A c.length kA, .slice B ids.length kB, .slice C ids.length kC, .slice D r.length kD, .bool false] 30)).alloc (.cells #[.int .i64 0, .slice none 0 0, .slice none 0 0, .slice none 0 0, .slice none 0 0] 61)).alloc (.cells #[.int .i64 n, .slice none 0 0, .slice none 0 0, .slice none 0 0, .slice none 0 0] 61) = W at *
   have hbW := hW.below
   obtain ⟨x0, x1, x2, x3, x4, x5⟩ := cells6 hW.box
   refine (R1 W hbW).mono ?_
   rintro e w1 ⟨rfl, b1⟩
   have hb1 := hbW.trans (b1.mono hbW.size)
   obtain ⟨x0, x1, x2, x3, x4, x5⟩ := cells6 ((b1.block _ (Array.getElem?_eq_some_iff.1 hW.box).1).trans hW.box)
   have hres := (b1.block _ (Array.getElem?_eq_some_iff.1 hW.res).1).trans hW.res
   have R2' := R2 w1 hb1
   clear R1 R2
   go_wp2_with fail
   refine R2'.mono ?_
   rintro e w2 ⟨rfl, b2⟩
   have hb2 := hb1.trans (b2.mono hb1.size)
   have hres2 := (b2.block _ (Array.getElem?_eq_some_iff.1 hres).1).trans hres
   have hfr : ∀ j, w2.frozen? ⟨w.heap.size + 1, j, none⟩ = false := fun j => frozen_of_row w2 _ j _ _ hres2
   obtain ⟨z0, z1, z2, z3, z4⟩ := cells5 hres2
   clear R2' x0 x1 x2 x3 x4 x5 hres
   go_wp2_with fail
   obtain ⟨hz6, hgr6⟩ := set5 hres2 (.int .i64 0) (.slice none 0 0) (.slice none 0 0) (.slice none 0 0) (.slice none 0 0)
   have hb6 := hb2.trans (below_of_grown' hgr6 hb2.size (by omega))
   clear z0 z1 z2 z3 z4
   generalize ((((w2.setCell ⟨w.heap.size + 1, 0, none⟩ (.int .i64 0)).setCell ⟨w.heap.size + 1, 1, none⟩ (.slice none 0 0)).setCell ⟨w.heap.size + 1, 2, none⟩ (.slice none 0 0)).setCell ⟨w.heap.size + 1, 3, none⟩ (.slice none 0 0)).setCell ⟨w.heap.size + 1, 4, none⟩ (.slice none 0 0) = W6 at *
   obtain ⟨z0, z1, z2, z3, z4⟩ := cells5 hz6
   refine bodyPost_ret (v := .tuple #[.agg #[.int .i64 0, .slice none 0 0, .slice none 0 0, .slice none 0 0, .slice none 0 0], .bool false]) (by simp [results, Tryz.results33, go_sem, z0, z1, z2, z3, z4]) rfl ?_
   exact ⟨rfl, hb6⟩
set_option maxHeartbeats 8000000 in
theorem Reals_body (w : World) (A B C D : Option Addr) (kA kB kC kD : Nat) (z : ZD) (h : ZC cU w z A B C D kA kB kC kD) (hk : ZOk z) (p1 : z.bad = false) (p2 : 1 ≤ z.n) (p3 : z.n ≤ 256) (p6 : z.ids.length = z.g.length) (e1 : rowD z.c z.n = true) (e2 : rowD z.r z.n = true) :
  Calls Tryz.prog 33 #[zval z A B C D kA kB kC kD] w fun e w' => TellsReal w z e w' := by
 obtain ⟨n, c, ids, g, r, bad⟩ := z
 obtain rfl : bad = false := p1
 show Calls Tryz.prog 33 #[.agg #[.int .i64 n, .slice A c.length kA, .slice B ids.length kB, .slice C g.length kC, .slice D r.length kD, .bool false]] w _
 replace p2 : 1 ≤ n := p2
 replace p3 : n ≤ 256 := p3
 replace p6 : ids.length = g.length := p6
 rw [← p6]
 have n1' : decide (n < 1) = false := by simp; omega
 have n2' : decide (256 < n) = false := by simp; omega
 have hW := RWorld.make w n A B C D kA kB kC kD c.length ids.length ids.length r.length
 unfold TellsReal
 unfold noReal
 replace e1 : rowD c n = true := e1
 replace e2 : rowD r n = true := e2
 have hh : headD ⟨n, c, ids, g, r, false⟩ = true := by
  unfold headD
  simp only [e1, e2, p6, Bool.not_false, Bool.true_and, Bool.and_true, beq_self_eq_true]
  rw [decide_eq_true p2, decide_eq_true p3]
  rfl
 have HH := Lib.hid hh
 have R1 := fun w1 (hb : Below w.heap.size w w1) => numbers_yes w1 A c.length kA c n (h.c.below (Nat.le_refl _) hb) hk.c rfl (by omega) hk.lc e1
 have R2 := fun w1 (hb : Below w.heap.size w w1) => numbers_yes w1 D r.length kD r n (h.r.below (Nat.le_refl _) hb) hk.r rfl (by omega) hk.lr e2
 have hnr := ((rowD_iff _ _).1 e2).1
 have hrl := ((rowD_iff _ _).1 e2).2
 have HK := Lib.hid hk
 have HC := Lib.hid h
 have P6 := Lib.hid p6
 have HRL := Lib.hid hrl
 have HP3 := p3
 have HP2 := p2
 have hli := hk.li
 have hlg := hk.lg
 unfold MAXF at hli
 unfold MAXG at hlg
 replace hli : ids.length ≤ 17592186043904 := hli
 replace hlg : ids.length ≤ 5864062014634 := by rw [p6]; exact hlg
 clear h hk p2 p3 p6 hh e1 e2 hrl
 go_enter Tryz.func33, Tryz.ntmps33
 go_wp2_with fail
 generalize ((w.alloc (.cells #[.int .i64 n, .slice A c.length kA, .slice B ids.length kB, .slice C ids.length kC, .slice D r.length kD, .bool false] 30)).alloc (.cells #[.int .i64 0, .slice none 0 0, .slice none 0 0, .slice none 0 0, .slice none 0 0] 61)).alloc (.cells #[.int .i64 n, .slice none 0 0, .slice none 0 0, .slice none 0 0, .slice none 0 0] 61) = W at *
 have hbW := hW.below
 obtain ⟨x0, x1, x2, x3, x4, x5⟩ := cells6 hW.box
 refine (R1 W hbW).mono ?_
 rintro e w1 ⟨A6, k6, rfl, hN6, b1⟩
 have hb1 := hbW.trans (b1.mono hbW.size)
 obtain ⟨x0, x1, x2, x3, x4, x5⟩ := cells6 ((b1.block _ (Array.getElem?_eq_some_iff.1 hW.box).1).trans hW.box)
 have hbox := (b1.block _ (Array.getElem?_eq_some_iff.1 hW.box).1).trans hW.box
 have hres := (b1.block _ (Array.getElem?_eq_some_iff.1 hW.res).1).trans hW.res
 have hreal := (b1.block _ (Array.getElem?_eq_some_iff.1 hW.real).1).trans hW.real
 have R2' := R2 w1 hb1
 have hWs : w.heap.size + 1 + 1 < W.heap.size := (Array.getElem?_eq_some_iff.1 hW.real).1
 have hW1 : W.heap.size ≤ w1.heap.size := b1.size
 clear R1 R2 hW b1 hbW
 go_wp2_with fail
 refine R2'.mono ?_
 rintro e w2 ⟨A7, k7, rfl, hN7, b2⟩
 have hb2 := hb1.trans (b2.mono hb1.size)
 have hbox2 := (b2.block _ (Array.getElem?_eq_some_iff.1 hbox).1).trans hbox
 have hres2 := (b2.block _ (Array.getElem?_eq_some_iff.1 hres).1).trans hres
 have hreal2 := (b2.block _ (Array.getElem?_eq_some_iff.1 hreal).1).trans hreal
 have hN62 := hN6.below b2
 have hW2 : W.heap.size ≤ w2.heap.size := Nat.le_trans hW1 b2.size
 have hfr : ∀ j, w2.frozen? ⟨w.heap.size + 1 + 1, j, none⟩ = false := fun j => frozen_of_row w2 _ j _ _ hreal2
 obtain ⟨z0, z1, z2, z3, z4⟩ := cells5 hreal2
 obtain ⟨x0, x1, x2, x3, x4, x5⟩ := cells6 hbox2
 clear R2' hres hbox hreal b2 hN6 hb1 hW1
 go_wp2_with fail
 have hreal3 : ((w2.setCell ⟨w.heap.size + 1 + 1, 1, none⟩ (.slice A6 c.length k6)).setCell ⟨w.heap.size + 1 + 1, 4, none⟩ (.slice A7 r.length k7)).heap[w.heap.size + 1 + 1]? = some (.cells #[.int .i64 n, .slice A6 c.length k6, .slice none 0 0, .slice none 0 0, .slice A7 r.length k7] 61 (0, 0)) := heap_setCell_same _ (w.heap.size + 1 + 1) 4 _ _ (.slice A7 r.length k7) (heap_setCell_same w2 (w.heap.size + 1 + 1) 1 _ _ (.slice A6 c.length k6) hreal2)
 have hg3 := grown_set (grown_set (grown_refl w2 (some (w.heap.size + 1 + 1))) 1 (.slice A6 c.length k6)) 4 (.slice A7 r.length k7)
 have hbox3 := block_far hbox2 hg3 (typed_row hreal2) (by decide)
 have hres3 := (hg3.block (w.heap.size + 1) (by omega) (by simp)).trans hres2
 have hN63 := hN62.far hg3 (typed_row hreal2) (by decide) (by decide)
 have hN73 := hN7.far hg3 (typed_row hreal2) (by decide) (by decide)
 have hb3 := hb2.trans (below_of_grown' hg3 hb2.size (by omega))
 have hW3 : W.heap.size ≤ _ := Nat.le_trans hW2 hg3.size
 clear hfr z0 z1 z2 z3 z4 x0 x1 x2 x3 x4 x5 hg3 hreal2 hbox2 hres2 hN62 hN7 hb2 hW2
 generalize (w2.setCell ⟨w.heap.size + 1 + 1, 1, none⟩ (.slice A6 c.length k6)).setCell ⟨w.heap.size + 1 + 1, 4, none⟩ (.slice A7 r.length k7) = W3 at *
 obtain ⟨x0, x1, x2, x3, x4, x5⟩ := cells6 hbox3
 have HREAL := Lib.hid hreal3
 have HN6 := Lib.hid hN63
 have HB3 := Lib.hid hb3
 have HBOX := Lib.hid hbox3
 have hbs : w.heap.size < W3.heap.size := by omega
 have sr : Small r := HK.out.r
 have SR := Lib.hid sr
 have NR := Lib.hid hnr
 clear hreal3 hN63 hb3 hbox3 x1 x2 x3 x4 x5 sr hnr
 go_loopw [9] (fun i wr => ∃ k : Nat, k ≤ r.length ∧ i = .int .i64 (k : Nat) ∧ Below W3.heap.size W3 wr ∧ (r.take k).all (fun u => !neg0 u) = true) (fun i _ => r.length - (intOf i).toNat)
 case atStart => exact ⟨0, Nat.zero_le _, rfl, Below.refl _ _, rfl⟩
 case round =>
  obtain ⟨k, hk, rfl, hbr, hall⟩ := hrel
  have HA := Lib.hid hall
  clear hall
  have y0 := (hbr.cell (p := ⟨w.heap.size, 0, none⟩) hbs).trans x0
  by_cases hlt : k < r.length
  ·have hlt' : (k : Int) < n := by have := HRL.out; have h2 : ((r.length : Nat) : Int) = n := this; omega
   have hltr : (k : Int) < (r.length : Int) := by omega
   obtain ⟨u, hu⟩ := get_some r k hlt
   obtain ⟨b, o, x, rfl, hb, c0, c1, c2, hx⟩ := hN73.row k (fz u) (by rw [List.getElem?_map, hu]; rfl)
   have d0 := (hbr.cell (p := ⟨b, o + k * 3, none⟩) hb).trans c0
   have d1 := (hbr.cell (p := ⟨b, o + k * 3 + 1, none⟩) hb).trans c1
   have d2 := (hbr.cell (p := ⟨b, o + k * 3 + 2, none⟩) hb).trans c2
   have hsg := sign_r wr _ _ x (fz u) (hx.below hbr)
   have hz := order_zero u (SR.out.at k u hu) (NR.out u (List.mem_of_getElem? hu))
   have HU := Lib.hid hu
   clear hu c0 c1 c2 hx hN73
   by_cases hng : neg0 u = true
   ·rw [show (fz u).sign = -1 by unfold neg0 at hng; exact Int.sign_eq_neg_one_of_neg (of_decide_eq_true hng)] at hsg
    have HZ := Lib.hid (goodD_neg (z := ⟨n, c, ids, g, r, false⟩) k u HU.out hng)
    clear hz hng
    go_wp2_with fail
    refine hsg.mono ?_
    rintro e w4 ⟨rfl, b4⟩
    have hres := ((hbr.trans (b4.mono hbr.size)).block _ (Array.getElem?_eq_some_iff.1 hres3).1).trans hres3
    have HBW := Lib.hid (HB3.out.trans ((hbr.trans (b4.mono hbr.size)).mono HB3.out.size))
    clear d0 d1 d2 y0 x0 hsg
    obtain ⟨z0, z1, z2, z3, z4⟩ := cells5 hres
    have hfr : ∀ j, w4.frozen? ⟨w.heap.size + 1, j, none⟩ = false := fun j => frozen_of_row w4 _ j _ _ hres
    go_wp2_with fail
    obtain ⟨hz6, hgr6⟩ := set5 hres (.int .i64 0) (.slice none 0 0) (.slice none 0 0) (.slice none 0 0) (.slice none 0 0)
    have hb6 := HBW.out.trans (below_of_grown' hgr6 HBW.out.size (by omega))
    clear z0 z1 z2 z3 z4
    generalize ((((w4.setCell ⟨w.heap.size + 1, 0, none⟩ (.int .i64 0)).setCell ⟨w.heap.size + 1, 1, none⟩ (.slice none 0 0)).setCell ⟨w.heap.size + 1, 2, none⟩ (.slice none 0 0)).setCell ⟨w.heap.size + 1, 3, none⟩ (.slice none 0 0)).setCell ⟨w.heap.size + 1, 4, none⟩ (.slice none 0 0) = W6 at *
    obtain ⟨z0, z1, z2, z3, z4⟩ := cells5 hz6
    refine bodyPost_ret (v := .tuple #[.agg #[.int .i64 0, .slice none 0 0, .slice none 0 0, .slice none 0 0, .slice none 0 0], .bool false]) (by simp [results, Tryz.results33, go_sem, z0, z1, z2, z3, z4]) rfl ?_
    exact Or.inr ⟨HZ.out, rfl, hb6⟩
   ·rw [Bool.not_eq_true] at hng
    have HN := Lib.hid hng
    have hsd : (fz u).sign = 0 ∨ (fz u).sign = 1 := by
     unfold neg0 at hng
     have := of_decide_eq_false hng
     rcases Int.lt_trichotomy (fz u) 0 with h | h | h
     ·omega
     ·left; rw [h]; rfl
     ·right; exact Int.sign_eq_one_of_pos h
    clear hz hng
    rcases hsd with hsd | hsd
    all_goals
     rw [hsd] at hsg
     clear hsd
     go_wp2_with fail
     refine hsg.mono ?_
     rintro e w4 ⟨rfl, b4⟩
     have hbr4 := hbr.trans (b4.mono hbr.size)
     clear d0 d1 d2 hsg b4 hbr
     go_wp2_with fail
     go_roundw
     case rel => exact ⟨k + 1, by omega, by go_num, hbr4, all_take _ _ _ _ HU.out HA.out (by rw [HN.out]; rfl)⟩
     case measure => simp [intOf]; omega
  ·obtain rfl : k = r.length := by omega
   have hlt' : decide (((r.length : Nat) : Int) < n) = false := by have h2 : ((r.length : Nat) : Int) = n := HRL.out; simp; omega
   have HR : Hid (r.all (fun u => !neg0 u) = true) := Lib.hid (by have := HA.out; rw [List.take_length] at this; exact this)
   have hreal4 := (hbr.block _ (Array.getElem?_eq_some_iff.1 HREAL.out).1).trans HREAL.out
   have hres4 := (hbr.block _ (Array.getElem?_eq_some_iff.1 hres3).1).trans hres3
   have hbox4 := (hbr.block _ (Array.getElem?_eq_some_iff.1 HBOX.out).1).trans HBOX.out
   have hN64 := HN6.out.below hbr
   have hN74 := hN73.below hbr
   have hb4 := HB3.out.trans (hbr.mono HB3.out.size)
   have hW4 : W.heap.size ≤ wr.heap.size := Nat.le_trans hW3 hbr.size
   clear HA HREAL HBOX HN6 HB3 hN73 hres3 x0 hbs SR NR
   go_wp2_with fail
   clear hbr hlt'
   have hI0 : OwnG (fun x => [cI x]) 3 1 wr W.heap.size (.slice none 0 0) (ids.take 0) := OwnG.nil _ _
   have hG0 : NGAcc (-1074) 971 W.heap.size wr (.slice none 0 0) [] ((g.take 0).map fun g => g.map fz) := NGAcc.nil _ _ _ _
   go_loopw [10] (fun i wx => ∃ k : Nat, k ≤ ids.length ∧ i = .int .i64 (k : Nat) ∧ (List.range k).all (colOk ⟨n, c, ids, g, r, false⟩) = true ∧ ∃ (vI vG : Value) (vals : List Value), wx.heap[w.heap.size + 1 + 1]? = some (.cells #[.int .i64 n, .slice A6 c.length k6, vI, vG, .slice A7 r.length k7] 61 (0, 0)) ∧ OwnG (fun x => [cI x]) 3 1 wx W.heap.size vI (ids.take k) ∧ NGAcc (-1074) 971 W.heap.size wx vG vals ((g.take k).map fun g => g.map fz) ∧ NLt (-1074) 971 wx A6 k6 (c.map fz) ∧ NLt (-1074) 971 wx A7 k7 (r.map fz) ∧ wx.heap[w.heap.size]? = some (.cells #[.int .i64 n, .slice A c.length kA, .slice B ids.length kB, .slice C ids.length kC, .slice D r.length kD, .bool false] 30 (0, 0)) ∧ wx.heap[w.heap.size + 1]? = some (.cells #[.int .i64 0, .slice none 0 0, .slice none 0 0, .slice none 0 0, .slice none 0 0] 61 (0, 0)) ∧ Below w.heap.size w wx ∧ W.heap.size ≤ wx.heap.size) (fun i _ => ids.length - (intOf i).toNat)
   case atStart => exact ⟨0, Nat.zero_le _, rfl, rfl, _, _, _, hreal4, hI0, hG0, hN64, hN74, hbox4, hres4, hb4, hW4⟩
   case round =>
    obtain ⟨k, hk, rfl, hall, vI, vG, vals, hreal, hI, hG, hN6, hN7, hbox, hres, hbx, hWx⟩ := hrel
    have HA := Lib.hid hall
    clear hall hreal4 hI0 hG0 hN64 hN74 hbox4 hres4 hb4 hW4
    obtain ⟨x0, x1, x2, x3, x4, x5⟩ := cells6 hbox
    obtain ⟨y0, y1, y2, y3, y4⟩ := cells5 hreal
    by_cases hlt : k < ids.length
    ·have hlt' : (k : Int) < (ids.length : Int) := by omega
     obtain ⟨i, hi0⟩ := get_some ids k hlt
     obtain ⟨g', hg0⟩ := get_some g k (by have := P6.out; omega)
     obtain ⟨b, o, rfl, hb, q1⟩ := HC.out.ids.cell hbx k i hi0
     obtain ⟨b', o', rfl, hb', B', cap', q2, hcap', hcm', hg'⟩ := HC.out.g.at hbx k g' hg0
     have HI := Lib.hid hi0
     have HG0 := Lib.hid hg0
     have hcol : ∀ x, colOk ⟨n, c, ids, g, r, false⟩ k = x → Hid (colOk ⟨n, c, ids, g, r, false⟩ k = x) := fun x h => Lib.hid h
     have HDB : Hid (colOk ⟨n, c, ids, g, r, false⟩ k = false → goodD ⟨n, c, ids, g, r, false⟩ = false) := Lib.hid (goodD_col (z := ⟨n, c, ids, g, r, false⟩) k hlt)
     have ci : colOk ⟨n, c, ids, g, r, false⟩ k = (decide (0 ≤ i) && decide (i ≤ 1073741824) && (k == 0 || decide (ids.getD (k - 1) 0 < i)) && rowD g' n) := by
      unfold colOk idOk
      simp only [List.getD_eq_getElem?_getD, hi0, hg0, Option.getD_some]
     have CI := Lib.hid ci
     clear hcol ci hi0 hg0
     by_cases i1 : i < 0
     ·have HZ := Lib.hid (HDB.out (by rw [CI.out, decide_eq_false (by omega)]; rfl))
      have HBW := Lib.hid hbx
      have HBW := Lib.hid hbx
      have hresq := hres
      clear y0 y1 y2 y3 y4 hI hG hN6 hN7 hreal
      obtain ⟨z0, z1, z2, z3, z4⟩ := cells5 hres
      have hfr : ∀ j, wr.frozen? ⟨w.heap.size + 1, j, none⟩ = false := fun j => frozen_of_row wr _ j _ _ hres
      clear hbox hbx
      go_wp2_with fail
      go_quiet (fail)
      go_wp2_with fail
      obtain ⟨hz6, hgr6⟩ := set5 (w := wr.drewN nq) hresq (.int .i64 0) (.slice none 0 0) (.slice none 0 0) (.slice none 0 0) (.slice none 0 0)
      have hb6 := (below_drewN' HBW.out nq).trans (below_of_grown' hgr6 HBW.out.size (by omega))
      clear z0 z1 z2 z3 z4 hresq hres
      generalize (((((wr.drewN nq).setCell ⟨w.heap.size + 1, 0, none⟩ (.int .i64 0)).setCell ⟨w.heap.size + 1, 1, none⟩ (.slice none 0 0)).setCell ⟨w.heap.size + 1, 2, none⟩ (.slice none 0 0)).setCell ⟨w.heap.size + 1, 3, none⟩ (.slice none 0 0)).setCell ⟨w.heap.size + 1, 4, none⟩ (.slice none 0 0) = W6 at *
      obtain ⟨z0, z1, z2, z3, z4⟩ := cells5 hz6
      refine bodyPost_ret (v := .tuple #[.agg #[.int .i64 0, .slice none 0 0, .slice none 0 0, .slice none 0 0, .slice none 0 0], .bool false]) (by simp [results, Tryz.results33, go_sem, z0, z1, z2, z3, z4]) rfl ?_
      exact Or.inr ⟨HZ.out, rfl, hb6⟩
     ·have i1' : decide (i < 0) = false := by simp; omega
      by_cases i2 : 1073741824 < i
      ·have HZ := Lib.hid (HDB.out (by rw [CI.out, decide_eq_false (show ¬ i ≤ 1073741824 by omega)]; simp))
       have HBW := Lib.hid hbx
       have hresq := hres
       clear y0 y1 y2 y3 y4 hI hG hN6 hN7 hreal
       obtain ⟨z0, z1, z2, z3, z4⟩ := cells5 hres
       have hfr : ∀ j, wr.frozen? ⟨w.heap.size + 1, j, none⟩ = false := fun j => frozen_of_row wr _ j _ _ hres
       clear hbox hbx
       go_wp2_with fail
       go_quiet (fail)
       go_wp2_with fail
       obtain ⟨hz6, hgr6⟩ := set5 (w := wr.drewN nq) hresq (.int .i64 0) (.slice none 0 0) (.slice none 0 0) (.slice none 0 0) (.slice none 0 0)
       have hb6 := (below_drewN' HBW.out nq).trans (below_of_grown' hgr6 HBW.out.size (by omega))
       clear z0 z1 z2 z3 z4 hresq hres
       generalize (((((wr.drewN nq).setCell ⟨w.heap.size + 1, 0, none⟩ (.int .i64 0)).setCell ⟨w.heap.size + 1, 1, none⟩ (.slice none 0 0)).setCell ⟨w.heap.size + 1, 2, none⟩ (.slice none 0 0)).setCell ⟨w.heap.size + 1, 3, none⟩ (.slice none 0 0)).setCell ⟨w.heap.size + 1, 4, none⟩ (.slice none 0 0) = W6 at *
       obtain ⟨z0, z1, z2, z3, z4⟩ := cells5 hz6
       refine bodyPost_ret (v := .tuple #[.agg #[.int .i64 0, .slice none 0 0, .slice none 0 0, .slice none 0 0, .slice none 0 0], .bool false]) (by simp [results, Tryz.results33, go_sem, z0, z1, z2, z3, z4]) rfl ?_
       exact Or.inr ⟨HZ.out, rfl, hb6⟩
      ·have i2' : decide (1073741824 < i) = false := by simp; omega
       have ci2 : colOk ⟨n, c, ids, g, r, false⟩ k = ((k == 0 || decide (ids.getD (k - 1) 0 < i)) && rowD g' n) := by
        rw [CI.out, decide_eq_true (show 0 ≤ i by omega), decide_eq_true (show i ≤ 1073741824 by omega)]
        rfl
       have CI2 := Lib.hid ci2
       clear ci2 CI i1 i2
       by_cases k0 : k = 0
       ·have k0' : decide ((0 : Int) < (k : Int)) = false := by simp; omega
        have k0'' : decide (0 < k) = false := by simp; omega
        have CI3 : Hid (colOk ⟨n, c, ids, g, r, false⟩ k = rowD g' n) := Lib.hid (by rw [CI2.out, k0]; rfl)
        clear k0 CI2
        have hbxs : w.heap.size < wr.heap.size := by omega
        have hb'2 : b' < wr.heap.size := Nat.lt_of_lt_of_le hb' hbx.size
        have hll : (ids.take k).length ≤ k := List.length_take_le _ _
        have hlk : (ids.take k).length = k := by rw [List.length_take]; omega
        have hvl : vals.length ≤ k := by rw [hG.len, List.length_map]; exact List.length_take_le _ _
        cases hrg : rowD g' n with
        | true =>
         have hNy := fun w1 (hb : Below wr.heap.size wr w1) => numbers_yes w1 B' g'.length cap' g' n (hg'.below (Nat.le_refl _) hb) (HK.out.g g' (List.mem_of_getElem? HG0.out)).1 rfl (by omega) (HK.out.g g' (List.mem_of_getElem? HG0.out)).2 hrg
         have HRG := Lib.hid hrg
         clear hrg hg'
         go_wp2_with fail
         go_quiet (fail)
         skip
         go_wp2_with fail
         refine late_begin (fun w' => w'.cell? ⟨w.heap.size, 3, none⟩ = some (.slice (some ⟨b', o', none⟩) ids.length kC) ∧ w'.cell? ⟨w.heap.size, 0, none⟩ = some (.int .i64 n) ∧ w'.cell? ⟨b', o' + k, none⟩ = some (.slice B' g'.length cap')) [] (by kernel_rfl) ?_
         refine lateT 0 (some 119) rfl rfl ⟨x3, x0, q2⟩ ?_
         try simp only [Act.put, lA, lZ, lC]
         refine lateT 1 (some 120) rfl rfl ⟨x3, x0, q2⟩ ?_
         try simp only [Act.put, lA, lZ, lC]
         refine lateT 2 (some 121) rfl rfl ⟨x3, x0, q2⟩ ?_
         try simp only [Act.put, lA, lZ, lC]
         refine lateT 3 (some 122) rfl rfl ⟨x3, x0, q2⟩ ?_
         try simp only [Act.put, lA, lZ, lC]
         refine lateT 4 (some 123) rfl rfl ⟨x3, x0, q2⟩ ?_
         try simp only [Act.put, lA, lZ, lC]
         refine lateT 5 (some 124) rfl rfl ⟨x3, x0, q2⟩ ?_
         try simp only [Act.put, lA, lZ, lC]
         refine lateT 6 (some 125) rfl rfl ⟨x3, x0, q2⟩ ?_
         try simp only [Act.put, lA, lZ, lC]
         refine late_one (i := 7) rfl (by kernel_rfl) ?_
         intro K hK
         go_simp
         refine (hNy _ ((below_drewN' (Below.refl _ wr) nq).drew)).mono ?_
         rintro e w2 ⟨A2, k2, rfl, hN2, b2⟩
         have c2 := ((below_drewN' (Below.refl _ wr) nq).drew).trans b2
         try show K _ _
         refine hK.out _ _ (Or.inr ⟨(c2.cell (p := ⟨w.heap.size, 3, none⟩) hbxs).trans x3, (c2.cell (p := ⟨w.heap.size, 0, none⟩) hbxs).trans x0, (c2.cell (p := ⟨b', o' + k, none⟩) hb'2).trans q2⟩) ?_
         clear hK K
         try simp only [Act.put, lA, lZ, lC]
         refine lateT 8 (some 118) rfl rfl ⟨(c2.cell (p := ⟨w.heap.size, 3, none⟩) hbxs).trans x3, (c2.cell (p := ⟨w.heap.size, 0, none⟩) hbxs).trans x0, (c2.cell (p := ⟨b', o' + k, none⟩) hb'2).trans q2⟩ ?_
         try simp only [Act.put, lA, lZ, lC]
         refine lateT 9 (some 127) rfl rfl ⟨(c2.cell (p := ⟨w.heap.size, 3, none⟩) hbxs).trans x3, (c2.cell (p := ⟨w.heap.size, 0, none⟩) hbxs).trans x0, (c2.cell (p := ⟨b', o' + k, none⟩) hb'2).trans q2⟩ ?_
         try simp only [Act.put, lA, lZ, lC]
         refine lateT 10 (some 128) rfl rfl ⟨(c2.cell (p := ⟨w.heap.size, 3, none⟩) hbxs).trans x3, (c2.cell (p := ⟨w.heap.size, 0, none⟩) hbxs).trans x0, (c2.cell (p := ⟨b', o' + k, none⟩) hb'2).trans q2⟩ ?_
         try simp only [Act.put, lA, lZ, lC]
         refine lateT 11 (some 11) rfl rfl ⟨(c2.cell (p := ⟨w.heap.size, 3, none⟩) hbxs).trans x3, (c2.cell (p := ⟨w.heap.size, 0, none⟩) hbxs).trans x0, (c2.cell (p := ⟨b', o' + k, none⟩) hb'2).trans q2⟩ ?_
         try simp only [Act.put, lA, lZ, lC]
         refine lateT 12 (some 12) rfl rfl ⟨(c2.cell (p := ⟨w.heap.size, 3, none⟩) hbxs).trans x3, (c2.cell (p := ⟨w.heap.size, 0, none⟩) hbxs).trans x0, (c2.cell (p := ⟨b', o' + k, none⟩) hb'2).trans q2⟩ ?_
         try simp only [Act.put, lA, lZ, lC]
         refine late_done (by kernel_rfl) ?_ _
         have hreal2 := (c2.block _ (Array.getElem?_eq_some_iff.1 hreal).1).trans hreal
         have hbox2 := (c2.block _ (Array.getElem?_eq_some_iff.1 hbox).1).trans hbox
         have hres2 := (c2.block _ (Array.getElem?_eq_some_iff.1 hres).1).trans hres
         have u2 := (cells5 hreal2).2.2.1
         have xx2 := (cells6 hbox2).2.2.1
         have qq1 := (c2.cell (p := ⟨b, o + k, none⟩) (Nat.lt_of_lt_of_le hb hbx.size)).trans q1
         have hI2 := hI.below c2
         have l4 : w.heap.size + 1 + 1 < w2.heap.size := (Array.getElem?_eq_some_iff.1 hreal2).1
         have l0 : w.heap.size < w2.heap.size := by omega
         have lb : b < w2.heap.size := Nat.lt_of_lt_of_le hb (by have := c2.size; omega)
         have hWa : W.heap.size ≤ (w2.alloc (.cells #[.int .i64 i] 3)).drew.heap.size := by show W.heap.size ≤ (w2.alloc (.cells #[.int .i64 i] 3)).heap.size; have := c2.size; simp; omega
         have c2a := (c2.trans ((below_alloc w2 (.cells #[.int .i64 i] 3)).mono c2.size)).drew
         have hbW : b < W.heap.size := by omega
         clear x0 x1 x2 x3 x4 x5 y0 y1 y2 y3 y4 q1 q2 hNy b2
         go_wp2_with fail
         refine late_begin (fun w' => w'.cell? ⟨w.heap.size + 1 + 1, 2, none⟩ = some vI ∧ w'.cell? ⟨w.heap.size, 2, none⟩ = some (.slice (some ⟨b, o, none⟩) ids.length kB) ∧ w'.cell? ⟨b, o + k, none⟩ = some (.int .i64 i)) [10] (by kernel_rfl) ?_
         refine lateT 0 (some 132) rfl rfl ⟨u2, xx2, qq1⟩ ?_
         try simp only [Act.put, lA, lZ, lC]
         refine lateT 1 (some 133) rfl rfl ⟨u2, xx2, qq1⟩ ?_
         try simp only [Act.put, lA, lZ, lC]
         refine lateT 2 (some 134) rfl rfl ⟨u2, xx2, qq1⟩ ?_
         try simp only [Act.put, lA, lZ, lC]
         refine lateT 3 (some 135) rfl rfl ⟨u2, xx2, qq1⟩ ?_
         try simp only [Act.put, lA, lZ, lC]
         refine lateT 4 (some 136) rfl rfl ⟨u2, xx2, qq1⟩ ?_
         try simp only [Act.put, lA, lZ, lC]
         refine lateT 5 (some 137) rfl rfl ⟨u2, xx2, qq1⟩ ?_
         try simp only [Act.put, lA, lZ, lC]
         refine lateT 6 (some 138) rfl rfl ⟨u2, xx2, qq1⟩ ?_
         try simp only [Act.put, lA, lZ, lC]
         refine late_one (i := 7) rfl (by kernel_rfl) ?_
         intro K hK
         go_simp
         have hI3 := hI2.alloc (.cells #[.int .i64 i] 3)
         try show K _ _
         refine hK.out _ _ (Or.inr ⟨((below_alloc w2 _).cell (p := ⟨w.heap.size + 1 + 1, 2, none⟩) l4).trans u2, ((below_alloc w2 _).cell (p := ⟨w.heap.size, 2, none⟩) l0).trans xx2, ((below_alloc w2 _).cell (p := ⟨b, o + k, none⟩) lb).trans qq1⟩) ?_
         clear hK K
         try simp only [Act.put, lA, lZ, lC]
         refine late_one (i := 8) rfl (by kernel_rfl) ?_
         intro K hK
         refine step_app1 cI 8 (.int .i64 0) 23 3 Tryz.underlying23 infoInt rfl rfl _ _ rfl W.heap.size vI (ids.take k) i (.int .i64 i) w2.heap.size rfl rfl hI3.drew rfl rfl (cell_new0 w2 (.int .i64 i) 3) (by omega) (by omega) hWa ?_
         intro v4 w4 ho4 hg4 _
         have ty4 : ∀ g, Value.ownBlock vI = some g → Typed (w2.alloc (.cells #[.int .i64 i] 3)).drew g 3 := hI3.drew.typed
         have hS4 := Lib.hid (block_far ((c2a.block _ (Array.getElem?_eq_some_iff.1 hreal).1).trans hreal) hg4 ty4 (by decide))
         have hk4 := Lib.hid (And.intro (hI3.drew.cellLow hg4 (a := ⟨w.heap.size, 2, none⟩) (by show w.heap.size < W.heap.size; omega) (((below_alloc w2 _).cell (p := ⟨w.heap.size, 2, none⟩) l0).trans xx2)) (hI3.drew.cellLow hg4 (a := ⟨b, o + k, none⟩) (by show b < W.heap.size; omega) (((below_alloc w2 _).cell (p := ⟨b, o + k, none⟩) lb).trans qq1)))
         obtain ⟨A4, c4, hv4, hL4⟩ := ho4.lat
         rw [List.length_append, List.length_singleton, hlk] at hv4
         subst hv4
         try show K _ _
         refine hK.out _ _ (Or.inr ⟨(cells5 hS4.out).2.2.1, hk4.out.1, hk4.out.2⟩) ?_
         clear hK K
         try simp only [Act.put, lA, lZ, lC]
         refine lateT 9 (some 141) rfl rfl ⟨(cells5 hS4.out).2.2.1, hk4.out.1, hk4.out.2⟩ ?_
         try simp only [Act.put, lA, lZ, lC]
         refine late_one (i := 10) rfl (by kernel_rfl) ?_
         intro K hK
         go_simp
         have p3 := (cells5 hS4.out).2.2.1
         have hfr4 : ∀ j, w4.frozen? ⟨w.heap.size + 1 + 1, j, none⟩ = false := fun j => frozen_of_row w4 _ j _ _ hS4.out
         go_simp
         try show K _ _
         refine hK.out _ _ (Or.inl (by decide)) ?_
         clear hK K
         try simp only [Act.put, lA, lZ, lC]
         refine late_done (by kernel_rfl) ?_ _
         have hst := heap_setCell_same w4 (w.heap.size + 1 + 1) 2 _ _ (.slice A4 (k + 1) c4) hS4.out
         have hgs := grown_set (grown_refl w4 (some (w.heap.size + 1 + 1))) 2 (.slice A4 (k + 1) c4)
         have tyr := typed_row hS4.out
         have hbA := (below_alloc w2 (.cells #[.int .i64 i] 3)).drew
         have hI5 := ho4.farR hgs tyr (by decide)
         have hG5 := (((hG.below c2).below hbA).farR hg4 ty4 (by decide) (by decide) (by decide)).farR hgs tyr (by decide) (by decide) (by decide)
         have hA65 := (((hN6.below c2).below hbA).far hg4 ty4 (by decide) (by decide)).far hgs tyr (by decide) (by decide)
         have hA75 := (((hN7.below c2).below hbA).far hg4 ty4 (by decide) (by decide)).far hgs tyr (by decide) (by decide)
         have hN25 := ((hN2.below hbA).far hg4 ty4 (by decide) (by decide)).far hgs tyr (by decide) (by decide)
         have hbox5 := block_far (block_far ((hbA.block _ l0).trans hbox2) hg4 ty4 (by decide)) hgs tyr (by decide)
         have hres5 := (hgs.block (w.heap.size + 1) (by have h1 := (Array.getElem?_eq_some_iff.1 hS4.out).1; omega) (by simp)).trans (block_far ((hbA.block _ (by omega)).trans hres2) hg4 ty4 (by decide))
         have hb5 := (((hbx.trans (c2a.mono hbx.size)).trans (below_ownG hI3.drew hg4 hWa |>.mono (by omega))).trans (below_of_grown' hgs (by have h1 := hbx.size; have h2 := c2a.size; have h3 := hg4.size; omega) (by omega)))
         have hW5 : W.heap.size ≤ (w4.setCell ⟨w.heap.size + 1 + 1, 2, none⟩ (.slice A4 (k + 1) c4)).heap.size := Nat.le_trans hWa (Nat.le_trans hg4.size hgs.size)
         have HT := Lib.hid (take_more ids k i HI.out)
         have HTG := Lib.hid (take_more g k g' HG0.out)
         rw [← HT.out] at hI5
         clear hS4 hk4 ty4 hgs tyr hbA ho4 hg4 hL4 hI3 hI2 hI hG hN6 hN7 hN2 hbox hbox2 hres hres2 hreal hreal2 c2 c2a hbx l4 l0 lb hWa u2 xx2 qq1 hWx
         generalize w4.setCell ⟨w.heap.size + 1 + 1, 2, none⟩ (.slice A4 (k + 1) c4) = w5 at *
         obtain ⟨v0, v1, v2, v3, v4⟩ := cells5 hst
         have hbA2 := below_alloc w5 (.cells #[.slice A2 g'.length k2] 58)
         have hG6 := hG5.below hbA2
         have hN26 := hN25.below hbA2
         have hst6 := (hbA2.block _ (Array.getElem?_eq_some_iff.1 hst).1).trans hst
         have hW6 : W.heap.size ≤ (w5.alloc (.cells #[.slice A2 g'.length k2] 58)).heap.size := Nat.le_trans hW5 hbA2.size
         go_wp2_with (at_builtin; refine wpList_app1 cV 24 (.slice none 0 0) 59 58 Tryz.underlying59 infoLN rfl rfl (.tmp 143) (.tmp 145) rfl W.heap.size vG vals (.slice A2 g'.length k2) (.slice A2 g'.length k2) w5.heap.size rfl rfl hG6.own rfl rfl (cell_new0 w5 (.slice A2 g'.length k2) 58) (by omega) (by omega) hW6 ?_; intro v7 w7 ho7 hg7 _; have hst7 := block_far hst6 hg7 hG6.own.typed (by decide); have p7 := (cells5 hst7).2.2.2.1; have hfr7 := (fun j => frozen_of_row w7 _ j _ _ hst7); obtain ⟨A7', c7', hv7, hL7⟩ := ho7.lat; rw [List.length_append, List.length_singleton] at hv7; subst hv7)
         have hst8 := heap_setCell_same w7 (w.heap.size + 1 + 1) 3 _ _ (.slice A7' (vals.length + 1) c7') hst7
         have hgs8 := grown_set (grown_refl w7 (some (w.heap.size + 1 + 1))) 3 (.slice A7' (vals.length + 1) c7')
         have tyr8 := typed_row hst7
         have hadd := hG6.add hN26 (v' := .slice A7' (vals.length + 1) c7') (w2 := w7) (by rw [List.length_map]; exact ho7) hg7
         rw [List.length_map] at hadd
         have ee : (g.take k).map (fun g => g.map fz) ++ [g'.map fz] = (g.take (k + 1)).map fun g => g.map fz := by rw [HTG.out, List.map_append]; rfl
         rw [ee] at hadd
         have hG8 := hadd.farR hgs8 tyr8 (by decide) (by decide) (by decide)
         have hI8 := ((hI5.alloc (.cells #[.slice A2 g'.length k2] 58)).farR hg7 hG6.own.typed (by decide)).farR hgs8 tyr8 (by decide)
         have hA68 := ((hA65.below hbA2).far hg7 hG6.own.typed (by decide) (by decide)).far hgs8 tyr8 (by decide) (by decide)
         have hA78 := ((hA75.below hbA2).far hg7 hG6.own.typed (by decide) (by decide)).far hgs8 tyr8 (by decide) (by decide)
         have hbox8 := block_far (block_far ((hbA2.block _ (Array.getElem?_eq_some_iff.1 hbox5).1).trans hbox5) hg7 hG6.own.typed (by decide)) hgs8 tyr8 (by decide)
         have hres8 := (hgs8.block (w.heap.size + 1) (by have h1 := (Array.getElem?_eq_some_iff.1 hst7).1; omega) (by simp)).trans (block_far ((hbA2.block _ (Array.getElem?_eq_some_iff.1 hres5).1).trans hres5) hg7 hG6.own.typed (by decide))
         have hb8 := ((hb5.trans (hbA2.mono hb5.size)).trans (below_ownG hG6.own hg7 hW6 |>.mono (by omega))).trans (below_of_grown' hgs8 (by have h1 := hb5.size; have h2 := hbA2.size; have h3 := hg7.size; omega) (by omega))
         have hW8 : W.heap.size ≤ (w7.setCell ⟨w.heap.size + 1 + 1, 3, none⟩ (.slice A7' (vals.length + 1) c7')).heap.size := Nat.le_trans hW6 (Nat.le_trans hg7.size hgs8.size)
         have HALL := Lib.hid (range_step _ _ HA.out (CI3.out.trans HRG.out))
         clear hst7 hgs8 tyr8 hadd ee hG6 hI5 hA65 hA75 hbox5 hres5 hb5 hW5 hg7 ho7 hL7 hst hst6 hbA2 hN25 hN26 hG5 hW6 v0 v1 v2 v3 v4 p7 hfr7 HT HTG
         go_roundw
         case rel => exact ⟨k + 1, by omega, by go_num, HALL.out, _, _, _, hst8, hI8, hG8, hA68, hA78, hbox8, hres8, hb8, hW8⟩
         case measure => simp [intOf]; omega
        | false =>
         have hNn := fun w1 (hb : Below wr.heap.size wr w1) => numbers_no w1 B' g'.length cap' g' n (hg'.below (Nat.le_refl _) hb) (HK.out.g g' (List.mem_of_getElem? HG0.out)).1 rfl (by omega) (HK.out.g g' (List.mem_of_getElem? HG0.out)).2 hrg
         have HZ := Lib.hid (HDB.out (CI3.out.trans hrg))
         clear hrg hg' hI hG hN6 hN7 hreal y0 y1 y2 y3 y4 hbox
         go_wp2_with fail
         go_quiet (fail)
         skip
         go_wp2_with fail
         refine late_begin (fun w' => w'.cell? ⟨w.heap.size, 3, none⟩ = some (.slice (some ⟨b', o', none⟩) ids.length kC) ∧ w'.cell? ⟨w.heap.size, 0, none⟩ = some (.int .i64 n) ∧ w'.cell? ⟨b', o' + k, none⟩ = some (.slice B' g'.length cap')) [] (by kernel_rfl) ?_
         refine lateT 0 (some 119) rfl rfl ⟨x3, x0, q2⟩ ?_
         try simp only [Act.put, lA, lZ, lC]
         refine lateT 1 (some 120) rfl rfl ⟨x3, x0, q2⟩ ?_
         try simp only [Act.put, lA, lZ, lC]
         refine lateT 2 (some 121) rfl rfl ⟨x3, x0, q2⟩ ?_
         try simp only [Act.put, lA, lZ, lC]
         refine lateT 3 (some 122) rfl rfl ⟨x3, x0, q2⟩ ?_
         try simp only [Act.put, lA, lZ, lC]
         refine lateT 4 (some 123) rfl rfl ⟨x3, x0, q2⟩ ?_
         try simp only [Act.put, lA, lZ, lC]
         refine lateT 5 (some 124) rfl rfl ⟨x3, x0, q2⟩ ?_
         try simp only [Act.put, lA, lZ, lC]
         refine lateT 6 (some 125) rfl rfl ⟨x3, x0, q2⟩ ?_
         try simp only [Act.put, lA, lZ, lC]
         refine late_one (i := 7) rfl (by kernel_rfl) ?_
         intro K hK
         go_simp
         refine (hNn _ ((below_drewN' (Below.refl _ wr) nq).drew)).mono ?_
         rintro e w2 ⟨rfl, b2⟩
         have c2 := ((below_drewN' (Below.refl _ wr) nq).drew).trans b2
         try show K _ _
         refine hK.out _ _ (Or.inr ⟨(c2.cell (p := ⟨w.heap.size, 3, none⟩) hbxs).trans x3, (c2.cell (p := ⟨w.heap.size, 0, none⟩) hbxs).trans x0, (c2.cell (p := ⟨b', o' + k, none⟩) hb'2).trans q2⟩) ?_
         clear hK K
         try simp only [Act.put, lA, lZ, lC]
         refine lateT 8 (some 118) rfl rfl ⟨(c2.cell (p := ⟨w.heap.size, 3, none⟩) hbxs).trans x3, (c2.cell (p := ⟨w.heap.size, 0, none⟩) hbxs).trans x0, (c2.cell (p := ⟨b', o' + k, none⟩) hb'2).trans q2⟩ ?_
         try simp only [Act.put, lA, lZ, lC]
         refine lateT 9 (some 127) rfl rfl ⟨(c2.cell (p := ⟨w.heap.size, 3, none⟩) hbxs).trans x3, (c2.cell (p := ⟨w.heap.size, 0, none⟩) hbxs).trans x0, (c2.cell (p := ⟨b', o' + k, none⟩) hb'2).trans q2⟩ ?_
         try simp only [Act.put, lA, lZ, lC]
         refine lateT 10 (some 128) rfl rfl ⟨(c2.cell (p := ⟨w.heap.size, 3, none⟩) hbxs).trans x3, (c2.cell (p := ⟨w.heap.size, 0, none⟩) hbxs).trans x0, (c2.cell (p := ⟨b', o' + k, none⟩) hb'2).trans q2⟩ ?_
         try simp only [Act.put, lA, lZ, lC]
         refine lateT 11 (some 11) rfl rfl ⟨(c2.cell (p := ⟨w.heap.size, 3, none⟩) hbxs).trans x3, (c2.cell (p := ⟨w.heap.size, 0, none⟩) hbxs).trans x0, (c2.cell (p := ⟨b', o' + k, none⟩) hb'2).trans q2⟩ ?_
         try simp only [Act.put, lA, lZ, lC]
         refine lateT 12 (some 12) rfl rfl ⟨(c2.cell (p := ⟨w.heap.size, 3, none⟩) hbxs).trans x3, (c2.cell (p := ⟨w.heap.size, 0, none⟩) hbxs).trans x0, (c2.cell (p := ⟨b', o' + k, none⟩) hb'2).trans q2⟩ ?_
         try simp only [Act.put, lA, lZ, lC]
         refine late_done (by kernel_rfl) ?_ _
         have hres2 := (c2.block _ (Array.getElem?_eq_some_iff.1 hres).1).trans hres
         have HBW := Lib.hid (hbx.trans (c2.mono hbx.size))
         clear x0 x1 x2 x3 x4 x5 q1 q2 hNn hres hbx b2 c2
         have hres := hres2
         clear hres2
         obtain ⟨z0, z1, z2, z3, z4⟩ := cells5 hres
         have hfr : ∀ j, w2.frozen? ⟨w.heap.size + 1, j, none⟩ = false := fun j => frozen_of_row w2 _ j _ _ hres
         go_wp2_with fail
         obtain ⟨hz6, hgr6⟩ := set5 hres (.int .i64 0) (.slice none 0 0) (.slice none 0 0) (.slice none 0 0) (.slice none 0 0)
         have hb6 := HBW.out.trans (below_of_grown' hgr6 HBW.out.size (by omega))
         clear z0 z1 z2 z3 z4
         generalize ((((w2.setCell ⟨w.heap.size + 1, 0, none⟩ (.int .i64 0)).setCell ⟨w.heap.size + 1, 1, none⟩ (.slice none 0 0)).setCell ⟨w.heap.size + 1, 2, none⟩ (.slice none 0 0)).setCell ⟨w.heap.size + 1, 3, none⟩ (.slice none 0 0)).setCell ⟨w.heap.size + 1, 4, none⟩ (.slice none 0 0) = W6 at *
         obtain ⟨z0, z1, z2, z3, z4⟩ := cells5 hz6
         refine bodyPost_ret (v := .tuple #[.agg #[.int .i64 0, .slice none 0 0, .slice none 0 0, .slice none 0 0, .slice none 0 0], .bool false]) (by simp [results, Tryz.results33, go_sem, z0, z1, z2, z3, z4]) rfl ?_
         exact Or.inr ⟨HZ.out, rfl, hb6⟩
       ·obtain ⟨i', hi'⟩ := get_some ids (k - 1) (by omega)
        obtain ⟨b2, o2, e2, hb2, hcp⟩ := HC.out.ids.cell hbx (k - 1) i' hi'
        injection e2 with e2
        injection e2 with e2 e3
        subst e2 e3
        have k0' : (0 : Int) < (k : Int) := by omega
        have k0'' : 0 < k := by omega
        have kw : IntKind.i64.wrap ((k : Int) - 1) = (k : Int) - 1 := IntWalk.i64_in _ (by omega)
        have kn : ((k : Int) - 1).toNat = k - 1 := by omega
        have kp : (0 : Int) ≤ (k : Int) - 1 := by omega
        have kp' : 1 ≤ k := by omega
        have kl : (k : Int) - 1 < (ids.length : Int) := by omega
        have ci3 : colOk ⟨n, c, ids, g, r, false⟩ k = (decide (i' < i) && rowD g' n) := by
         rw [CI2.out, List.getD_eq_getElem?_getD, hi', Option.getD_some, show (k == 0) = false by rw [beq_eq_false_iff_ne]; omega]
         rfl
        clear CI2 k0 hi'
        by_cases i3 : i ≤ i'
        ·have HZ := Lib.hid (HDB.out (by rw [ci3, decide_eq_false (show ¬ i' < i by omega)]; rfl))
         clear ci3
         have HBW := Lib.hid hbx
         have hresq := hres
         clear y0 y1 y2 y3 y4 hI hG hN6 hN7 hreal
         obtain ⟨z0, z1, z2, z3, z4⟩ := cells5 hres
         have hfr : ∀ j, wr.frozen? ⟨w.heap.size + 1, j, none⟩ = false := fun j => frozen_of_row wr _ j _ _ hres
         clear hbox hbx
         go_wp2_with fail
         go_quiet (fail)
         go_wp2_with fail
         obtain ⟨hz6, hgr6⟩ := set5 (w := wr.drewN nq) hresq (.int .i64 0) (.slice none 0 0) (.slice none 0 0) (.slice none 0 0) (.slice none 0 0)
         have hb6 := (below_drewN' HBW.out nq).trans (below_of_grown' hgr6 HBW.out.size (by omega))
         clear z0 z1 z2 z3 z4 hresq hres
         generalize (((((wr.drewN nq).setCell ⟨w.heap.size + 1, 0, none⟩ (.int .i64 0)).setCell ⟨w.heap.size + 1, 1, none⟩ (.slice none 0 0)).setCell ⟨w.heap.size + 1, 2, none⟩ (.slice none 0 0)).setCell ⟨w.heap.size + 1, 3, none⟩ (.slice none 0 0)).setCell ⟨w.heap.size + 1, 4, none⟩ (.slice none 0 0) = W6 at *
         obtain ⟨z0, z1, z2, z3, z4⟩ := cells5 hz6
         refine bodyPost_ret (v := .tuple #[.agg #[.int .i64 0, .slice none 0 0, .slice none 0 0, .slice none 0 0, .slice none 0 0], .bool false]) (by simp [results, Tryz.results33, go_sem, z0, z1, z2, z3, z4]) rfl ?_
         exact Or.inr ⟨HZ.out, rfl, hb6⟩
        ·have i3' : decide (i ≤ i') = false := by simp; omega
         have CI3 : Hid (colOk ⟨n, c, ids, g, r, false⟩ k = rowD g' n) := Lib.hid (by rw [ci3, decide_eq_true (show i' < i by omega)]; rfl)
         clear ci3 i3
         have hbxs : w.heap.size < wr.heap.size := by omega
         have hb'2 : b' < wr.heap.size := Nat.lt_of_lt_of_le hb' hbx.size
         have hll : (ids.take k).length ≤ k := List.length_take_le _ _
         have hlk : (ids.take k).length = k := by rw [List.length_take]; omega
         have hvl : vals.length ≤ k := by rw [hG.len, List.length_map]; exact List.length_take_le _ _
         cases hrg : rowD g' n with
         | true =>
          have hNy := fun w1 (hb : Below wr.heap.size wr w1) => numbers_yes w1 B' g'.length cap' g' n (hg'.below (Nat.le_refl _) hb) (HK.out.g g' (List.mem_of_getElem? HG0.out)).1 rfl (by omega) (HK.out.g g' (List.mem_of_getElem? HG0.out)).2 hrg
          have HRG := Lib.hid hrg
          clear hrg hg'
          go_wp2_with fail
          go_quiet (fail)
          clear kw kn kp kl kp'
          go_wp2_with fail
          refine late_begin (fun w' => w'.cell? ⟨w.heap.size, 3, none⟩ = some (.slice (some ⟨b', o', none⟩) ids.length kC) ∧ w'.cell? ⟨w.heap.size, 0, none⟩ = some (.int .i64 n) ∧ w'.cell? ⟨b', o' + k, none⟩ = some (.slice B' g'.length cap')) [] (by kernel_rfl) ?_
          refine lateT 0 (some 119) rfl rfl ⟨x3, x0, q2⟩ ?_
          try simp only [Act.put, lA, lZ, lC]
          refine lateT 1 (some 120) rfl rfl ⟨x3, x0, q2⟩ ?_
          try simp only [Act.put, lA, lZ, lC]
          refine lateT 2 (some 121) rfl rfl ⟨x3, x0, q2⟩ ?_
          try simp only [Act.put, lA, lZ, lC]
          refine lateT 3 (some 122) rfl rfl ⟨x3, x0, q2⟩ ?_
          try simp only [Act.put, lA, lZ, lC]
          refine lateT 4 (some 123) rfl rfl ⟨x3, x0, q2⟩ ?_
          try simp only [Act.put, lA, lZ, lC]
          refine lateT 5 (some 124) rfl rfl ⟨x3, x0, q2⟩ ?_
          try simp only [Act.put, lA, lZ, lC]
          refine lateT 6 (some 125) rfl rfl ⟨x3, x0, q2⟩ ?_
          try simp only [Act.put, lA, lZ, lC]
          refine late_one (i := 7) rfl (by kernel_rfl) ?_
          intro K hK
          go_simp
          refine (hNy _ ((below_drewN' (Below.refl _ wr) nq).drew)).mono ?_
          rintro e w2 ⟨A2, k2, rfl, hN2, b2⟩
          have c2 := ((below_drewN' (Below.refl _ wr) nq).drew).trans b2
          try show K _ _
          refine hK.out _ _ (Or.inr ⟨(c2.cell (p := ⟨w.heap.size, 3, none⟩) hbxs).trans x3, (c2.cell (p := ⟨w.heap.size, 0, none⟩) hbxs).trans x0, (c2.cell (p := ⟨b', o' + k, none⟩) hb'2).trans q2⟩) ?_
          clear hK K
          try simp only [Act.put, lA, lZ, lC]
          refine lateT 8 (some 118) rfl rfl ⟨(c2.cell (p := ⟨w.heap.size, 3, none⟩) hbxs).trans x3, (c2.cell (p := ⟨w.heap.size, 0, none⟩) hbxs).trans x0, (c2.cell (p := ⟨b', o' + k, none⟩) hb'2).trans q2⟩ ?_
          try simp only [Act.put, lA, lZ, lC]
          refine lateT 9 (some 127) rfl rfl ⟨(c2.cell (p := ⟨w.heap.size, 3, none⟩) hbxs).trans x3, (c2.cell (p := ⟨w.heap.size, 0, none⟩) hbxs).trans x0, (c2.cell (p := ⟨b', o' + k, none⟩) hb'2).trans q2⟩ ?_
          try simp only [Act.put, lA, lZ, lC]
          refine lateT 10 (some 128) rfl rfl ⟨(c2.cell (p := ⟨w.heap.size, 3, none⟩) hbxs).trans x3, (c2.cell (p := ⟨w.heap.size, 0, none⟩) hbxs).trans x0, (c2.cell (p := ⟨b', o' + k, none⟩) hb'2).trans q2⟩ ?_
          try simp only [Act.put, lA, lZ, lC]
          refine lateT 11 (some 11) rfl rfl ⟨(c2.cell (p := ⟨w.heap.size, 3, none⟩) hbxs).trans x3, (c2.cell (p := ⟨w.heap.size, 0, none⟩) hbxs).trans x0, (c2.cell (p := ⟨b', o' + k, none⟩) hb'2).trans q2⟩ ?_
          try simp only [Act.put, lA, lZ, lC]
          refine lateT 12 (some 12) rfl rfl ⟨(c2.cell (p := ⟨w.heap.size, 3, none⟩) hbxs).trans x3, (c2.cell (p := ⟨w.heap.size, 0, none⟩) hbxs).trans x0, (c2.cell (p := ⟨b', o' + k, none⟩) hb'2).trans q2⟩ ?_
          try simp only [Act.put, lA, lZ, lC]
          refine late_done (by kernel_rfl) ?_ _
          have hreal2 := (c2.block _ (Array.getElem?_eq_some_iff.1 hreal).1).trans hreal
          have hbox2 := (c2.block _ (Array.getElem?_eq_some_iff.1 hbox).1).trans hbox
          have hres2 := (c2.block _ (Array.getElem?_eq_some_iff.1 hres).1).trans hres
          have u2 := (cells5 hreal2).2.2.1
          have xx2 := (cells6 hbox2).2.2.1
          have qq1 := (c2.cell (p := ⟨b, o + k, none⟩) (Nat.lt_of_lt_of_le hb hbx.size)).trans q1
          have hI2 := hI.below c2
          have l4 : w.heap.size + 1 + 1 < w2.heap.size := (Array.getElem?_eq_some_iff.1 hreal2).1
          have l0 : w.heap.size < w2.heap.size := by omega
          have lb : b < w2.heap.size := Nat.lt_of_lt_of_le hb (by have := c2.size; omega)
          have hWa : W.heap.size ≤ (w2.alloc (.cells #[.int .i64 i] 3)).drew.heap.size := by show W.heap.size ≤ (w2.alloc (.cells #[.int .i64 i] 3)).heap.size; have := c2.size; simp; omega
          have c2a := (c2.trans ((below_alloc w2 (.cells #[.int .i64 i] 3)).mono c2.size)).drew
          have hbW : b < W.heap.size := by omega
          clear x0 x1 x2 x3 x4 x5 y0 y1 y2 y3 y4 q1 q2 hNy b2
          go_wp2_with fail
          refine late_begin (fun w' => w'.cell? ⟨w.heap.size + 1 + 1, 2, none⟩ = some vI ∧ w'.cell? ⟨w.heap.size, 2, none⟩ = some (.slice (some ⟨b, o, none⟩) ids.length kB) ∧ w'.cell? ⟨b, o + k, none⟩ = some (.int .i64 i)) [10] (by kernel_rfl) ?_
          refine lateT 0 (some 132) rfl rfl ⟨u2, xx2, qq1⟩ ?_
          try simp only [Act.put, lA, lZ, lC]
          refine lateT 1 (some 133) rfl rfl ⟨u2, xx2, qq1⟩ ?_
          try simp only [Act.put, lA, lZ, lC]
          refine lateT 2 (some 134) rfl rfl ⟨u2, xx2, qq1⟩ ?_
          try simp only [Act.put, lA, lZ, lC]
          refine lateT 3 (some 135) rfl rfl ⟨u2, xx2, qq1⟩ ?_
          try simp only [Act.put, lA, lZ, lC]
          refine lateT 4 (some 136) rfl rfl ⟨u2, xx2, qq1⟩ ?_
          try simp only [Act.put, lA, lZ, lC]
          refine lateT 5 (some 137) rfl rfl ⟨u2, xx2, qq1⟩ ?_
          try simp only [Act.put, lA, lZ, lC]
          refine lateT 6 (some 138) rfl rfl ⟨u2, xx2, qq1⟩ ?_
          try simp only [Act.put, lA, lZ, lC]
          refine late_one (i := 7) rfl (by kernel_rfl) ?_
          intro K hK
          go_simp
          have hI3 := hI2.alloc (.cells #[.int .i64 i] 3)
          try show K _ _
          refine hK.out _ _ (Or.inr ⟨((below_alloc w2 _).cell (p := ⟨w.heap.size + 1 + 1, 2, none⟩) l4).trans u2, ((below_alloc w2 _).cell (p := ⟨w.heap.size, 2, none⟩) l0).trans xx2, ((below_alloc w2 _).cell (p := ⟨b, o + k, none⟩) lb).trans qq1⟩) ?_
          clear hK K
          try simp only [Act.put, lA, lZ, lC]
          refine late_one (i := 8) rfl (by kernel_rfl) ?_
          intro K hK
          refine step_app1 cI 8 (.int .i64 0) 23 3 Tryz.underlying23 infoInt rfl rfl _ _ rfl W.heap.size vI (ids.take k) i (.int .i64 i) w2.heap.size rfl rfl hI3.drew rfl rfl (cell_new0 w2 (.int .i64 i) 3) (by omega) (by omega) hWa ?_
          intro v4 w4 ho4 hg4 _
          have ty4 : ∀ g, Value.ownBlock vI = some g → Typed (w2.alloc (.cells #[.int .i64 i] 3)).drew g 3 := hI3.drew.typed
          have hS4 := Lib.hid (block_far ((c2a.block _ (Array.getElem?_eq_some_iff.1 hreal).1).trans hreal) hg4 ty4 (by decide))
          have hk4 := Lib.hid (And.intro (hI3.drew.cellLow hg4 (a := ⟨w.heap.size, 2, none⟩) (by show w.heap.size < W.heap.size; omega) (((below_alloc w2 _).cell (p := ⟨w.heap.size, 2, none⟩) l0).trans xx2)) (hI3.drew.cellLow hg4 (a := ⟨b, o + k, none⟩) (by show b < W.heap.size; omega) (((below_alloc w2 _).cell (p := ⟨b, o + k, none⟩) lb).trans qq1)))
          obtain ⟨A4, c4, hv4, hL4⟩ := ho4.lat
          rw [List.length_append, List.length_singleton, hlk] at hv4
          subst hv4
          try show K _ _
          refine hK.out _ _ (Or.inr ⟨(cells5 hS4.out).2.2.1, hk4.out.1, hk4.out.2⟩) ?_
          clear hK K
          try simp only [Act.put, lA, lZ, lC]
          refine lateT 9 (some 141) rfl rfl ⟨(cells5 hS4.out).2.2.1, hk4.out.1, hk4.out.2⟩ ?_
          try simp only [Act.put, lA, lZ, lC]
          refine late_one (i := 10) rfl (by kernel_rfl) ?_
          intro K hK
          go_simp
          have p3 := (cells5 hS4.out).2.2.1
          have hfr4 : ∀ j, w4.frozen? ⟨w.heap.size + 1 + 1, j, none⟩ = false := fun j => frozen_of_row w4 _ j _ _ hS4.out
          go_simp
          try show K _ _
          refine hK.out _ _ (Or.inl (by decide)) ?_
          clear hK K
          try simp only [Act.put, lA, lZ, lC]
          refine late_done (by kernel_rfl) ?_ _
          have hst := heap_setCell_same w4 (w.heap.size + 1 + 1) 2 _ _ (.slice A4 (k + 1) c4) hS4.out
          have hgs := grown_set (grown_refl w4 (some (w.heap.size + 1 + 1))) 2 (.slice A4 (k + 1) c4)
          have tyr := typed_row hS4.out
          have hbA := (below_alloc w2 (.cells #[.int .i64 i] 3)).drew
          have hI5 := ho4.farR hgs tyr (by decide)
          have hG5 := (((hG.below c2).below hbA).farR hg4 ty4 (by decide) (by decide) (by decide)).farR hgs tyr (by decide) (by decide) (by decide)
          have hA65 := (((hN6.below c2).below hbA).far hg4 ty4 (by decide) (by decide)).far hgs tyr (by decide) (by decide)
          have hA75 := (((hN7.below c2).below hbA).far hg4 ty4 (by decide) (by decide)).far hgs tyr (by decide) (by decide)
          have hN25 := ((hN2.below hbA).far hg4 ty4 (by decide) (by decide)).far hgs tyr (by decide) (by decide)
          have hbox5 := block_far (block_far ((hbA.block _ l0).trans hbox2) hg4 ty4 (by decide)) hgs tyr (by decide)
          have hres5 := (hgs.block (w.heap.size + 1) (by have h1 := (Array.getElem?_eq_some_iff.1 hS4.out).1; omega) (by simp)).trans (block_far ((hbA.block _ (by omega)).trans hres2) hg4 ty4 (by decide))
          have hb5 := (((hbx.trans (c2a.mono hbx.size)).trans (below_ownG hI3.drew hg4 hWa |>.mono (by omega))).trans (below_of_grown' hgs (by have h1 := hbx.size; have h2 := c2a.size; have h3 := hg4.size; omega) (by omega)))
          have hW5 : W.heap.size ≤ (w4.setCell ⟨w.heap.size + 1 + 1, 2, none⟩ (.slice A4 (k + 1) c4)).heap.size := Nat.le_trans hWa (Nat.le_trans hg4.size hgs.size)
          have HT := Lib.hid (take_more ids k i HI.out)
          have HTG := Lib.hid (take_more g k g' HG0.out)
          rw [← HT.out] at hI5
          clear hS4 hk4 ty4 hgs tyr hbA ho4 hg4 hL4 hI3 hI2 hI hG hN6 hN7 hN2 hbox hbox2 hres hres2 hreal hreal2 c2 c2a hbx l4 l0 lb hWa u2 xx2 qq1 hWx
          generalize w4.setCell ⟨w.heap.size + 1 + 1, 2, none⟩ (.slice A4 (k + 1) c4) = w5 at *
          obtain ⟨v0, v1, v2, v3, v4⟩ := cells5 hst
          have hbA2 := below_alloc w5 (.cells #[.slice A2 g'.length k2] 58)
          have hG6 := hG5.below hbA2
          have hN26 := hN25.below hbA2
          have hst6 := (hbA2.block _ (Array.getElem?_eq_some_iff.1 hst).1).trans hst
          have hW6 : W.heap.size ≤ (w5.alloc (.cells #[.slice A2 g'.length k2] 58)).heap.size := Nat.le_trans hW5 hbA2.size
          go_wp2_with (at_builtin; refine wpList_app1 cV 24 (.slice none 0 0) 59 58 Tryz.underlying59 infoLN rfl rfl (.tmp 143) (.tmp 145) rfl W.heap.size vG vals (.slice A2 g'.length k2) (.slice A2 g'.length k2) w5.heap.size rfl rfl hG6.own rfl rfl (cell_new0 w5 (.slice A2 g'.length k2) 58) (by omega) (by omega) hW6 ?_; intro v7 w7 ho7 hg7 _; have hst7 := block_far hst6 hg7 hG6.own.typed (by decide); have p7 := (cells5 hst7).2.2.2.1; have hfr7 := (fun j => frozen_of_row w7 _ j _ _ hst7); obtain ⟨A7', c7', hv7, hL7⟩ := ho7.lat; rw [List.length_append, List.length_singleton] at hv7; subst hv7)
          have hst8 := heap_setCell_same w7 (w.heap.size + 1 + 1) 3 _ _ (.slice A7' (vals.length + 1) c7') hst7
          have hgs8 := grown_set (grown_refl w7 (some (w.heap.size + 1 + 1))) 3 (.slice A7' (vals.length + 1) c7')
          have tyr8 := typed_row hst7
          have hadd := hG6.add hN26 (v' := .slice A7' (vals.length + 1) c7') (w2 := w7) (by rw [List.length_map]; exact ho7) hg7
          rw [List.length_map] at hadd
          have ee : (g.take k).map (fun g => g.map fz) ++ [g'.map fz] = (g.take (k + 1)).map fun g => g.map fz := by rw [HTG.out, List.map_append]; rfl
          rw [ee] at hadd
          have hG8 := hadd.farR hgs8 tyr8 (by decide) (by decide) (by decide)
          have hI8 := ((hI5.alloc (.cells #[.slice A2 g'.length k2] 58)).farR hg7 hG6.own.typed (by decide)).farR hgs8 tyr8 (by decide)
          have hA68 := ((hA65.below hbA2).far hg7 hG6.own.typed (by decide) (by decide)).far hgs8 tyr8 (by decide) (by decide)
          have hA78 := ((hA75.below hbA2).far hg7 hG6.own.typed (by decide) (by decide)).far hgs8 tyr8 (by decide) (by decide)
          have hbox8 := block_far (block_far ((hbA2.block _ (Array.getElem?_eq_some_iff.1 hbox5).1).trans hbox5) hg7 hG6.own.typed (by decide)) hgs8 tyr8 (by decide)
          have hres8 := (hgs8.block (w.heap.size + 1) (by have h1 := (Array.getElem?_eq_some_iff.1 hst7).1; omega) (by simp)).trans (block_far ((hbA2.block _ (Array.getElem?_eq_some_iff.1 hres5).1).trans hres5) hg7 hG6.own.typed (by decide))
          have hb8 := ((hb5.trans (hbA2.mono hb5.size)).trans (below_ownG hG6.own hg7 hW6 |>.mono (by omega))).trans (below_of_grown' hgs8 (by have h1 := hb5.size; have h2 := hbA2.size; have h3 := hg7.size; omega) (by omega))
          have hW8 : W.heap.size ≤ (w7.setCell ⟨w.heap.size + 1 + 1, 3, none⟩ (.slice A7' (vals.length + 1) c7')).heap.size := Nat.le_trans hW6 (Nat.le_trans hg7.size hgs8.size)
          have HALL := Lib.hid (range_step _ _ HA.out (CI3.out.trans HRG.out))
          clear hst7 hgs8 tyr8 hadd ee hG6 hI5 hA65 hA75 hbox5 hres5 hb5 hW5 hg7 ho7 hL7 hst hst6 hbA2 hN25 hN26 hG5 hW6 v0 v1 v2 v3 v4 p7 hfr7 HT HTG
          go_roundw
          case rel => exact ⟨k + 1, by omega, by go_num, HALL.out, _, _, _, hst8, hI8, hG8, hA68, hA78, hbox8, hres8, hb8, hW8⟩
          case measure => simp [intOf]; omega
         | false =>
          have hNn := fun w1 (hb : Below wr.heap.size wr w1) => numbers_no w1 B' g'.length cap' g' n (hg'.below (Nat.le_refl _) hb) (HK.out.g g' (List.mem_of_getElem? HG0.out)).1 rfl (by omega) (HK.out.g g' (List.mem_of_getElem? HG0.out)).2 hrg
          have HZ := Lib.hid (HDB.out (CI3.out.trans hrg))
          clear hrg hg' hI hG hN6 hN7 hreal y0 y1 y2 y3 y4 hbox
          go_wp2_with fail
          go_quiet (fail)
          clear kw kn kp kl kp'
          go_wp2_with fail
          refine late_begin (fun w' => w'.cell? ⟨w.heap.size, 3, none⟩ = some (.slice (some ⟨b', o', none⟩) ids.length kC) ∧ w'.cell? ⟨w.heap.size, 0, none⟩ = some (.int .i64 n) ∧ w'.cell? ⟨b', o' + k, none⟩ = some (.slice B' g'.length cap')) [] (by kernel_rfl) ?_
          refine lateT 0 (some 119) rfl rfl ⟨x3, x0, q2⟩ ?_
          try simp only [Act.put, lA, lZ, lC]
          refine lateT 1 (some 120) rfl rfl ⟨x3, x0, q2⟩ ?_
          try simp only [Act.put, lA, lZ, lC]
          refine lateT 2 (some 121) rfl rfl ⟨x3, x0, q2⟩ ?_
          try simp only [Act.put, lA, lZ, lC]
          refine lateT 3 (some 122) rfl rfl ⟨x3, x0, q2⟩ ?_
          try simp only [Act.put, lA, lZ, lC]
          refine lateT 4 (some 123) rfl rfl ⟨x3, x0, q2⟩ ?_
          try simp only [Act.put, lA, lZ, lC]
          refine lateT 5 (some 124) rfl rfl ⟨x3, x0, q2⟩ ?_
          try simp only [Act.put, lA, lZ, lC]
          refine lateT 6 (some 125) rfl rfl ⟨x3, x0, q2⟩ ?_
          try simp only [Act.put, lA, lZ, lC]
          refine late_one (i := 7) rfl (by kernel_rfl) ?_
          intro K hK
          go_simp
          refine (hNn _ ((below_drewN' (Below.refl _ wr) nq).drew)).mono ?_
          rintro e w2 ⟨rfl, b2⟩
          have c2 := ((below_drewN' (Below.refl _ wr) nq).drew).trans b2
          try show K _ _
          refine hK.out _ _ (Or.inr ⟨(c2.cell (p := ⟨w.heap.size, 3, none⟩) hbxs).trans x3, (c2.cell (p := ⟨w.heap.size, 0, none⟩) hbxs).trans x0, (c2.cell (p := ⟨b', o' + k, none⟩) hb'2).trans q2⟩) ?_
          clear hK K
          try simp only [Act.put, lA, lZ, lC]
          refine lateT 8 (some 118) rfl rfl ⟨(c2.cell (p := ⟨w.heap.size, 3, none⟩) hbxs).trans x3, (c2.cell (p := ⟨w.heap.size, 0, none⟩) hbxs).trans x0, (c2.cell (p := ⟨b', o' + k, none⟩) hb'2).trans q2⟩ ?_
          try simp only [Act.put, lA, lZ, lC]
          refine lateT 9 (some 127) rfl rfl ⟨(c2.cell (p := ⟨w.heap.size, 3, none⟩) hbxs).trans x3, (c2.cell (p := ⟨w.heap.size, 0, none⟩) hbxs).trans x0, (c2.cell (p := ⟨b', o' + k, none⟩) hb'2).trans q2⟩ ?_
          try simp only [Act.put, lA, lZ, lC]
          refine lateT 10 (some 128) rfl rfl ⟨(c2.cell (p := ⟨w.heap.size, 3, none⟩) hbxs).trans x3, (c2.cell (p := ⟨w.heap.size, 0, none⟩) hbxs).trans x0, (c2.cell (p := ⟨b', o' + k, none⟩) hb'2).trans q2⟩ ?_
          try simp only [Act.put, lA, lZ, lC]
          refine lateT 11 (some 11) rfl rfl ⟨(c2.cell (p := ⟨w.heap.size, 3, none⟩) hbxs).trans x3, (c2.cell (p := ⟨w.heap.size, 0, none⟩) hbxs).trans x0, (c2.cell (p := ⟨b', o' + k, none⟩) hb'2).trans q2⟩ ?_
          try simp only [Act.put, lA, lZ, lC]
          refine lateT 12 (some 12) rfl rfl ⟨(c2.cell (p := ⟨w.heap.size, 3, none⟩) hbxs).trans x3, (c2.cell (p := ⟨w.heap.size, 0, none⟩) hbxs).trans x0, (c2.cell (p := ⟨b', o' + k, none⟩) hb'2).trans q2⟩ ?_
          try simp only [Act.put, lA, lZ, lC]
          refine late_done (by kernel_rfl) ?_ _
          have hres2 := (c2.block _ (Array.getElem?_eq_some_iff.1 hres).1).trans hres
          have HBW := Lib.hid (hbx.trans (c2.mono hbx.size))
          clear x0 x1 x2 x3 x4 x5 q1 q2 hNn hres hbx b2 c2
          have hres := hres2
          clear hres2
          obtain ⟨z0, z1, z2, z3, z4⟩ := cells5 hres
          have hfr : ∀ j, w2.frozen? ⟨w.heap.size + 1, j, none⟩ = false := fun j => frozen_of_row w2 _ j _ _ hres
          go_wp2_with fail
          obtain ⟨hz6, hgr6⟩ := set5 hres (.int .i64 0) (.slice none 0 0) (.slice none 0 0) (.slice none 0 0) (.slice none 0 0)
          have hb6 := HBW.out.trans (below_of_grown' hgr6 HBW.out.size (by omega))
          clear z0 z1 z2 z3 z4
          generalize ((((w2.setCell ⟨w.heap.size + 1, 0, none⟩ (.int .i64 0)).setCell ⟨w.heap.size + 1, 1, none⟩ (.slice none 0 0)).setCell ⟨w.heap.size + 1, 2, none⟩ (.slice none 0 0)).setCell ⟨w.heap.size + 1, 3, none⟩ (.slice none 0 0)).setCell ⟨w.heap.size + 1, 4, none⟩ (.slice none 0 0) = W6 at *
          obtain ⟨z0, z1, z2, z3, z4⟩ := cells5 hz6
          refine bodyPost_ret (v := .tuple #[.agg #[.int .i64 0, .slice none 0 0, .slice none 0 0, .slice none 0 0, .slice none 0 0], .bool false]) (by simp [results, Tryz.results33, go_sem, z0, z1, z2, z3, z4]) rfl ?_
          exact Or.inr ⟨HZ.out, rfl, hb6⟩
    ·obtain rfl : k = ids.length := by omega
     have hlt' : decide ((ids.length : Int) < (ids.length : Nat)) = false := by simp
     have HZ := Lib.hid (goodD_all (z := ⟨n, c, ids, g, r, false⟩) HH.out HR.out HA.out)
     rw [List.take_length] at hI
     rw [List.take_of_length_le (by have := P6.out; omega)] at hG
     obtain ⟨BI, cI', rfl, hLI⟩ := hI.lat
     obtain ⟨BG, cG, hvG, hNG⟩ := hG.row
     rw [List.length_map] at hvG
     subst hvG
     obtain ⟨z0, z1, z2, z3, z4⟩ := cells5 hres
     have hfr : ∀ j, wr.frozen? ⟨w.heap.size + 1, j, none⟩ = false := fun j => frozen_of_row wr _ j _ _ hres
     clear HA hreal hbox
     go_wp2_with fail
     obtain ⟨hz6, hgr6⟩ := set5 hres (.int .i64 n) (.slice A6 c.length k6) (.slice BI ids.length cI') (.slice BG g.length cG) (.slice A7 r.length k7)
     have tyr := typed_row hres
     have s6 := hN6.far hgr6 tyr (by decide) (by decide)
     have s7 := hN7.far hgr6 tyr (by decide) (by decide)
     obtain ⟨BI', cI'', eI, hLI'⟩ := (hI.farR hgr6 tyr (by decide)).lat
     injection eI with eI1 _ eI2
     subst eI1 eI2
     obtain ⟨BG', cG', eG, hNG'⟩ := (hG.farR hgr6 tyr (by decide) (by decide) (by decide)).row
     injection eG with eG1 _ eG2
     subst eG1 eG2
     have hb6 := hbx.trans (below_of_grown' hgr6 hbx.size (by omega))
     clear hres hgr6 tyr hN6 hN7 hI hG hLI hNG hbx
     clear x0 x1 x2 x3 x4 x5 y0 y1 y2 y3 y4 z0 z1 z2 z3 z4
     generalize ((((wr.setCell ⟨w.heap.size + 1, 0, none⟩ (.int .i64 n)).setCell ⟨w.heap.size + 1, 1, none⟩ (.slice A6 c.length k6)).setCell ⟨w.heap.size + 1, 2, none⟩ (.slice BI ids.length cI')).setCell ⟨w.heap.size + 1, 3, none⟩ (.slice BG g.length cG)).setCell ⟨w.heap.size + 1, 4, none⟩ (.slice A7 r.length k7) = W6 at *
     obtain ⟨z0, z1, z2, z3, z4⟩ := cells5 hz6
     refine bodyPost_ret (v := .tuple #[.agg #[.int .i64 n, .slice A6 c.length k6, .slice BI ids.length cI', .slice BG g.length cG, .slice A7 r.length k7], .bool true]) (by simp [results, Tryz.results33, go_sem, z0, z1, z2, z3, z4]) rfl ?_
     exact Or.inl ⟨HZ.out, _, rfl, ⟨A6, BI, BG, A7, k6, cI', cG, k7, rfl, ⟨s6, hLI', hNG', s7⟩⟩, hb6⟩
theorem Reals_any (w : World) (v : Value) (z : ZD) (h : UIs w v z) (hk : ZOk z) : Calls Tryz.prog 33 #[v] w fun e w' => TellsReal w z e w' := by
 obtain ⟨A, B, C, D, kA, kB, kC, kD, rfl, hc⟩ := h
 by_cases h1 : z.bad = false ∧ 1 ≤ z.n ∧ z.n ≤ 256 ∧ z.ids.length = z.g.length
 ·obtain ⟨p1, p2, p3, p6⟩ := h1
  by_cases h2 : rowD z.c z.n = true ∧ rowD z.r z.n = true
  ·exact Reals_body w A B C D kA kB kC kD z hc hk p1 p2 p3 p6 h2.1 h2.2
  ·have hh : rowD z.c z.n = false ∨ rowD z.r z.n = false := by
    cases e1 : rowD z.c z.n with
    | false => exact Or.inl rfl
    | true =>
     cases e2 : rowD z.r z.n with
     | false => exact Or.inr rfl
     | true => exact absurd ⟨e1, e2⟩ h2
   have hg : goodD z = false := by
    unfold goodD headD
    rcases hh with h | h <;> rw [h] <;> simp
   exact (Reals_rows w A B C D kA kB kC kD z hc hk p1 p2 p3 p6 hh).mono fun e w' ⟨h3, h4⟩ => Or.inr ⟨hg, h3, h4⟩
 ·have hh : z.bad = true ∨ z.n < 1 ∨ 256 < z.n ∨ z.ids.length ≠ z.g.length := by
   by_cases q1 : z.bad = false
   ·by_cases q2 : 1 ≤ z.n
    ·by_cases q3 : z.n ≤ 256
     ·exact Or.inr (Or.inr (Or.inr fun e => h1 ⟨q1, q2, q3, e⟩))
     ·exact Or.inr (Or.inr (Or.inl (by omega)))
    ·exact Or.inr (Or.inl (by omega))
   ·exact Or.inl (by simpa using q1)
  have hg : goodD z = false := by
   unfold goodD headD
   rcases hh with h | h | h | h
   ·rw [h]; simp
   ·rw [decide_eq_false (show ¬ 1 ≤ z.n by omega)]; simp
   ·rw [decide_eq_false (show ¬ z.n ≤ 256 by omega)]; simp
   ·rw [show (z.ids.length == z.g.length) = false by rw [beq_eq_false_iff_ne]; exact h]; simp
  exact (Reals_head w A B C D kA kB kC kD z hh).mono fun e w' ⟨h3, h4⟩ => Or.inr ⟨hg, h3, h4⟩
end Go.Proofs.YtpfbgenefjhcjaaGreatDoor
