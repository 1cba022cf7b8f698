/- law10.ZonoTurns. -/
import Derived.Test.YtpfbgenefjhcjaaGreatDoorZoTwo
import Derived.Test.YtpfbgenefjhcjaaGreatDoorZoLB
import Derived.Test.YtpfbgenefjhcjaaGreatDoorZoBox
import Derived.Test.YtpfbgenefjhcjaaGreatDoorZoBox10
import Derived.Test.YtpfbgenefjhcjaaGreatDoorZoLift10
namespace Go.Proofs.YtpfbgenefjhcjaaGreatDoor
set_option linter.unusedVariables false
set_option linter.unusedSimpArgs false
open Go Go.RowKit
set_option maxRecDepth 100000
attribute [local go_sem] run_store_flt
set_option maxHeartbeats 8000000 in
theorem turns_any (w : World) (v : Value) (z : ZD) (h : ZIn w v z) (next : Int) (lo : -9223372036854775808 ≤ next) (hi : next ≤ 9223372036854775807) : Calls Tryz.prog 9 #[v, .int .i64 next] w fun e w' => e = .returned (.bool true) ∧ Below w.heap.size w w' := by
  obtain ⟨A, B, C, D, kA, kB, kC, kD, rfl, hc, hk, hgn⟩ := h
  have hb1 := below_alloc w (.cells #[.int .i64 z.n, .slice A z.c.length kA, .slice B z.ids.length kB, .slice C z.g.length kC, .slice D z.r.length kD, .bool z.bad] 26)
  have hx := heap_alloc_new w (.cells #[.int .i64 z.n, .slice A z.c.length kA, .slice B z.ids.length kB, .slice C z.g.length kC, .slice D z.r.length kD, .bool z.bad] 26)
  have hof := Of10_any _ _ z ⟨A, B, C, D, kA, kB, kC, kD, rfl, hc.below hb1⟩ hk
  unfold zval at hof ⊢
  go_enter Tryz.func9, Tryz.ntmps9
  go_wp2_with fail
  refine hof.mono ?_
  rintro e w1 ⟨v1, rfl, hu1, hb⟩
  obtain ⟨A1, B1, C1, D1, kA1, kB1, kC1, kD1, rfl, hc1⟩ := hu1
  unfold zval
  have hlw := (Array.getElem?_eq_some_iff.1 hx).1
  have hbu := below_alloc w1 (.cells #[.int .i64 z.n, .slice A1 z.c.length kA1, .slice B1 z.ids.length kB1, .slice C1 z.g.length kC1, .slice D1 z.r.length kD1, .bool z.bad] 30)
  have hb2 := (hb1.trans (hb.mono hb1.size)).trans (hbu.mono (hb1.trans (hb.mono hb1.size)).size)
  have g0 := (hbu.block _ (Nat.lt_of_lt_of_le hlw hb.size)).trans ((hb.block _ hlw).trans hx)
  have gu := heap_alloc_new w1 (.cells #[.int .i64 z.n, .slice A1 z.c.length kA1, .slice B1 z.ids.length kB1, .slice C1 z.g.length kC1, .slice D1 z.r.length kD1, .bool z.bad] 30)
  have hld := Laid_any (w1.alloc (.cells #[.int .i64 z.n, .slice A1 z.c.length kA1, .slice B1 z.ids.length kB1, .slice C1 z.g.length kC1, .slice D1 z.r.length kD1, .bool z.bad] 30)) A B C D kA kB kC kD z (hc.below hb2) (hgn.below hc.g hb2) hk
  have hcu := hc1.below hbu
  unfold zval at hld
  obtain ⟨x0, x1, x2, x3, x4, x5⟩ := cells6 g0
  clear hof hb hx hb1 hgn hc1
  go_wp2_with fail
  refine hld.mono ?_
  rintro e w2 ⟨v2, base, rfl, hbase, hL, hb⟩
  obtain ⟨A2, B2, C2, D2, kA2, kB2, kC2, kD2, rfl⟩ := hL.form
  clear x0 x1 x2 x3 x4 x5 hld
  go_upto_region 3 with fail
  have hbl := below_alloc w2 (.cells #[.int .i64 z.n, .slice A2 z.c.length kA2, .slice B2 z.ids.length kB2, .slice C2 z.g.length kC2, .slice D2 z.r.length kD2, .bool z.bad] 26)
  have gl := heap_alloc_new w2 (.cells #[.int .i64 z.n, .slice A2 z.c.length kA2, .slice B2 z.ids.length kB2, .slice C2 z.g.length kC2, .slice D2 z.r.length kD2, .bool z.bad] 26)
  have hT : InTwo w (w2.alloc (.cells #[.int .i64 z.n, .slice A2 z.c.length kA2, .slice B2 z.ids.length kB2, .slice C2 z.g.length kC2, .slice D2 z.r.length kD2, .bool z.bad] 26)) z w1.heap.size w2.heap.size base A1 B1 C1 D1 A2 B2 C2 D2 kA1 kB1 kC1 kD1 kA2 kB2 kC2 kD2 :=
    ⟨(hbl.block _ (Nat.lt_of_lt_of_le (Array.getElem?_eq_some_iff.1 gu).1 hb.size)).trans ((hb.block _ (Array.getElem?_eq_some_iff.1 gu).1).trans gu), gl, (hcu.below hb).below hbl, hL.below hbl, (hb2.trans (hb.mono hb2.size)).trans (hbl.mono (hb2.trans (hb.mono hb2.size)).size)⟩
  clear g0 gu hcu hL hb hbu hb2 hbl gl hc hlw hbase
  generalize w2.alloc (.cells #[.int .i64 z.n, .slice A2 z.c.length kA2, .slice B2 z.ids.length kB2, .slice C2 z.g.length kC2, .slice D2 z.r.length kD2, .bool z.bad] 26) = W at *
  generalize w1.heap.size = b3 at *
  generalize w2.heap.size = b4 at *
  clear w1 w2
  have hlf := Lift_any W _ z next (hT.z hk) hk hi
  have hl10 := fun W1 (hb : Below W.heap.size W W1) => Lift10_any W1 _ z next (hT.b hb).u hk hi
  have hbx := fun W1 (hb : Below W.heap.size W W1) => Box_any W1 _ z ((hT.b hb).z hk) hk
  have hb10 := fun W1 (hb : Below W.heap.size W W1) => Box10_any W1 _ z (hT.b hb).u hk
  have hyk := liftD_ok next hk
  have hxk := boxD_ok hk
  generalize liftD z next = p at hlf hl10 hyk
  generalize boxD z = x at hbx hb10 hxk
  obtain ⟨y, m⟩ := p
  unfold TellsLift at hlf
  unfold TellsU at hl10
  unfold TellsBox at hbx
  unfold TellsBU at hb10
  dsimp only at hlf hl10 hyk
  obtain ⟨x0, x1, x2, x3, x4, x5⟩ := cells6 hT.laid
  go_wp2_with fail
  refine hlf.mono ?_
  rintro e w3 ⟨v3, rfl, hv3, hb⟩
  obtain ⟨A3, B3, C3, D3, kA3, kB3, kC3, kD3, rfl, hy⟩ := hv3.is
  unfold zval
  have hbl := below_alloc w3 (.cells #[.int .i64 y.n, .slice A3 y.c.length kA3, .slice B3 y.ids.length kB3, .slice C3 y.g.length kC3, .slice D3 y.r.length kD3, .bool y.bad] 26)
  have gy := ZB.new w3 (.int .i64 y.n) (.slice A3 y.c.length kA3) (.slice B3 y.ids.length kB3) (.slice C3 y.g.length kC3) (.slice D3 y.r.length kD3) (.bool y.bad)
  have hB := hb.trans (hbl.mono hb.size)
  replace hy := hy.below hbl
  have hl10' := hl10 _ hB
  clear x0 x1 x2 x3 x4 x5 hlf hv3 hb
  obtain ⟨x0, x1, x2, x3, x4, x5⟩ := cells6 (hT.b hB).ref
  go_wp2_with fail
  refine hl10'.mono ?_
  rintro e w4 ⟨v4, rfl, hv4, hb⟩
  obtain ⟨A4, B4, C4, D4, kA4, kB4, kC4, kD4, rfl, hu⟩ := hv4
  unfold zval
  have hbl4 := below_alloc w4 (.cells #[.int .i64 y.n, .slice A4 y.c.length kA4, .slice B4 y.ids.length kB4, .slice C4 y.g.length kC4, .slice D4 y.r.length kD4, .bool y.bad] 30)
  have gu := UB.new w4 (.int .i64 y.n) (.slice A4 y.c.length kA4) (.slice B4 y.ids.length kB4) (.slice C4 y.g.length kC4) (.slice D4 y.r.length kD4) (.bool y.bad)
  replace hB := (hB.trans (hb.mono hB.size)).trans (hbl4.mono (hB.trans (hb.mono hB.size)).size)
  replace gy := (gy.below hb).below hbl4
  replace hy := (hy.below hb).below hbl4
  replace hu := hu.below hbl4
  have hbx' := hbx _ hB
  clear x0 x1 x2 x3 x4 x5 hl10 hl10' hb hbl hbl4
  obtain ⟨x0, x1, x2, x3, x4, x5⟩ := cells6 (hT.b hB).laid
  go_wp2_with fail
  refine hbx'.mono ?_
  rintro e w5 ⟨v5, rfl, hv5, hb⟩
  obtain ⟨A5, B5, C5, D5, kA5, kB5, kC5, kD5, rfl, hx⟩ := hv5.is
  unfold zval
  have hbl := below_alloc w5 (.cells #[.int .i64 x.n, .slice A5 x.c.length kA5, .slice B5 x.ids.length kB5, .slice C5 x.g.length kC5, .slice D5 x.r.length kD5, .bool x.bad] 26)
  have gx := ZB.new w5 (.int .i64 x.n) (.slice A5 x.c.length kA5) (.slice B5 x.ids.length kB5) (.slice C5 x.g.length kC5) (.slice D5 x.r.length kD5) (.bool x.bad)
  replace hB := (hB.trans (hb.mono hB.size)).trans (hbl.mono (hB.trans (hb.mono hB.size)).size)
  replace gy := (gy.below hb).below hbl
  replace hy := (hy.below hb).below hbl
  replace gu := (gu.below hb).below hbl
  replace hu := (hu.below hb).below hbl
  replace hx := hx.below hbl
  clear x0 x1 x2 x3 x4 x5 hbx hbx' hb hbl hv5
  go_upto_region 6 with fail
  generalize w5.alloc (.cells #[.int .i64 x.n, .slice A5 x.c.length kA5, .slice B5 x.ids.length kB5, .slice C5 x.g.length kC5, .slice D5 x.r.length kD5, .bool x.bad] 26) = W5 at *
  generalize w5.heap.size = b11 at *
  generalize w4.heap.size = b9 at *
  generalize w3.heap.size = b7 at *
  clear w3 w4 w5
  go_cut [4] from 30 to 51 (fun c wx => c = .bool true ∧ Below w.heap.size w wx)
  case first =>
    have hd0 := (Below.refl W5.heap.size W5).drew
    have hD := hB.trans (hd0.mono hB.size)
    obtain ⟨x0, x1, x2, x3, x4, x5⟩ := cells6 (hT.b hB).ref
    obtain ⟨y0, y1, y2, y3, y4, y5⟩ := cells6 (hT.b hB).laid
    obtain ⟨z0, z1, z2, z3, z4, z5⟩ := cells6 gy
    obtain ⟨t0, t1, t2, t3, t4, t5⟩ := cells6 gu
    obtain ⟨s0, s1, s2, s3, s4, s5⟩ := cells6 gx
    have Q1 := Same10_yes W5.drew A3 B3 C3 D3 A4 B4 C4 D4 kA3 kB3 kC3 kD3 kA4 kB4 kC4 kD4 y (hy.below hd0) (hu.below hd0) hyk
    unfold zval at Q1
    have Q2 := fun W1 (hb : Below W5.heap.size W5 W1) => hb10 W1 (hB.trans (hb.mono hB.size))
    have Q3 := fun W1 (hb : Below W5.heap.size W5 W1) A6 B6 C6 D6 kA6 kB6 kC6 kD6 h6 => Same10_yes W1 A5 B5 C5 D5 A6 B6 C6 D6 kA5 kB5 kC5 kD5 kA6 kB6 kC6 kD6 x (hx.below hb) h6 hxk
    unfold zval at Q3
    have Q4 := fun W1 (hb : Below W5.heap.size W5 W1) => Held_any W1 base _ _ z (hT.b (hB.trans (hb.mono hB.size))).laidAt (hT.b (hB.trans (hb.mono hB.size))).u hk
    have hTB := (hT.b hB).below
    have hS : ∀ W', Below W5.heap.size W5 W' → (fun w' => (w'.cell? ⟨b3, 0, none⟩ = some (.int .i64 z.n) ∧ w'.cell? ⟨b3, 1, none⟩ = some (.slice A1 z.c.length kA1) ∧ w'.cell? ⟨b3, 2, none⟩ = some (.slice B1 z.ids.length kB1) ∧ w'.cell? ⟨b3, 3, none⟩ = some (.slice C1 z.g.length kC1) ∧ w'.cell? ⟨b3, 4, none⟩ = some (.slice D1 z.r.length kD1) ∧ w'.cell? ⟨b3, 5, none⟩ = some (.bool z.bad)) ∧ (w'.cell? ⟨b4, 0, none⟩ = some (.int .i64 z.n) ∧ w'.cell? ⟨b4, 1, none⟩ = some (.slice A2 z.c.length kA2) ∧ w'.cell? ⟨b4, 2, none⟩ = some (.slice B2 z.ids.length kB2) ∧ w'.cell? ⟨b4, 3, none⟩ = some (.slice C2 z.g.length kC2) ∧ w'.cell? ⟨b4, 4, none⟩ = some (.slice D2 z.r.length kD2) ∧ w'.cell? ⟨b4, 5, none⟩ = some (.bool z.bad)) ∧ (w'.cell? ⟨b7, 0, none⟩ = some (.int .i64 y.n) ∧ w'.cell? ⟨b7, 1, none⟩ = some (.slice A3 y.c.length kA3) ∧ w'.cell? ⟨b7, 2, none⟩ = some (.slice B3 y.ids.length kB3) ∧ w'.cell? ⟨b7, 3, none⟩ = some (.slice C3 y.g.length kC3) ∧ w'.cell? ⟨b7, 4, none⟩ = some (.slice D3 y.r.length kD3) ∧ w'.cell? ⟨b7, 5, none⟩ = some (.bool y.bad)) ∧ (w'.cell? ⟨b9, 0, none⟩ = some (.int .i64 y.n) ∧ w'.cell? ⟨b9, 1, none⟩ = some (.slice A4 y.c.length kA4) ∧ w'.cell? ⟨b9, 2, none⟩ = some (.slice B4 y.ids.length kB4) ∧ w'.cell? ⟨b9, 3, none⟩ = some (.slice C4 y.g.length kC4) ∧ w'.cell? ⟨b9, 4, none⟩ = some (.slice D4 y.r.length kD4) ∧ w'.cell? ⟨b9, 5, none⟩ = some (.bool y.bad)) ∧ (w'.cell? ⟨b11, 0, none⟩ = some (.int .i64 x.n) ∧ w'.cell? ⟨b11, 1, none⟩ = some (.slice A5 x.c.length kA5) ∧ w'.cell? ⟨b11, 2, none⟩ = some (.slice B5 x.ids.length kB5) ∧ w'.cell? ⟨b11, 3, none⟩ = some (.slice C5 x.g.length kC5) ∧ w'.cell? ⟨b11, 4, none⟩ = some (.slice D5 x.r.length kD5) ∧ w'.cell? ⟨b11, 5, none⟩ = some (.bool x.bad))) W' := fun W' hb => ⟨cells6 (hT.b (hB.trans (hb.mono hB.size))).ref, cells6 (hT.b (hB.trans (hb.mono hB.size))).laid, cells6 (gy.below hb), cells6 (gu.below hb), cells6 (gx.below hb)⟩
    clear x0 x1 x2 x3 x4 x5 y0 y1 y2 y3 y4 y5 z0 z1 z2 z3 z4 z5 t0 t1 t2 t3 t4 t5 s0 s1 s2 s3 s4 s5
    refine late_begin (fun w' => (w'.cell? ⟨b3, 0, none⟩ = some (.int .i64 z.n) ∧ w'.cell? ⟨b3, 1, none⟩ = some (.slice A1 z.c.length kA1) ∧ w'.cell? ⟨b3, 2, none⟩ = some (.slice B1 z.ids.length kB1) ∧ w'.cell? ⟨b3, 3, none⟩ = some (.slice C1 z.g.length kC1) ∧ w'.cell? ⟨b3, 4, none⟩ = some (.slice D1 z.r.length kD1) ∧ w'.cell? ⟨b3, 5, none⟩ = some (.bool z.bad)) ∧ (w'.cell? ⟨b4, 0, none⟩ = some (.int .i64 z.n) ∧ w'.cell? ⟨b4, 1, none⟩ = some (.slice A2 z.c.length kA2) ∧ w'.cell? ⟨b4, 2, none⟩ = some (.slice B2 z.ids.length kB2) ∧ w'.cell? ⟨b4, 3, none⟩ = some (.slice C2 z.g.length kC2) ∧ w'.cell? ⟨b4, 4, none⟩ = some (.slice D2 z.r.length kD2) ∧ w'.cell? ⟨b4, 5, none⟩ = some (.bool z.bad)) ∧ (w'.cell? ⟨b7, 0, none⟩ = some (.int .i64 y.n) ∧ w'.cell? ⟨b7, 1, none⟩ = some (.slice A3 y.c.length kA3) ∧ w'.cell? ⟨b7, 2, none⟩ = some (.slice B3 y.ids.length kB3) ∧ w'.cell? ⟨b7, 3, none⟩ = some (.slice C3 y.g.length kC3) ∧ w'.cell? ⟨b7, 4, none⟩ = some (.slice D3 y.r.length kD3) ∧ w'.cell? ⟨b7, 5, none⟩ = some (.bool y.bad)) ∧ (w'.cell? ⟨b9, 0, none⟩ = some (.int .i64 y.n) ∧ w'.cell? ⟨b9, 1, none⟩ = some (.slice A4 y.c.length kA4) ∧ w'.cell? ⟨b9, 2, none⟩ = some (.slice B4 y.ids.length kB4) ∧ w'.cell? ⟨b9, 3, none⟩ = some (.slice C4 y.g.length kC4) ∧ w'.cell? ⟨b9, 4, none⟩ = some (.slice D4 y.r.length kD4) ∧ w'.cell? ⟨b9, 5, none⟩ = some (.bool y.bad)) ∧ (w'.cell? ⟨b11, 0, none⟩ = some (.int .i64 x.n) ∧ w'.cell? ⟨b11, 1, none⟩ = some (.slice A5 x.c.length kA5) ∧ w'.cell? ⟨b11, 2, none⟩ = some (.slice B5 x.ids.length kB5) ∧ w'.cell? ⟨b11, 3, none⟩ = some (.slice C5 x.g.length kC5) ∧ w'.cell? ⟨b11, 4, none⟩ = some (.slice D5 x.r.length kD5) ∧ w'.cell? ⟨b11, 5, none⟩ = some (.bool x.bad))) [] (by kernel_rfl) ?_
    refine late_take (i := 0) (v := ?_) (some 30) rfl rfl (by kernel_rfl) (by kernel_rfl) (by kernel_rfl) (by kernel_rfl) (fun _ _ _ h => h) (by kernel_rfl) (hS _ hd0) ?_ ?_
    rotate_left
    · (intro w hSw; (try dsimp only at hSw); go_simp; try rfl)
    try simp only [Act.put, List.setIfInBounds_toArray, List.set_cons_zero, List.set_cons_succ]
    refine late_take (i := 1) (v := ?_) (some 31) rfl rfl (by kernel_rfl) (by kernel_rfl) (by kernel_rfl) (by kernel_rfl) (fun _ _ _ h => h) (by kernel_rfl) (hS _ hd0) ?_ ?_
    rotate_left
    · (intro w hSw; (try dsimp only at hSw); go_simp; try rfl)
    try simp only [Act.put, List.setIfInBounds_toArray, List.set_cons_zero, List.set_cons_succ]
    refine late_take (i := 2) (v := ?_) (some 32) rfl rfl (by kernel_rfl) (by kernel_rfl) (by kernel_rfl) (by kernel_rfl) (fun _ _ _ h => h) (by kernel_rfl) (hS _ hd0) ?_ ?_
    rotate_left
    · (intro w hSw; (try dsimp only at hSw); go_simp; try rfl)
    try simp only [Act.put, List.setIfInBounds_toArray, List.set_cons_zero, List.set_cons_succ]
    refine late_take (i := 3) (v := ?_) (some 33) rfl rfl (by kernel_rfl) (by kernel_rfl) (by kernel_rfl) (by kernel_rfl) (fun _ _ _ h => h) (by kernel_rfl) (hS _ hd0) ?_ ?_
    rotate_left
    · (intro w hSw; (try dsimp only at hSw); go_simp; try rfl)
    try simp only [Act.put, List.setIfInBounds_toArray, List.set_cons_zero, List.set_cons_succ]
    refine late_take (i := 4) (v := ?_) (some 34) rfl rfl (by kernel_rfl) (by kernel_rfl) (by kernel_rfl) (by kernel_rfl) (fun _ _ _ h => h) (by kernel_rfl) (hS _ hd0) ?_ ?_
    rotate_left
    · (intro w hSw; (try dsimp only at hSw); go_simp; try rfl)
    try simp only [Act.put, List.setIfInBounds_toArray, List.set_cons_zero, List.set_cons_succ]
    refine late_take (i := 5) (v := ?_) (some 35) rfl rfl (by kernel_rfl) (by kernel_rfl) (by kernel_rfl) (by kernel_rfl) (fun _ _ _ h => h) (by kernel_rfl) (hS _ hd0) ?_ ?_
    rotate_left
    · (intro w hSw; (try dsimp only at hSw); go_simp; try rfl)
    try simp only [Act.put, List.setIfInBounds_toArray, List.set_cons_zero, List.set_cons_succ]
    refine late_one (i := 6) rfl (by kernel_rfl) ?_
    intro K hK
    go_simp
    refine Q1.mono ?_
    rintro e w6 ⟨rfl, hb6⟩
    have hg6 := hd0.trans (hb6.mono hd0.size)
    try show K _ _
    refine hK.out _ _ (Or.inr (hS _ hg6)) ?_
    clear hK K
    try simp only [Act.put, List.setIfInBounds_toArray, List.set_cons_zero, List.set_cons_succ]
    refine late_take (i := 7) (v := ?_) (some 37) rfl rfl (by kernel_rfl) (by kernel_rfl) (by kernel_rfl) (by kernel_rfl) (fun _ _ _ h => h) (by kernel_rfl) (hS _ hg6) ?_ ?_
    rotate_left
    · (intro w hSw; (try dsimp only at hSw); go_simp; try rfl)
    try simp only [Act.put, List.setIfInBounds_toArray, List.set_cons_zero, List.set_cons_succ]
    refine late_take (i := 8) (v := ?_) (some 38) rfl rfl (by kernel_rfl) (by kernel_rfl) (by kernel_rfl) (by kernel_rfl) (fun _ _ _ h => h) (by kernel_rfl) (hS _ hg6) ?_ ?_
    rotate_left
    · (intro w hSw; (try dsimp only at hSw); go_simp; try rfl)
    try simp only [Act.put, List.setIfInBounds_toArray, List.set_cons_zero, List.set_cons_succ]
    refine late_take (i := 9) (v := ?_) (some 39) rfl rfl (by kernel_rfl) (by kernel_rfl) (by kernel_rfl) (by kernel_rfl) (fun _ _ _ h => h) (by kernel_rfl) (hS _ hg6) ?_ ?_
    rotate_left
    · (intro w hSw; (try dsimp only at hSw); go_simp; try rfl)
    try simp only [Act.put, List.setIfInBounds_toArray, List.set_cons_zero, List.set_cons_succ]
    refine late_take (i := 10) (v := ?_) (some 40) rfl rfl (by kernel_rfl) (by kernel_rfl) (by kernel_rfl) (by kernel_rfl) (fun _ _ _ h => h) (by kernel_rfl) (hS _ hg6) ?_ ?_
    rotate_left
    · (intro w hSw; (try dsimp only at hSw); go_simp; try rfl)
    try simp only [Act.put, List.setIfInBounds_toArray, List.set_cons_zero, List.set_cons_succ]
    refine late_one (i := 11) rfl (by kernel_rfl) ?_
    intro K hK
    go_simp
    refine (Q2 _ hg6).mono ?_
    rintro e w7 ⟨v7, rfl, ⟨A6, B6, C6, D6, kA6, kB6, kC6, kD6, rfl, hc7⟩, hb7⟩
    unfold zval
    have hg7 := hg6.trans (hb7.mono hg6.size)
    try show K _ _
    refine hK.out _ _ (Or.inr (hS _ hg7)) ?_
    clear hK K
    try simp only [Act.put, List.setIfInBounds_toArray, List.set_cons_zero, List.set_cons_succ]
    refine late_one (i := 12) rfl (by kernel_rfl) ?_
    intro K hK
    go_simp
    refine (Q3 _ hg7 _ _ _ _ _ _ _ _ hc7).mono ?_
    rintro e w8 ⟨rfl, hb8⟩
    have hg8 := hg7.trans (hb8.mono hg7.size)
    try show K _ _
    refine hK.out _ _ (Or.inr (hS _ hg8)) ?_
    clear hK K
    try simp only [Act.put, List.setIfInBounds_toArray, List.set_cons_zero, List.set_cons_succ]
    refine late_take (i := 13) (v := ?_) (some 43) rfl rfl (by kernel_rfl) (by kernel_rfl) (by kernel_rfl) (by kernel_rfl) (fun _ _ _ h => h) (by kernel_rfl) (hS _ hg8) ?_ ?_
    rotate_left
    · (intro w hSw; (try dsimp only at hSw); go_simp; try rfl)
    try simp only [Act.put, List.setIfInBounds_toArray, List.set_cons_zero, List.set_cons_succ]
    refine late_take (i := 14) (v := ?_) (some 44) rfl rfl (by kernel_rfl) (by kernel_rfl) (by kernel_rfl) (by kernel_rfl) (fun _ _ _ h => h) (by kernel_rfl) (hS _ hg8) ?_ ?_
    rotate_left
    · (intro w hSw; (try dsimp only at hSw); go_simp; try rfl)
    try simp only [Act.put, List.setIfInBounds_toArray, List.set_cons_zero, List.set_cons_succ]
    refine late_take (i := 15) (v := ?_) (some 45) rfl rfl (by kernel_rfl) (by kernel_rfl) (by kernel_rfl) (by kernel_rfl) (fun _ _ _ h => h) (by kernel_rfl) (hS _ hg8) ?_ ?_
    rotate_left
    · (intro w hSw; (try dsimp only at hSw); go_simp; try rfl)
    try simp only [Act.put, List.setIfInBounds_toArray, List.set_cons_zero, List.set_cons_succ]
    refine late_take (i := 16) (v := ?_) (some 46) rfl rfl (by kernel_rfl) (by kernel_rfl) (by kernel_rfl) (by kernel_rfl) (fun _ _ _ h => h) (by kernel_rfl) (hS _ hg8) ?_ ?_
    rotate_left
    · (intro w hSw; (try dsimp only at hSw); go_simp; try rfl)
    try simp only [Act.put, List.setIfInBounds_toArray, List.set_cons_zero, List.set_cons_succ]
    refine late_one (i := 17) rfl (by kernel_rfl) ?_
    intro K hK
    go_simp
    refine (Q4 _ hg8).mono ?_
    rintro e w9 ⟨rfl, hb9⟩
    have hg9 := hg8.trans (hb9.mono hg8.size)
    try show K _ _
    refine hK.out _ _ (Or.inr (hS _ hg9)) ?_
    clear hK K
    try simp only [Act.put, List.setIfInBounds_toArray, List.set_cons_zero, List.set_cons_succ]
    refine late_take (i := 18) (v := ?_) (some 48) rfl rfl (by kernel_rfl) (by kernel_rfl) (by kernel_rfl) (by kernel_rfl) (fun _ _ _ h => h) (by kernel_rfl) (hS _ hg9) ?_ ?_
    rotate_left
    · (intro w hSw; (try dsimp only at hSw); go_simp; try rfl)
    try simp only [Act.put, List.setIfInBounds_toArray, List.set_cons_zero, List.set_cons_succ]
    refine late_take (i := 19) (v := ?_) (some 49) rfl rfl (by kernel_rfl) (by kernel_rfl) (by kernel_rfl) (by kernel_rfl) (fun _ _ _ h => h) (by kernel_rfl) (hS _ hg9) ?_ ?_
    rotate_left
    · (intro w hSw; (try dsimp only at hSw); go_simp; try rfl)
    try simp only [Act.put, List.setIfInBounds_toArray, List.set_cons_zero, List.set_cons_succ]
    refine late_one (i := 20) rfl (by kernel_rfl) ?_
    intro K hK
    go_simp
    refine (started_any _).mono ?_
    rintro e ws ⟨rfl, hbs⟩
    have hgs := hg9.trans (hbs.mono hg9.size)
    have hBs := hTB.trans (hgs.mono hTB.size)
    try show K _ _
    refine hK.out _ _ (Or.inr (hS _ hgs)) ?_
    clear hK K
    try simp only [Act.put, List.setIfInBounds_toArray, List.set_cons_zero, List.set_cons_succ]
    refine late_take (i := 21) (v := ?_) (some 51) rfl rfl (by kernel_rfl) (by kernel_rfl) (by kernel_rfl) (by kernel_rfl) (fun _ _ _ h => h) (by kernel_rfl) (hS _ hgs) ?_ ?_
    rotate_left
    · (intro w hSw; (try dsimp only at hSw); go_simp; try rfl)
    try simp only [Act.put, List.setIfInBounds_toArray, List.set_cons_zero, List.set_cons_succ]
    refine late_take (i := 22) (v := ?_) (some 4) rfl rfl (by kernel_rfl) (by kernel_rfl) (by kernel_rfl) (by kernel_rfl) (fun _ _ _ h => h) (by kernel_rfl) (hS _ hgs) ?_ ?_
    rotate_left
    · (intro w hSw; (try dsimp only at hSw); go_simp; try rfl)
    try simp only [Act.put, List.setIfInBounds_toArray, List.set_cons_zero, List.set_cons_succ]
    refine late_done (by kernel_rfl) ?_ _
    go_wp2_with fail
    go_meet
    exact ⟨rfl, hBs⟩
  case rest =>
    obtain ⟨rfl, hB⟩ := hcut
    go_wp2_with fail
    go_ret
    exact ⟨rfl, hB⟩
end Go.Proofs.YtpfbgenefjhcjaaGreatDoor
