/- law10.ZonoAdds. -/
import Derived.Test.YtpfbgenefjhcjaaGreatDoorZoTwo
import Derived.Test.YtpfbgenefjhcjaaGreatDoorZoAlike
import Derived.Test.YtpfbgenefjhcjaaGreatDoorZoPlus10
import Derived.Test.YtpfbgenefjhcjaaGreatDoorZoPlus
import Derived.Test.YtpfbgenefjhcjaaGreatDoorZoPlusK
namespace Go.Proofs.YtpfbgenefjhcjaaGreatDoor
set_option linter.unusedVariables false
set_option linter.unusedSimpArgs false
open Go Go.RowKit
set_option maxRecDepth 100000
theorem eqD_refl (us : List Nat) : eqD us us = true := (eqD_iff us us).2 ⟨rfl, fun _ _ => rfl⟩
theorem sameB_refl (a : ZD) : sameB a a = true := by
 unfold sameB
 cases hg : goodD a with
 | true =>
  rw [if_pos ⟨rfl, rfl⟩]
  unfold sameG sameAt
  simp [eqD_refl]
 | false => simp
theorem LaidAt.zis {w : World} {base : Nat} {v : Value} {z : ZD} (h : LaidAt w base v z) (hk : ZOk z) : ZIs w v z := h.cells hk
set_option maxHeartbeats 16000000 in
theorem adds_any (w : World) (v : Value) (a : ZD) (h : ZIn w v a) (v' : Value) (b : ZD) (h' : ZIn w v' b) : Calls Tryz.prog 12 #[v, v'] w fun e w' => e = .returned (.bool true) ∧ Below w.heap.size w w' := by
 obtain ⟨A, B, C, D, kA, kB, kC, kD, rfl, hc, hk, hgn⟩ := h
 obtain ⟨A0, B0, C0, D0, kA0, kB0, kC0, kD0, rfl, hc0, hk0, hgn0⟩ := h'
 obtain ⟨f0, f1, f2, f3⟩ := two_blocks w (.cells #[.int .i64 a.n, .slice A a.c.length kA, .slice B a.ids.length kB, .slice C a.g.length kC, .slice D a.r.length kD, .bool a.bad] 26) (.cells #[.int .i64 b.n, .slice A0 b.c.length kA0, .slice B0 b.ids.length kB0, .slice C0 b.g.length kC0, .slice D0 b.r.length kD0, .bool b.bad] 26)
 have hofA := fun W (hb : Below w.heap.size w W) => Of10_any W _ a ⟨A, B, C, D, kA, kB, kC, kD, rfl, hc.below hb⟩ hk
 have hofB := fun W (hb : Below w.heap.size w W) => Of10_any W _ b ⟨A0, B0, C0, D0, kA0, kB0, kC0, kD0, rfl, hc0.below hb⟩ hk0
 have hldA := fun W (hb : Below w.heap.size w W) => Laid_any W A B C D kA kB kC kD a (hc.below hb) (hgn.below hc.g hb) hk
 have hldB := fun W (hb : Below w.heap.size w W) => Laid_any W A0 B0 C0 D0 kA0 kB0 kC0 kD0 b (hc0.below hb) (hgn0.below hc0.g hb) hk0
 unfold zval at hofA hofB hldA hldB ⊢
 go_enter Tryz.func12, Tryz.ntmps12
 go_upto_region 1 with fail
 have ma0 : ZB _ w.heap.size (.int .i64 a.n) (.slice A a.c.length kA) (.slice B a.ids.length kB) (.slice C a.g.length kC) (.slice D a.r.length kD) (.bool a.bad) := f0
 have mb0 : ZB _ (w.heap.size + 1) (.int .i64 b.n) (.slice A0 b.c.length kA0) (.slice B0 b.ids.length kB0) (.slice C0 b.g.length kC0) (.slice D0 b.r.length kD0) (.bool b.bad) := f1
 have hB := f3
 clear f0 f1 f2 f3
 generalize (w.alloc (.cells #[.int .i64 a.n, .slice A a.c.length kA, .slice B a.ids.length kB, .slice C a.g.length kC, .slice D a.r.length kD, .bool a.bad] 26)).alloc (.cells #[.int .i64 b.n, .slice A0 b.c.length kA0, .slice B0 b.ids.length kB0, .slice C0 b.g.length kC0, .slice D0 b.r.length kD0, .bool b.bad] 26) = W0 at *
 generalize w.heap.size + 1 = c1 at *
 generalize hc00 : w.heap.size = c0 at ma0 ⊢
 clear hc00
 obtain ⟨x0, x1, x2, x3, x4, x5⟩ := cells6 ma0
 have hcl := hofA _ hB
 unfold zval at hcl
 go_wp2_with fail
 refine hcl.mono ?_
 rintro e w1 ⟨v1, rfl, ⟨A1, B1, C1, D1, kA1, kB1, kC1, kD1, rfl, hu⟩, hb⟩
 clear hcl x0 x1 x2 x3 x4 x5
 unfold zval
 have hx := hb.trans ((below_alloc w1 (.cells #[.int .i64 a.n, .slice A1 a.c.length kA1, .slice B1 a.ids.length kB1, .slice C1 a.g.length kC1, .slice D1 a.r.length kD1, .bool a.bad] 30)).mono hb.size)
 have ma1 := UB.new w1 (.int .i64 a.n) (.slice A1 a.c.length kA1) (.slice B1 a.ids.length kB1) (.slice C1 a.g.length kC1) (.slice D1 a.r.length kD1) (.bool a.bad)
 have hu1 := hu.below (below_alloc w1 (.cells #[.int .i64 a.n, .slice A1 a.c.length kA1, .slice B1 a.ids.length kB1, .slice C1 a.g.length kC1, .slice D1 a.r.length kD1, .bool a.bad] 30))
 replace ma0 := ma0.below hx
 replace mb0 := mb0.below hx
 replace hB := hB.trans (hx.mono hB.size)
 go_upto_region 2 with fail
 generalize w1.alloc (.cells #[.int .i64 a.n, .slice A1 a.c.length kA1, .slice B1 a.ids.length kB1, .slice C1 a.g.length kC1, .slice D1 a.r.length kD1, .bool a.bad] 30) = W1 at *
 generalize w1.heap.size = c2 at *
 clear hb hx hu w1
 obtain ⟨x0, x1, x2, x3, x4, x5⟩ := cells6 mb0
 have hcl := hofB _ hB
 unfold zval at hcl
 go_wp2_with fail
 refine hcl.mono ?_
 rintro e w2 ⟨v1, rfl, ⟨A2, B2, C2, D2, kA2, kB2, kC2, kD2, rfl, hu⟩, hb⟩
 clear hcl x0 x1 x2 x3 x4 x5
 unfold zval
 have hx := hb.trans ((below_alloc w2 (.cells #[.int .i64 b.n, .slice A2 b.c.length kA2, .slice B2 b.ids.length kB2, .slice C2 b.g.length kC2, .slice D2 b.r.length kD2, .bool b.bad] 30)).mono hb.size)
 have mb1 := UB.new w2 (.int .i64 b.n) (.slice A2 b.c.length kA2) (.slice B2 b.ids.length kB2) (.slice C2 b.g.length kC2) (.slice D2 b.r.length kD2) (.bool b.bad)
 have hu2 := hu.below (below_alloc w2 (.cells #[.int .i64 b.n, .slice A2 b.c.length kA2, .slice B2 b.ids.length kB2, .slice C2 b.g.length kC2, .slice D2 b.r.length kD2, .bool b.bad] 30))
 replace ma0 := ma0.below hx
 replace mb0 := mb0.below hx
 replace ma1 := ma1.below hx
 replace hu1 := hu1.below hx
 replace hB := hB.trans (hx.mono hB.size)
 go_upto_region 3 with fail
 generalize w2.alloc (.cells #[.int .i64 b.n, .slice A2 b.c.length kA2, .slice B2 b.ids.length kB2, .slice C2 b.g.length kC2, .slice D2 b.r.length kD2, .bool b.bad] 30) = W2 at *
 generalize w2.heap.size = c3 at *
 clear hb hx hu w2
 obtain ⟨x0, x1, x2, x3, x4, x5⟩ := cells6 ma0
 have hcl := hldA _ hB
 unfold zval at hcl
 go_wp2_with fail
 refine hcl.mono ?_
 rintro e w3 ⟨v1, ba, rfl, _, hL, hb⟩
 clear hcl x0 x1 x2 x3 x4 x5
 obtain ⟨A3, B3, C3, D3, kA3, kB3, kC3, kD3, rfl⟩ := hL.form
 have hx := hb.trans ((below_alloc w3 (.cells #[.int .i64 a.n, .slice A3 a.c.length kA3, .slice B3 a.ids.length kB3, .slice C3 a.g.length kC3, .slice D3 a.r.length kD3, .bool a.bad] 26)).mono hb.size)
 have ma2 := ZB.new w3 (.int .i64 a.n) (.slice A3 a.c.length kA3) (.slice B3 a.ids.length kB3) (.slice C3 a.g.length kC3) (.slice D3 a.r.length kD3) (.bool a.bad)
 have hL3 := hL.below (below_alloc w3 (.cells #[.int .i64 a.n, .slice A3 a.c.length kA3, .slice B3 a.ids.length kB3, .slice C3 a.g.length kC3, .slice D3 a.r.length kD3, .bool a.bad] 26))
 replace ma0 := ma0.below hx
 replace mb0 := mb0.below hx
 replace ma1 := ma1.below hx
 replace hu1 := hu1.below hx
 replace mb1 := mb1.below hx
 replace hu2 := hu2.below hx
 replace hB := hB.trans (hx.mono hB.size)
 go_upto_region 4 with fail
 generalize w3.alloc (.cells #[.int .i64 a.n, .slice A3 a.c.length kA3, .slice B3 a.ids.length kB3, .slice C3 a.g.length kC3, .slice D3 a.r.length kD3, .bool a.bad] 26) = W3 at *
 generalize w3.heap.size = c4 at *
 clear hb hx hL w3
 obtain ⟨x0, x1, x2, x3, x4, x5⟩ := cells6 mb0
 have hcl := hldB _ hB
 unfold zval at hcl
 go_wp2_with fail
 refine hcl.mono ?_
 rintro e w4 ⟨v1, bb, rfl, _, hL, hb⟩
 clear hcl x0 x1 x2 x3 x4 x5
 obtain ⟨A4, B4, C4, D4, kA4, kB4, kC4, kD4, rfl⟩ := hL.form
 have hx := hb.trans ((below_alloc w4 (.cells #[.int .i64 b.n, .slice A4 b.c.length kA4, .slice B4 b.ids.length kB4, .slice C4 b.g.length kC4, .slice D4 b.r.length kD4, .bool b.bad] 26)).mono hb.size)
 have mb2 := ZB.new w4 (.int .i64 b.n) (.slice A4 b.c.length kA4) (.slice B4 b.ids.length kB4) (.slice C4 b.g.length kC4) (.slice D4 b.r.length kD4) (.bool b.bad)
 have hL4 := hL.below (below_alloc w4 (.cells #[.int .i64 b.n, .slice A4 b.c.length kA4, .slice B4 b.ids.length kB4, .slice C4 b.g.length kC4, .slice D4 b.r.length kD4, .bool b.bad] 26))
 replace ma0 := ma0.below hx
 replace mb0 := mb0.below hx
 replace ma1 := ma1.below hx
 replace hu1 := hu1.below hx
 replace mb1 := mb1.below hx
 replace hu2 := hu2.below hx
 replace ma2 := ma2.below hx
 replace hL3 := hL3.below hx
 replace hB := hB.trans (hx.mono hB.size)
 go_upto_region 5 with fail
 generalize w4.alloc (.cells #[.int .i64 b.n, .slice A4 b.c.length kA4, .slice B4 b.ids.length kB4, .slice C4 b.g.length kC4, .slice D4 b.r.length kD4, .bool b.bad] 26) = W4 at *
 generalize w4.heap.size = c5 at *
 clear hb hx hL w4
 have hok := plusD_ok (b := b) hk
 have h10 := fun W (hb : Below W4.heap.size W4 W) => Plus10_any W _ _ a b ⟨A1, B1, C1, D1, kA1, kB1, kC1, kD1, rfl, hu1.below hb⟩ ⟨A2, B2, C2, D2, kA2, kB2, kC2, kD2, rfl, hu2.below hb⟩ hk hk0
 have hpl := Plus_any W4 _ _ a b (hL3.zis hk) (hL4.zis hk0) hk hk0
 unfold TellsBU zval at h10
 unfold zval at hpl
 generalize plusD a b = y at h10 hpl hok
 have hB45 := Below.refl W4.heap.size W4
 obtain ⟨x0, x1, x2, x3, x4, x5⟩ := cells6 ma2
 obtain ⟨y0, y1, y2, y3, y4, y5⟩ := cells6 mb2
 have hcl := hpl
 go_wp2_with fail
 refine hcl.mono ?_
 rintro e w5 ⟨v1, rfl, hv, hb⟩
 clear hcl x0 x1 x2 x3 x4 x5 y0 y1 y2 y3 y4 y5
 obtain ⟨A5, B5, C5, D5, kA5, kB5, kC5, kD5, rfl, hy⟩ := hv.is
 unfold zval
 have hx := hb.trans ((below_alloc w5 (.cells #[.int .i64 y.n, .slice A5 y.c.length kA5, .slice B5 y.ids.length kB5, .slice C5 y.g.length kC5, .slice D5 y.r.length kD5, .bool y.bad] 26)).mono hb.size)
 have kY := ZB.new w5 (.int .i64 y.n) (.slice A5 y.c.length kA5) (.slice B5 y.ids.length kB5) (.slice C5 y.g.length kC5) (.slice D5 y.r.length kD5) (.bool y.bad)
 have hy5 := hy.below (below_alloc w5 (.cells #[.int .i64 y.n, .slice A5 y.c.length kA5, .slice B5 y.ids.length kB5, .slice C5 y.g.length kC5, .slice D5 y.r.length kD5, .bool y.bad] 26))
 replace ma0 := ma0.below hx
 replace mb0 := mb0.below hx
 replace ma1 := ma1.below hx
 replace hu1 := hu1.below hx
 replace mb1 := mb1.below hx
 replace hu2 := hu2.below hx
 replace ma2 := ma2.below hx
 replace hL3 := hL3.below hx
 replace mb2 := mb2.below hx
 replace hL4 := hL4.below hx
 replace hB := hB.trans (hx.mono hB.size)
 go_upto_region 6 with fail
 have hX0 := hx
 generalize w5.alloc (.cells #[.int .i64 y.n, .slice A5 y.c.length kA5, .slice B5 y.ids.length kB5, .slice C5 y.g.length kC5, .slice D5 y.r.length kD5, .bool y.bad] 26) = W5 at *
 generalize w5.heap.size = c6 at *
 clear hb hx hy hv w5
 have hsb := fun W (hb : Below W5.heap.size W5 W) => same_any W _ _ a b ((hL3.below hb).zis hk) ((hL4.below hb).zis hk0) hk hk0
 have hsa := fun W (hb : Below W5.heap.size W5 W) => same_any W _ _ a a ((hL3.below hb).zis hk) ⟨A, B, C, D, kA, kB, kC, kD, rfl, hc.below (hB.trans (hb.mono hB.size))⟩ hk hk
 have hal := fun W (hb : Below W5.heap.size W5 W) => Alike_any W _ _ a b ⟨A1, B1, C1, D1, kA1, kB1, kC1, kD1, rfl, hu1.below hb⟩ ⟨A2, B2, C2, D2, kA2, kB2, kC2, kD2, rfl, hu2.below hb⟩ hk hk0
 have hs10 := fun W (hb : Below W5.heap.size W5 W) A6 B6 C6 D6 kA6 kB6 kC6 kD6 h6 => Same10_yes W A5 B5 C5 D5 A6 B6 C6 D6 kA5 kB5 kC5 kD5 kA6 kB6 kC6 kD6 y (hy5.below hb) h6 hok
 have hh1 := fun W (hb : Below W5.heap.size W5 W) => Held_any W ba _ _ a (hL3.below hb) ⟨A1, B1, C1, D1, kA1, kB1, kC1, kD1, rfl, hu1.below hb⟩ hk
 have hh2 := fun W (hb : Below W5.heap.size W5 W) => Held_any W bb _ _ b (hL4.below hb) ⟨A2, B2, C2, D2, kA2, kB2, kC2, kD2, rfl, hu2.below hb⟩ hk0
 replace h10 := fun W (hb : Below W5.heap.size W5 W) => h10 W (hX0.trans (hb.mono hX0.size))
 unfold zval at hsb hsa hal hs10 hh1 hh2
 rw [sameB_refl] at hsa
 generalize sameB a b = sb at hsb hal
 have hsbb : (sb != sb) = false := bne_self_eq_false _
 have hS : ∀ W', Below W5.heap.size W5 W' → (fun w' => (w'.cell? ⟨c6, 0, none⟩ = some (.int .i64 y.n) ∧ w'.cell? ⟨c6, 1, none⟩ = some (.slice A5 y.c.length kA5) ∧ w'.cell? ⟨c6, 2, none⟩ = some (.slice B5 y.ids.length kB5) ∧ w'.cell? ⟨c6, 3, none⟩ = some (.slice C5 y.g.length kC5) ∧ w'.cell? ⟨c6, 4, none⟩ = some (.slice D5 y.r.length kD5) ∧ w'.cell? ⟨c6, 5, none⟩ = some (.bool y.bad)) ∧ (w'.cell? ⟨c2, 0, none⟩ = some (.int .i64 a.n) ∧ w'.cell? ⟨c2, 1, none⟩ = some (.slice A1 a.c.length kA1) ∧ w'.cell? ⟨c2, 2, none⟩ = some (.slice B1 a.ids.length kB1) ∧ w'.cell? ⟨c2, 3, none⟩ = some (.slice C1 a.g.length kC1) ∧ w'.cell? ⟨c2, 4, none⟩ = some (.slice D1 a.r.length kD1) ∧ w'.cell? ⟨c2, 5, none⟩ = some (.bool a.bad)) ∧ (w'.cell? ⟨c3, 0, none⟩ = some (.int .i64 b.n) ∧ w'.cell? ⟨c3, 1, none⟩ = some (.slice A2 b.c.length kA2) ∧ w'.cell? ⟨c3, 2, none⟩ = some (.slice B2 b.ids.length kB2) ∧ w'.cell? ⟨c3, 3, none⟩ = some (.slice C2 b.g.length kC2) ∧ w'.cell? ⟨c3, 4, none⟩ = some (.slice D2 b.r.length kD2) ∧ w'.cell? ⟨c3, 5, none⟩ = some (.bool b.bad)) ∧ (w'.cell? ⟨c4, 0, none⟩ = some (.int .i64 a.n) ∧ w'.cell? ⟨c4, 1, none⟩ = some (.slice A3 a.c.length kA3) ∧ w'.cell? ⟨c4, 2, none⟩ = some (.slice B3 a.ids.length kB3) ∧ w'.cell? ⟨c4, 3, none⟩ = some (.slice C3 a.g.length kC3) ∧ w'.cell? ⟨c4, 4, none⟩ = some (.slice D3 a.r.length kD3) ∧ w'.cell? ⟨c4, 5, none⟩ = some (.bool a.bad)) ∧ (w'.cell? ⟨c5, 0, none⟩ = some (.int .i64 b.n) ∧ w'.cell? ⟨c5, 1, none⟩ = some (.slice A4 b.c.length kA4) ∧ w'.cell? ⟨c5, 2, none⟩ = some (.slice B4 b.ids.length kB4) ∧ w'.cell? ⟨c5, 3, none⟩ = some (.slice C4 b.g.length kC4) ∧ w'.cell? ⟨c5, 4, none⟩ = some (.slice D4 b.r.length kD4) ∧ w'.cell? ⟨c5, 5, none⟩ = some (.bool b.bad)) ∧ (w'.cell? ⟨c0, 0, none⟩ = some (.int .i64 a.n) ∧ w'.cell? ⟨c0, 1, none⟩ = some (.slice A a.c.length kA) ∧ w'.cell? ⟨c0, 2, none⟩ = some (.slice B a.ids.length kB) ∧ w'.cell? ⟨c0, 3, none⟩ = some (.slice C a.g.length kC) ∧ w'.cell? ⟨c0, 4, none⟩ = some (.slice D a.r.length kD) ∧ w'.cell? ⟨c0, 5, none⟩ = some (.bool a.bad))) W' := fun W' hb => ⟨cells6 (kY.below hb), (ma1.below hb).cells, (mb1.below hb).cells, cells6 (ma2.below hb), cells6 (mb2.below hb), cells6 (ma0.below hb)⟩
 have hd := (Below.refl W5.heap.size W5).drew
 refine late_begin (fun w' => (w'.cell? ⟨c6, 0, none⟩ = some (.int .i64 y.n) ∧ w'.cell? ⟨c6, 1, none⟩ = some (.slice A5 y.c.length kA5) ∧ w'.cell? ⟨c6, 2, none⟩ = some (.slice B5 y.ids.length kB5) ∧ w'.cell? ⟨c6, 3, none⟩ = some (.slice C5 y.g.length kC5) ∧ w'.cell? ⟨c6, 4, none⟩ = some (.slice D5 y.r.length kD5) ∧ w'.cell? ⟨c6, 5, none⟩ = some (.bool y.bad)) ∧ (w'.cell? ⟨c2, 0, none⟩ = some (.int .i64 a.n) ∧ w'.cell? ⟨c2, 1, none⟩ = some (.slice A1 a.c.length kA1) ∧ w'.cell? ⟨c2, 2, none⟩ = some (.slice B1 a.ids.length kB1) ∧ w'.cell? ⟨c2, 3, none⟩ = some (.slice C1 a.g.length kC1) ∧ w'.cell? ⟨c2, 4, none⟩ = some (.slice D1 a.r.length kD1) ∧ w'.cell? ⟨c2, 5, none⟩ = some (.bool a.bad)) ∧ (w'.cell? ⟨c3, 0, none⟩ = some (.int .i64 b.n) ∧ w'.cell? ⟨c3, 1, none⟩ = some (.slice A2 b.c.length kA2) ∧ w'.cell? ⟨c3, 2, none⟩ = some (.slice B2 b.ids.length kB2) ∧ w'.cell? ⟨c3, 3, none⟩ = some (.slice C2 b.g.length kC2) ∧ w'.cell? ⟨c3, 4, none⟩ = some (.slice D2 b.r.length kD2) ∧ w'.cell? ⟨c3, 5, none⟩ = some (.bool b.bad)) ∧ (w'.cell? ⟨c4, 0, none⟩ = some (.int .i64 a.n) ∧ w'.cell? ⟨c4, 1, none⟩ = some (.slice A3 a.c.length kA3) ∧ w'.cell? ⟨c4, 2, none⟩ = some (.slice B3 a.ids.length kB3) ∧ w'.cell? ⟨c4, 3, none⟩ = some (.slice C3 a.g.length kC3) ∧ w'.cell? ⟨c4, 4, none⟩ = some (.slice D3 a.r.length kD3) ∧ w'.cell? ⟨c4, 5, none⟩ = some (.bool a.bad)) ∧ (w'.cell? ⟨c5, 0, none⟩ = some (.int .i64 b.n) ∧ w'.cell? ⟨c5, 1, none⟩ = some (.slice A4 b.c.length kA4) ∧ w'.cell? ⟨c5, 2, none⟩ = some (.slice B4 b.ids.length kB4) ∧ w'.cell? ⟨c5, 3, none⟩ = some (.slice C4 b.g.length kC4) ∧ w'.cell? ⟨c5, 4, none⟩ = some (.slice D4 b.r.length kD4) ∧ w'.cell? ⟨c5, 5, none⟩ = some (.bool b.bad)) ∧ (w'.cell? ⟨c0, 0, none⟩ = some (.int .i64 a.n) ∧ w'.cell? ⟨c0, 1, none⟩ = some (.slice A a.c.length kA) ∧ w'.cell? ⟨c0, 2, none⟩ = some (.slice B a.ids.length kB) ∧ w'.cell? ⟨c0, 3, none⟩ = some (.slice C a.g.length kC) ∧ w'.cell? ⟨c0, 4, none⟩ = some (.slice D a.r.length kD) ∧ w'.cell? ⟨c0, 5, none⟩ = some (.bool a.bad))) [] (by kernel_rfl) ?_
 refine lateT 0 (some 21) rfl rfl (hS _ hd) ?_
 try simp only [Act.put, lA, lZ, lC]
 refine lateT 1 (some 22) rfl rfl (hS _ hd) ?_
 try simp only [Act.put, lA, lZ, lC]
 refine lateT 2 (some 23) rfl rfl (hS _ hd) ?_
 try simp only [Act.put, lA, lZ, lC]
 refine late_one (i := 3) rfl (by kernel_rfl) ?_
 intro K hK
 go_simp
 refine (h10 _ hd).mono ?_
 rintro e v3 ⟨vu, rfl, ⟨A6, B6, C6, D6, kA6, kB6, kC6, kD6, rfl, hc6⟩, hb3⟩
 unfold zval
 have g3 := hd.trans (hb3.mono hd.size)
 try show K _ _
 refine hK.out _ _ (Or.inr (hS _ g3)) ?_
 clear hK K
 try simp only [Act.put, lA, lZ, lC]
 refine late_one (i := 4) rfl (by kernel_rfl) ?_
 intro K hK
 go_simp
 refine (hs10 _ g3 _ _ _ _ _ _ _ _ hc6).mono ?_
 rintro e v4 ⟨rfl, hb4⟩
 have g4 := g3.trans (hb4.mono g3.size)
 try show K _ _
 refine hK.out _ _ (Or.inr (hS _ g4)) ?_
 clear hK K
 try simp only [Act.put, lA, lZ, lC]
 refine lateT 5 (some 26) rfl rfl (hS _ g4) ?_
 try simp only [Act.put, lA, lZ, lC]
 refine lateT 6 (some 27) rfl rfl (hS _ g4) ?_
 try simp only [Act.put, lA, lZ, lC]
 refine lateT 7 (some 28) rfl rfl (hS _ g4) ?_
 try simp only [Act.put, lA, lZ, lC]
 refine lateT 8 (some 29) rfl rfl (hS _ g4) ?_
 try simp only [Act.put, lA, lZ, lC]
 refine lateT 10 (some 31) rfl rfl (hS _ g4) ?_
 try simp only [Act.put, lA, lZ, lC]
 refine lateT 11 (some 32) rfl rfl (hS _ g4) ?_
 try simp only [Act.put, lA, lZ, lC]
 refine late_one (i := 9) rfl (by kernel_rfl) ?_
 intro K hK
 go_simp
 refine (hsb _ g4).mono ?_
 rintro e v9 ⟨rfl, hb9⟩
 have g9 := g4.trans (hb9.mono g4.size)
 try show K _ _
 refine hK.out _ _ (Or.inr (hS _ g9)) ?_
 clear hK K
 try simp only [Act.put, lA, lZ, lC]
 refine late_one (i := 12) rfl (by kernel_rfl) ?_
 intro K hK
 go_simp
 refine (hal _ g9).mono ?_
 rintro e v12 ⟨rfl, hb12⟩
 have g12 := g9.trans (hb12.mono g9.size)
 try show K _ _
 refine hK.out _ _ (Or.inr (hS _ g12)) ?_
 clear hK K
 try simp only [Act.put, lA, lZ, lC]
 refine lateT 13 (some 34) rfl rfl (hS _ g12) ?_
 try simp only [Act.put, lA, lZ, lC]
 refine lateT 14 (some 35) rfl rfl (hS _ g12) ?_
 try simp only [Act.put, lA, lZ, lC]
 refine lateT 15 (some 36) rfl rfl (hS _ g12) ?_
 try simp only [Act.put, lA, lZ, lC]
 refine lateT 16 (some 37) rfl rfl (hS _ g12) ?_
 try simp only [Act.put, lA, lZ, lC]
 refine lateT 17 (some 38) rfl rfl (hS _ g12) ?_
 try simp only [Act.put, lA, lZ, lC]
 refine late_one (i := 18) rfl (by kernel_rfl) ?_
 intro K hK
 go_simp
 refine (hsa _ g12).mono ?_
 rintro e v18 ⟨rfl, hb18⟩
 have g18 := g12.trans (hb18.mono g12.size)
 try show K _ _
 refine hK.out _ _ (Or.inr (hS _ g18)) ?_
 clear hK K
 try simp only [Act.put, lA, lZ, lC]
 refine lateT 19 (some 40) rfl rfl (hS _ g18) ?_
 try simp only [Act.put, lA, lZ, lC]
 refine lateT 20 (some 41) rfl rfl (hS _ g18) ?_
 try simp only [Act.put, lA, lZ, lC]
 refine late_done (by kernel_rfl) ?_ _
 have HF := g18
 clear hS hd
 obtain ⟨x0, x1, x2, x3, x4, x5⟩ := cells6 (ma2.below HF)
 obtain ⟨y0, y1, y2, y3, y4, y5⟩ := (ma1.below HF).cells
 have hcl := hh1 _ HF
 go_wp2_with fail
 refine hcl.mono ?_
 rintro e u1 ⟨rfl, hb⟩
 have HF2 := HF.trans (hb.mono HF.size)
 clear x0 x1 x2 x3 x4 x5 y0 y1 y2 y3 y4 y5 hcl
 obtain ⟨x0, x1, x2, x3, x4, x5⟩ := cells6 (mb2.below HF2)
 obtain ⟨y0, y1, y2, y3, y4, y5⟩ := (mb1.below HF2).cells
 have hcl := hh2 _ HF2
 go_wp2_with fail
 refine hcl.mono ?_
 rintro e u2 ⟨rfl, hb⟩
 have HF3 := HF2.trans (hb.mono HF2.size)
 clear x0 x1 x2 x3 x4 x5 y0 y1 y2 y3 y4 y5 hcl
 go_wp2_with fail
 refine (started_any _).mono ?_
 rintro e u3 ⟨rfl, hb⟩
 have HF4 := HF3.trans (hb.mono HF3.size)
 go_wp2_with fail
 go_ret
 exact ⟨rfl, hB.trans (HF4.mono hB.size)⟩
end Go.Proofs.YtpfbgenefjhcjaaGreatDoor
