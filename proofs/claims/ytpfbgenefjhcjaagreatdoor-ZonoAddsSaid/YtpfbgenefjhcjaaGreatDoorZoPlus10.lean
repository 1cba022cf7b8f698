/- ambitref10.Plus. -/
import Derived.Test.YtpfbgenefjhcjaaGreatDoorZoSumC
import Derived.Test.YtpfbgenefjhcjaaGreatDoorZoBox10
namespace Go.Proofs.YtpfbgenefjhcjaaGreatDoor
set_option linter.unusedVariables false
set_option linter.unusedSimpArgs false
open Go Go.RowKit
attribute [local go_sem] Oper.semAt_some
set_option maxRecDepth 100000
set_option maxHeartbeats 32000000 in
theorem Plus10_any (w : World) (va vb : Value) (a b : ZD) (ha : UIs w va a) (hb : UIs w vb b) (ka : ZOk a) (kb : ZOk b) :
  Calls Tryz.prog 55 #[va, vb] w fun e w' => TellsBU w (plusD a b) e w' := by
 unfold TellsBU
 obtain ⟨A, B, C, D, kA, kB, kC, kD, rfl, hc⟩ := ha
 obtain ⟨A2, B2, C2, D2, kA2, kB2, kC2, kD2, rfl, hc2⟩ := hb
 obtain ⟨f0, f1, f2, f3, f4⟩ := three_blocks w (.cells #[.int .i64 a.n, .slice A a.c.length kA, .slice B a.ids.length kB, .slice C a.g.length kC, .slice D a.r.length kD, .bool a.bad] 30) (.cells #[.int .i64 b.n, .slice A2 b.c.length kA2, .slice B2 b.ids.length kB2, .slice C2 b.g.length kC2, .slice D2 b.r.length kD2, .bool b.bad] 30) (.cells #[.int .i64 0, .slice none 0 0, .slice none 0 0, .slice none 0 0, .slice none 0 0, .bool false] 30)
 obtain ⟨sa, hsa⟩ : ∃ s, sizeD a = s := ⟨_, rfl⟩
 obtain ⟨sb, hsb⟩ : ∃ s, sizeD b = s := ⟨_, rfl⟩
 obtain ⟨sm, hsm0⟩ : ∃ s, sameSize a b = s := ⟨_, rfl⟩
 have HSM := Lib.hid (show sm = if sa = sb then sa else 0 by rw [← hsm0, ← hsa, ← hsb]; rfl)
 have HSM0 := Lib.hid hsm0
 have hsA := fun W (hb : Below w.heap.size w W) => Size10_any W _ a ⟨A, B, C, D, kA, kB, kC, kD, rfl, hc.below hb⟩ ka
 have hsB := fun W (hb : Below w.heap.size w W) => Size10_any W _ b ⟨A2, B2, C2, D2, kA2, kB2, kC2, kD2, rfl, hc2.below hb⟩ kb
 have hrA := fun W (hb : Below w.heap.size w W) => Reals_any W _ a ⟨A, B, C, D, kA, kB, kC, kD, rfl, hc.below hb⟩ ka
 have hrB := fun W (hb : Below w.heap.size w W) => Reals_any W _ b ⟨A2, B2, C2, D2, kA2, kB2, kC2, kD2, rfl, hc2.below hb⟩ kb
 unfold zval at hsA hsB hrA hrB
 rw [hsa] at hsA
 rw [hsb] at hsB
 clear hsa hsb hsm0
 unfold zval
 go_enter Tryz.func55, Tryz.ntmps55
 go_upto_region 2 with fail
 generalize ((w.alloc (.cells #[.int .i64 a.n, .slice A a.c.length kA, .slice B a.ids.length kB, .slice C a.g.length kC, .slice D a.r.length kD, .bool a.bad] 30)).alloc (.cells #[.int .i64 b.n, .slice A2 b.c.length kA2, .slice B2 b.ids.length kB2, .slice C2 b.g.length kC2, .slice D2 b.r.length kD2, .bool b.bad] 30)).alloc (.cells #[.int .i64 0, .slice none 0 0, .slice none 0 0, .slice none 0 0, .slice none 0 0, .bool false] 30) = W1 at *
 obtain ⟨h0, e0⟩ : ∃ h, w.heap.size = h := ⟨_, rfl⟩
 rw [e0] at f0 f1 f2 f3 ⊢
 obtain ⟨h1, e1⟩ : ∃ h, h0 + 1 = h := ⟨_, rfl⟩
 rw [e1] at f1 f2 f3 ⊢
 obtain ⟨h2, e2⟩ : ∃ h, h1 + 1 = h := ⟨_, rfl⟩
 rw [e2] at f2 f3 ⊢
 have k0 : UB W1 h0 _ _ _ _ _ _ := f0
 have k1 : UB W1 h1 _ _ _ _ _ _ := f1
 have k2 : UB W1 h2 _ _ _ _ _ _ := f2
 have hB1 := f4
 have HS1 := Lib.hid f3
 have hh2 : w.heap.size ≤ h2 := by omega
 replace hsA := fun W (hb : Below W1.heap.size W1 W) => hsA W (hB1.trans (hb.mono hB1.size))
 replace hsB := fun W (hb : Below W1.heap.size W1 W) => hsB W (hB1.trans (hb.mono hB1.size))
 replace hrA := fun W (hb : Below W1.heap.size W1 W) => hrA W (hB1.trans (hb.mono hB1.size))
 replace hrB := fun W (hb : Below W1.heap.size W1 W) => hrB W (hB1.trans (hb.mono hB1.size))
 clear f0 f1 f2 f3 f4 e0 e1 e2
 have hS : ∀ W', Below W1.heap.size W1 W' → (fun w' => (w'.cell? ⟨h0, 0, none⟩ = some (.int .i64 a.n) ∧ w'.cell? ⟨h0, 1, none⟩ = some (.slice A a.c.length kA) ∧ w'.cell? ⟨h0, 2, none⟩ = some (.slice B a.ids.length kB) ∧ w'.cell? ⟨h0, 3, none⟩ = some (.slice C a.g.length kC) ∧ w'.cell? ⟨h0, 4, none⟩ = some (.slice D a.r.length kD) ∧ w'.cell? ⟨h0, 5, none⟩ = some (.bool a.bad)) ∧ (w'.cell? ⟨h1, 0, none⟩ = some (.int .i64 b.n) ∧ w'.cell? ⟨h1, 1, none⟩ = some (.slice A2 b.c.length kA2) ∧ w'.cell? ⟨h1, 2, none⟩ = some (.slice B2 b.ids.length kB2) ∧ w'.cell? ⟨h1, 3, none⟩ = some (.slice C2 b.g.length kC2) ∧ w'.cell? ⟨h1, 4, none⟩ = some (.slice D2 b.r.length kD2) ∧ w'.cell? ⟨h1, 5, none⟩ = some (.bool b.bad))) W' := fun W' hb => ⟨(UB.below k0 hb).cells, (UB.below k1 hb).cells⟩
 have hd := (Below.refl W1.heap.size W1).drew
 refine late_begin (fun w' => (w'.cell? ⟨h0, 0, none⟩ = some (.int .i64 a.n) ∧ w'.cell? ⟨h0, 1, none⟩ = some (.slice A a.c.length kA) ∧ w'.cell? ⟨h0, 2, none⟩ = some (.slice B a.ids.length kB) ∧ w'.cell? ⟨h0, 3, none⟩ = some (.slice C a.g.length kC) ∧ w'.cell? ⟨h0, 4, none⟩ = some (.slice D a.r.length kD) ∧ w'.cell? ⟨h0, 5, none⟩ = some (.bool a.bad)) ∧ (w'.cell? ⟨h1, 0, none⟩ = some (.int .i64 b.n) ∧ w'.cell? ⟨h1, 1, none⟩ = some (.slice A2 b.c.length kA2) ∧ w'.cell? ⟨h1, 2, none⟩ = some (.slice B2 b.ids.length kB2) ∧ w'.cell? ⟨h1, 3, none⟩ = some (.slice C2 b.g.length kC2) ∧ w'.cell? ⟨h1, 4, none⟩ = some (.slice D2 b.r.length kD2) ∧ w'.cell? ⟨h1, 5, none⟩ = some (.bool b.bad))) [] (by kernel_rfl) ?_
 refine lateT 0 (some 22) rfl rfl (hS _ hd) ?_
 try simp only [Act.put, lA, lZ, lC]
 refine lateT 2 (some 24) rfl rfl (hS _ hd) ?_
 try simp only [Act.put, lA, lZ, lC]
 refine late_one (i := 1) rfl (by kernel_rfl) ?_
 intro K hK
 go_simp
 refine (hsA _ hd).mono ?_
 rintro e w2 ⟨rfl, hb2⟩
 have f2 := hd.trans (hb2.mono hd.size)
 try show K _ _
 refine hK.out _ _ (Or.inr (hS _ f2)) ?_
 clear hK K
 try simp only [Act.put, lA, lZ, lC]
 refine late_one (i := 3) rfl (by kernel_rfl) ?_
 intro K hK
 go_simp
 refine (hsB _ f2).mono ?_
 rintro e w3 ⟨rfl, hb3⟩
 have f3 := f2.trans (hb3.mono f2.size)
 try show K _ _
 refine hK.out _ _ (Or.inr (hS _ f3)) ?_
 clear hK K
 try simp only [Act.put, lA, lZ, lC]
 refine lateT 4 (some 26) rfl rfl (hS _ f3) ?_
 try simp only [Act.put, lA, lZ, lC]
 refine late_done (by kernel_rfl) ?_ _
 clear hS hd hsB hb2 hb3 f2
 go_upto_if 26 with fail
 go_cut [5, 26] from 27 to 28 (fun v _ wx => v = .int .i64 sm ∧ Below W1.heap.size W1 wx)
 case first =>
  by_cases hs : sa = sb
  ·have hs' : (sa == sb) = true := beq_iff_eq.2 hs
   have HM := Lib.hid (show sm = sa by rw [HSM.out, if_pos hs])
   obtain ⟨y0, y1, y2, y3, y4, y5⟩ := (UB.below k0 f3).cells
   have hsa := hsA _ f3
   clear hs
   go_wp2_with fail
   refine hsa.mono ?_
   rintro e w4 ⟨rfl, hb4⟩
   have f4 := f3.trans (hb4.mono f3.size)
   clear hsa
   go_wp2_with fail
   go_meet
   case rel => exact ⟨by rw [HM.out], f4⟩
  ·have hs' : (sa == sb) = false := beq_eq_false_iff_ne.2 hs
   have HM := Lib.hid (show sm = 0 by rw [HSM.out, if_neg hs])
   go_wp2_with fail
   go_meet
   case rel => exact ⟨by rw [HM.out], f3⟩
 case rest =>
  obtain ⟨rfl, hB⟩ := hcut
  clear f3 hsA
  obtain ⟨y0, y1, y2, y3, y4, y5⟩ := (UB.below k0 hB).cells
  have hra := hrA _ hB
  go_wp2_with fail
  refine hra.mono ?_
  clear hra y0 y1 y2 y3 y4 y5
  rintro e w4 (⟨hga, v', rfl, ⟨A', B', C', D', kA', kB', kC', kD', rfl, hRx⟩, hb4⟩ | ⟨hga, rfl, hb4⟩)
  rotate_left
  ·have f4 := hB.trans (hb4.mono hB.size)
   have f5 := f4.trans ((below_alloc w4 (.cells #[.int .i64 0, .slice none 0 0, .slice none 0 0, .slice none 0 0, .slice none 0 0] 61)).mono f4.size)
   have r0 := heap_alloc_new w4 (.cells #[.int .i64 0, .slice none 0 0, .slice none 0 0, .slice none 0 0, .slice none 0 0] 61)
   have HE := Lib.hid (show plusD a b = lostZ sm by rw [plusD_no (fun h => absurd h.1 (by rw [hga]; decide)), HSM0.out])
   have hrb := hrB _ f5
   obtain ⟨y0, y1, y2, y3, y4, y5⟩ := (UB.below k1 f5).cells
   unfold noReal
   clear hrA hrB hga
   go_wp2_with fail
   refine hrb.mono ?_
   clear hrb y0 y1 y2 y3 y4 y5
   rintro e w6 (⟨_, v', rfl, ⟨A2', B2', C2', D2', kA2', kB2', kC2', kD2', rfl, hRy⟩, hb6⟩ | ⟨_, rfl, hb6⟩)
   ·have f6 := f5.trans (hb6.mono f5.size)
    have f7 := f6.trans ((below_alloc w6 (.cells #[.int .i64 b.n, .slice A2' b.c.length kA2', .slice B2' b.ids.length kB2', .slice C2' b.g.length kC2', .slice D2' b.r.length kD2'] 61)).mono f6.size)
    have k7 := UB.below k2 f7
    have hB7 := hB1.trans (f7.mono hB1.size)
    unfold rval
    clear hRy
    go_wp2_with fail
    have k8 := k7
    have hB8 := hB7
    have hlo := Lost10_any (w6.alloc (.cells #[.int .i64 b.n, .slice A2' b.c.length kA2', .slice B2' b.ids.length kB2', .slice C2' b.g.length kC2', .slice D2' b.r.length kD2'] 61)) sm
    unfold lostV at hlo
    go_wp2_with fail
    refine hlo.mono ?_
    rintro e w9 ⟨rfl, hb9⟩
    have k9 : UB w9 h2 _ _ _ _ _ _ := UB.below k8 hb9
    have hB9 := hB8.trans (hb9.mono hB8.size)
    obtain ⟨o0, o1, o2, o3, o4, o5⟩ := k9.cells
    have hfr9 := fun j => k9.frozen j
    clear hlo hb9
    go_wp2_with fail
    obtain ⟨q1, q2⟩ := k9.put (.int .i64 sm) (.slice none 0 0) (.slice none 0 0) (.slice none 0 0) (.slice none 0 0) (.bool true)
    obtain ⟨c0, c1, c2, c3, c4, c5⟩ := q1.cells
    refine bodyPost_ret (v := .agg #[.int .i64 sm, .slice none 0 0, .slice none 0 0, .slice none 0 0, .slice none 0 0, .bool true]) (by simp [results, Tryz.results55, go_sem, c0, c1, c2, c3, c4, c5]) rfl ?_
    rw [HE.out]
    exact ⟨_, rfl, lostV_uis _ _, hB9.trans (below_row q2 (by omega) hB9.size)⟩
   ·have f6 := f5.trans (hb6.mono f5.size)
    have f7 := f6.trans ((below_alloc w6 (.cells #[.int .i64 0, .slice none 0 0, .slice none 0 0, .slice none 0 0, .slice none 0 0] 61)).mono f6.size)
    have k7 := UB.below k2 f7
    have hB7 := hB1.trans (f7.mono hB1.size)
    unfold noReal
    go_wp2_with fail
    have k8 := k7
    have hB8 := hB7
    have hlo := Lost10_any (w6.alloc (.cells #[.int .i64 0, .slice none 0 0, .slice none 0 0, .slice none 0 0, .slice none 0 0] 61)) sm
    unfold lostV at hlo
    go_wp2_with fail
    refine hlo.mono ?_
    rintro e w9 ⟨rfl, hb9⟩
    have k9 : UB w9 h2 _ _ _ _ _ _ := UB.below k8 hb9
    have hB9 := hB8.trans (hb9.mono hB8.size)
    obtain ⟨o0, o1, o2, o3, o4, o5⟩ := k9.cells
    have hfr9 := fun j => k9.frozen j
    clear hlo hb9
    go_wp2_with fail
    obtain ⟨q1, q2⟩ := k9.put (.int .i64 sm) (.slice none 0 0) (.slice none 0 0) (.slice none 0 0) (.slice none 0 0) (.bool true)
    obtain ⟨c0, c1, c2, c3, c4, c5⟩ := q1.cells
    refine bodyPost_ret (v := .agg #[.int .i64 sm, .slice none 0 0, .slice none 0 0, .slice none 0 0, .slice none 0 0, .bool true]) (by simp [results, Tryz.results55, go_sem, c0, c1, c2, c3, c4, c5]) rfl ?_
    rw [HE.out]
    exact ⟨_, rfl, lostV_uis _ _, hB9.trans (below_row q2 (by omega) hB9.size)⟩
  have f4 := hB.trans (hb4.mono hB.size)
  have f5 := f4.trans ((below_alloc w4 (.cells #[.int .i64 a.n, .slice A' a.c.length kA', .slice B' a.ids.length kB', .slice C' a.g.length kC', .slice D' a.r.length kD'] 61)).mono f4.size)
  have kx := heap_alloc_new w4 (.cells #[.int .i64 a.n, .slice A' a.c.length kA', .slice B' a.ids.length kB', .slice C' a.g.length kC', .slice D' a.r.length kD'] 61)
  replace hRx := hRx.below (below_alloc w4 (.cells #[.int .i64 a.n, .slice A' a.c.length kA', .slice B' a.ids.length kB', .slice C' a.g.length kC', .slice D' a.r.length kD'] 61))
  have hrb := hrB _ f5
  obtain ⟨y0, y1, y2, y3, y4, y5⟩ := (UB.below k1 f5).cells
  unfold rval
  clear hrA hrB hb4
  go_upto_region 5 with fail
  generalize w4.alloc (.cells #[.int .i64 a.n, .slice A' a.c.length kA', .slice B' a.ids.length kB', .slice C' a.g.length kC', .slice D' a.r.length kD'] 61) = W5 at *
  generalize w4.heap.size = bx at *
  go_wp2_with fail
  refine hrb.mono ?_
  clear hrb y0 y1 y2 y3 y4 y5
  rintro e w6 (⟨hgb, v', rfl, ⟨A2', B2', C2', D2', kA2', kB2', kC2', kD2', rfl, hRy⟩, hb6⟩ | ⟨hgb, rfl, hb6⟩)
  rotate_left
  ·have f6 := f5.trans (hb6.mono f5.size)
   have f7 := f6.trans ((below_alloc w6 (.cells #[.int .i64 0, .slice none 0 0, .slice none 0 0, .slice none 0 0, .slice none 0 0] 61)).mono f6.size)
   have k7 := UB.below k2 f7
   have hB7 := hB1.trans (f7.mono hB1.size)
   have HE := Lib.hid (show plusD a b = lostZ sm by rw [plusD_no (fun h => absurd h.2.1 (by rw [hgb]; decide)), HSM0.out])
   unfold noReal
   go_wp2_with fail
   have k8 := k7
   have hB8 := hB7
   have hlo := Lost10_any (w6.alloc (.cells #[.int .i64 0, .slice none 0 0, .slice none 0 0, .slice none 0 0, .slice none 0 0] 61)) sm
   unfold lostV at hlo
   go_wp2_with fail
   refine hlo.mono ?_
   rintro e w9 ⟨rfl, hb9⟩
   have k9 : UB w9 h2 _ _ _ _ _ _ := UB.below k8 hb9
   have hB9 := hB8.trans (hb9.mono hB8.size)
   obtain ⟨o0, o1, o2, o3, o4, o5⟩ := k9.cells
   have hfr9 := fun j => k9.frozen j
   clear hlo hb9
   go_wp2_with fail
   obtain ⟨q1, q2⟩ := k9.put (.int .i64 sm) (.slice none 0 0) (.slice none 0 0) (.slice none 0 0) (.slice none 0 0) (.bool true)
   obtain ⟨c0, c1, c2, c3, c4, c5⟩ := q1.cells
   refine bodyPost_ret (v := .agg #[.int .i64 sm, .slice none 0 0, .slice none 0 0, .slice none 0 0, .slice none 0 0, .bool true]) (by simp [results, Tryz.results55, go_sem, c0, c1, c2, c3, c4, c5]) rfl ?_
   rw [HE.out]
   exact ⟨_, rfl, lostV_uis _ _, hB9.trans (below_row q2 (by omega) hB9.size)⟩
  have f6 := f5.trans (hb6.mono f5.size)
  have f7 := f6.trans ((below_alloc w6 (.cells #[.int .i64 b.n, .slice A2' b.c.length kA2', .slice B2' b.ids.length kB2', .slice C2' b.g.length kC2', .slice D2' b.r.length kD2'] 61)).mono f6.size)
  have k7 := UB.below k2 f7
  have hB7 := hB1.trans (f7.mono hB1.size)
  have hb7 := hb6.trans ((below_alloc w6 (.cells #[.int .i64 b.n, .slice A2' b.c.length kA2', .slice B2' b.ids.length kB2', .slice C2' b.g.length kC2', .slice D2' b.r.length kD2'] 61)).mono hb6.size)
  have ky := heap_alloc_new w6 (.cells #[.int .i64 b.n, .slice A2' b.c.length kA2', .slice B2' b.ids.length kB2', .slice C2' b.g.length kC2', .slice D2' b.r.length kD2'] 61)
  replace kx := (hb7.block _ (Array.getElem?_eq_some_iff.1 kx).1).trans kx
  replace hRx := hRx.below hb7
  replace hRy := hRy.below (below_alloc w6 (.cells #[.int .i64 b.n, .slice A2' b.c.length kA2', .slice B2' b.ids.length kB2', .slice C2' b.g.length kC2', .slice D2' b.r.length kD2'] 61))
  unfold rval
  clear hB f4 f5 f6 hb6 hb7
  go_upto_region 6 with fail
  generalize w6.alloc (.cells #[.int .i64 b.n, .slice A2' b.c.length kA2', .slice B2' b.ids.length kB2', .slice C2' b.g.length kC2', .slice D2' b.r.length kD2'] 61) = W7 at *
  generalize w6.heap.size = by_ at *
  have hza := (goodD_iff a).1 hga
  have hzb := (goodD_iff b).1 hgb
  obtain ⟨r0, r1, r2, r3, r4⟩ := cells5 kx
  obtain ⟨s0, s1, s2, s3, s4⟩ := cells5 ky
  by_cases hne : a.n = b.n
  ·have hne' : (a.n == b.n) = true := beq_iff_eq.2 hne
   have hne2 : (a.n != b.n) = false := by rw [hne]; exact bne_self_eq_false _
   obtain ⟨n, hn⟩ : ∃ n : Nat, a.n = (n : Int) := ⟨a.n.toNat, by have := hza.n1; omega⟩
   have HNE := Lib.hid (And.intro hne (And.intro hga hgb))
   have hn2 : b.n = (n : Int) := by rw [← hne, hn]
   have hn1 : 1 ≤ n := by have := hza.n1; omega
   have hn3 : n ≤ 256 := by have := hza.n2; omega
   have HSN := Lib.hid (show sm = (n : Int) by
    rw [← HSM0.out]
    unfold sameSize sizeD
    rw [hga, hgb, Bool.true_or, Bool.true_or, if_pos rfl, if_pos rfl, if_pos hne, hn])
   clear hga hgb
   clear r1 r2 r3 r4 s1 s2 s3 s4 hB1 f7
   rw [hn] at kx r0
   rw [hn2] at ky s0
   have hlA : (n : Int) = (a.c.length : Int) := by have := hza.lenC; omega
   have HL := Lib.hid (And.intro hza.lenC (And.intro hza.lenR (And.intro hzb.lenC hzb.lenR)))
   have hsm := HSN.out
   subst hsm
   clear hlA
   go_wp2_with fail
   clear r0 s0
   go_loopw [10, 11, 12] (fun vc vr kk wr => ∃ (k : Nat) (nc nr : List NV), k ≤ n ∧ kk = .int .i64 (k : Nat) ∧ N2 W7 wr vc vr nc nr (sumL a.c b.c k) (sumL a.r b.r k)) (fun _ _ kk _ => n - (intOf kk).toNat)
   case atStart => exact ⟨0, [], [], Nat.zero_le _, rfl, Below.refl _ _, NAcc.nil _ _ _ _, NAcc.nil _ _ _ _, fun g h => (by cases h)⟩
   case round =>
    obtain ⟨k, nc, nr, hk, rfl, hst⟩ := hrel
    by_cases hlt : k < n
    ·have hlt' : (k : Int) < (n : Int) := by omega
     have hlc1 : (k : Int) < (a.c.length : Int) := by have := HL.out.1; omega
     have hlc2 : (k : Int) < (b.c.length : Int) := by have := HL.out.2.2.1; omega
     have hlr1 : (k : Int) < (a.r.length : Int) := by have := HL.out.2.1; omega
     have hlr2 : (k : Int) < (b.r.length : Int) := by have := HL.out.2.2.2; omega
     obtain ⟨hnc, hnr⟩ : nc.length ≤ 256 ∧ nr.length ≤ 256 := by
      have h1 := hst.c.len
      have h2 := hst.r.len
      rw [sumL_len] at h1 h2
      omega
     obtain ⟨bn, on, x, rfl, hbn, x0, x1, x2, hx⟩ := row_num hRx.c k (by omega)
     obtain ⟨bm, om, y, rfl, hbm, t0, t1, t2, hy⟩ := row_num hRy.c k (by omega)
     obtain ⟨bp, op_, xx, rfl, hbp, p0, p1, p2_, hxx⟩ := row_num hRx.r k (by omega)
     obtain ⟨bq, oq, yy, rfl, hbq, q0, q1, q2_, hyy⟩ := row_num hRy.r k (by omega)
     go_upto_region 12 with fail
     have hS : ∀ W', Below W7.heap.size W7 W' → (fun w' => w'.cell? ⟨bx, 1, none⟩ = some (.slice (some ⟨bn, on, none⟩) a.c.length kA') ∧ w'.cell? ⟨by_, 1, none⟩ = some (.slice (some ⟨bm, om, none⟩) b.c.length kA2') ∧ (w'.cell? ⟨bn, on + k * 3, none⟩ = some (.bool x.neg) ∧ w'.cell? ⟨bn, on + k * 3 + 1, none⟩ = some (.slice x.A x.n x.cap) ∧ w'.cell? ⟨bn, on + k * 3 + 2, none⟩ = some (.int .i64 x.E)) ∧ (w'.cell? ⟨bm, om + k * 3, none⟩ = some (.bool y.neg) ∧ w'.cell? ⟨bm, om + k * 3 + 1, none⟩ = some (.slice y.A y.n y.cap) ∧ w'.cell? ⟨bm, om + k * 3 + 2, none⟩ = some (.int .i64 y.E))) W' := fun W' hb => ⟨(cells5 ((hb.block _ (Array.getElem?_eq_some_iff.1 kx).1).trans kx)).2.1, (cells5 ((hb.block _ (Array.getElem?_eq_some_iff.1 ky).1).trans ky)).2.1, ⟨(hb.cell (p := ⟨bn, on + k * 3, none⟩) hbn).trans x0, (hb.cell (p := ⟨bn, on + k * 3 + 1, none⟩) hbn).trans x1, (hb.cell (p := ⟨bn, on + k * 3 + 2, none⟩) hbn).trans x2⟩, (hb.cell (p := ⟨bm, om + k * 3, none⟩) hbm).trans t0, (hb.cell (p := ⟨bm, om + k * 3 + 1, none⟩) hbm).trans t1, (hb.cell (p := ⟨bm, om + k * 3 + 2, none⟩) hbm).trans t2⟩
     have hdr := (Below.refl wr.heap.size wr).drew
     have hd := hst.bel.drew
     have hpl := fun W (hb : Below W7.heap.size W7 W) => plus_r W (-2212) 5000 x y _ _ ((hx.below hb).wide (by decide) (by decide)) ((hy.below hb).wide (by decide) (by decide)) (by decide) (by decide) (by decide) (by decide) (few_W _ 2 (by decide) (Nat.le_trans (sum2_le (getD_num a.c hza.numC k) (getD_num b.c hzb.numC k)) (Nat.mul_le_mul_left _ FB_le_PB)))
     refine late_begin (fun w' => w'.cell? ⟨bx, 1, none⟩ = some (.slice (some ⟨bn, on, none⟩) a.c.length kA') ∧ w'.cell? ⟨by_, 1, none⟩ = some (.slice (some ⟨bm, om, none⟩) b.c.length kA2') ∧ (w'.cell? ⟨bn, on + k * 3, none⟩ = some (.bool x.neg) ∧ w'.cell? ⟨bn, on + k * 3 + 1, none⟩ = some (.slice x.A x.n x.cap) ∧ w'.cell? ⟨bn, on + k * 3 + 2, none⟩ = some (.int .i64 x.E)) ∧ (w'.cell? ⟨bm, om + k * 3, none⟩ = some (.bool y.neg) ∧ w'.cell? ⟨bm, om + k * 3 + 1, none⟩ = some (.slice y.A y.n y.cap) ∧ w'.cell? ⟨bm, om + k * 3 + 2, none⟩ = some (.int .i64 y.E))) [] (by kernel_rfl) ?_
     refine lateT 0 (some 59) rfl rfl (hS _ hd) ?_
     try simp only [Act.put, lA, lZ, lC]
     refine lateT 1 (some 60) rfl rfl (hS _ hd) ?_
     try simp only [Act.put, lA, lZ, lC]
     refine lateT 2 (some 61) rfl rfl (hS _ hd) ?_
     try simp only [Act.put, lA, lZ, lC]
     refine lateT 3 (some 62) rfl rfl (hS _ hd) ?_
     try simp only [Act.put, lA, lZ, lC]
     refine lateT 4 (some 63) rfl rfl (hS _ hd) ?_
     try simp only [Act.put, lA, lZ, lC]
     refine lateT 5 (some 64) rfl rfl (hS _ hd) ?_
     try simp only [Act.put, lA, lZ, lC]
     refine lateT 6 (some 65) rfl rfl (hS _ hd) ?_
     try simp only [Act.put, lA, lZ, lC]
     refine lateT 7 (some 66) rfl rfl (hS _ hd) ?_
     try simp only [Act.put, lA, lZ, lC]
     refine lateT 8 (some 67) rfl rfl (hS _ hd) ?_
     try simp only [Act.put, lA, lZ, lC]
     refine lateT 9 (some 68) rfl rfl (hS _ hd) ?_
     try simp only [Act.put, lA, lZ, lC]
     refine lateT 10 (some 69) rfl rfl (hS _ hd) ?_
     try simp only [Act.put, lA, lZ, lC]
     refine late_one (i := 11) rfl (by kernel_rfl) ?_
     intro K hK
     go_simp
     refine (hpl _ hd).mono ?_
     rintro e w3 ⟨sx, rfl, hsx, hb3⟩
     have f3 := hd.trans (hb3.mono hd.size)
     have g3 := hdr.trans (hb3.mono hdr.size)
     try show K _ _
     refine hK.out _ _ (Or.inr (hS _ f3)) ?_
     clear hK K
     try simp only [Act.put, lA, lZ, lC]
     refine late_one (i := 12) rfl (by kernel_rfl) ?_
     intro K hK
     go_simp
     have f4 := f3.alloc f3.size (.cells #[.bool sx.neg, .slice sx.A sx.n sx.cap, .int .i64 sx.E] 70)
     have g4 := g3.alloc g3.size (.cells #[.bool sx.neg, .slice sx.A sx.n sx.cap, .int .i64 sx.E] 70)
     try show K _ _
     refine hK.out _ _ (Or.inr (hS _ f4)) ?_
     clear hK K
     try simp only [Act.put, lA, lZ, lC]
     refine late_one (i := 13) rfl (by kernel_rfl) ?_
     intro K hK
     have hA := hst.b g4
     have hsx4 := hsx.below (below_alloc w3 (.cells #[.bool sx.neg, .slice sx.A sx.n sx.cap, .int .i64 sx.E] 70))
     have hnew := heap_alloc_new w3 (.cells #[.bool sx.neg, .slice sx.A sx.n sx.cap, .int .i64 sx.E] 70)
     refine step_append_g NV.cells 3 40 (.agg #[.bool false, .slice none 0 0, .int .i64 0]) 58 70 Tryz.underlying58 infoNum rfl (by decide) (fun _ => rfl) rfl _ _ rfl W7.heap.size _ _ [sx] rfl hA.c.own ⟨w3.heap.size, 0, none⟩ 1 1 rfl rfl (World.news_of_block hnew) (by unfold maxLen; omega) (by omega) hA.size (fun y hy u hu => by simp at hy; subst hy; simp [NV.cells] at hu; rcases hu with rfl | rfl | rfl <;> rfl) ?_
     intro v8 w8 ho8 hg8 hn8
     have f8 := f4.trans (below_ownG hA.c.own hg8 hA.size)
     have KK := Lib.hid (hA.addC hsx4 ho8 hg8 hn8)
     clear hn8 ho8 hg8 hA hsx4 hnew
     try show K _ _
     refine hK.out _ _ (Or.inr (hS _ f8)) ?_
     clear hK K
     try simp only [Act.put, lA, lZ, lC]
     refine lateT 14 (some 10) rfl rfl (hS _ f8) ?_
     try simp only [Act.put, lA, lZ, lC]
     refine late_done (by kernel_rfl) ?_ _
     obtain hst2 := KK.out
     clear KK hS hd hdr hpl hsx hb3 f3 g3 f4 g4 f8 x0 x1 x2 t0 t1 t2 hx hy hst
     rw [← sumL_succ] at hst2
     have hst := hst2
     clear hst2
     generalize w8 = wr at *
     go_upto_region 13 with fail
     have hS : ∀ W', Below W7.heap.size W7 W' → (fun w' => w'.cell? ⟨bx, 4, none⟩ = some (.slice (some ⟨bp, op_, none⟩) a.r.length kD') ∧ w'.cell? ⟨by_, 4, none⟩ = some (.slice (some ⟨bq, oq, none⟩) b.r.length kD2') ∧ (w'.cell? ⟨bp, op_ + k * 3, none⟩ = some (.bool xx.neg) ∧ w'.cell? ⟨bp, op_ + k * 3 + 1, none⟩ = some (.slice xx.A xx.n xx.cap) ∧ w'.cell? ⟨bp, op_ + k * 3 + 2, none⟩ = some (.int .i64 xx.E)) ∧ (w'.cell? ⟨bq, oq + k * 3, none⟩ = some (.bool yy.neg) ∧ w'.cell? ⟨bq, oq + k * 3 + 1, none⟩ = some (.slice yy.A yy.n yy.cap) ∧ w'.cell? ⟨bq, oq + k * 3 + 2, none⟩ = some (.int .i64 yy.E))) W' := fun W' hb => ⟨(cells5 ((hb.block _ (Array.getElem?_eq_some_iff.1 kx).1).trans kx)).2.2.2.2, (cells5 ((hb.block _ (Array.getElem?_eq_some_iff.1 ky).1).trans ky)).2.2.2.2, ⟨(hb.cell (p := ⟨bp, op_ + k * 3, none⟩) hbp).trans p0, (hb.cell (p := ⟨bp, op_ + k * 3 + 1, none⟩) hbp).trans p1, (hb.cell (p := ⟨bp, op_ + k * 3 + 2, none⟩) hbp).trans p2_⟩, (hb.cell (p := ⟨bq, oq + k * 3, none⟩) hbq).trans q0, (hb.cell (p := ⟨bq, oq + k * 3 + 1, none⟩) hbq).trans q1, (hb.cell (p := ⟨bq, oq + k * 3 + 2, none⟩) hbq).trans q2_⟩
     have hdr := (Below.refl wr.heap.size wr).drew
     have hd := hst.bel.drew
     have hpl := fun W (hb : Below W7.heap.size W7 W) => plus_r W (-2212) 5000 xx yy _ _ ((hxx.below hb).wide (by decide) (by decide)) ((hyy.below hb).wide (by decide) (by decide)) (by decide) (by decide) (by decide) (by decide) (few_W _ 2 (by decide) (Nat.le_trans (sum2_le (getD_num a.r hza.numR k) (getD_num b.r hzb.numR k)) (Nat.mul_le_mul_left _ FB_le_PB)))
     refine late_begin (fun w' => w'.cell? ⟨bx, 4, none⟩ = some (.slice (some ⟨bp, op_, none⟩) a.r.length kD') ∧ w'.cell? ⟨by_, 4, none⟩ = some (.slice (some ⟨bq, oq, none⟩) b.r.length kD2') ∧ (w'.cell? ⟨bp, op_ + k * 3, none⟩ = some (.bool xx.neg) ∧ w'.cell? ⟨bp, op_ + k * 3 + 1, none⟩ = some (.slice xx.A xx.n xx.cap) ∧ w'.cell? ⟨bp, op_ + k * 3 + 2, none⟩ = some (.int .i64 xx.E)) ∧ (w'.cell? ⟨bq, oq + k * 3, none⟩ = some (.bool yy.neg) ∧ w'.cell? ⟨bq, oq + k * 3 + 1, none⟩ = some (.slice yy.A yy.n yy.cap) ∧ w'.cell? ⟨bq, oq + k * 3 + 2, none⟩ = some (.int .i64 yy.E))) [] (by kernel_rfl) ?_
     refine lateT 0 (some 73) rfl rfl (hS _ hd) ?_
     try simp only [Act.put, lA, lZ, lC]
     refine lateT 1 (some 74) rfl rfl (hS _ hd) ?_
     try simp only [Act.put, lA, lZ, lC]
     refine lateT 2 (some 75) rfl rfl (hS _ hd) ?_
     try simp only [Act.put, lA, lZ, lC]
     refine lateT 3 (some 76) rfl rfl (hS _ hd) ?_
     try simp only [Act.put, lA, lZ, lC]
     refine lateT 4 (some 77) rfl rfl (hS _ hd) ?_
     try simp only [Act.put, lA, lZ, lC]
     refine lateT 5 (some 78) rfl rfl (hS _ hd) ?_
     try simp only [Act.put, lA, lZ, lC]
     refine lateT 6 (some 79) rfl rfl (hS _ hd) ?_
     try simp only [Act.put, lA, lZ, lC]
     refine lateT 7 (some 80) rfl rfl (hS _ hd) ?_
     try simp only [Act.put, lA, lZ, lC]
     refine lateT 8 (some 81) rfl rfl (hS _ hd) ?_
     try simp only [Act.put, lA, lZ, lC]
     refine lateT 9 (some 82) rfl rfl (hS _ hd) ?_
     try simp only [Act.put, lA, lZ, lC]
     refine lateT 10 (some 83) rfl rfl (hS _ hd) ?_
     try simp only [Act.put, lA, lZ, lC]
     refine late_one (i := 11) rfl (by kernel_rfl) ?_
     intro K hK
     go_simp
     refine (hpl _ hd).mono ?_
     rintro e w3 ⟨sx, rfl, hsx, hb3⟩
     have f3 := hd.trans (hb3.mono hd.size)
     have g3 := hdr.trans (hb3.mono hdr.size)
     try show K _ _
     refine hK.out _ _ (Or.inr (hS _ f3)) ?_
     clear hK K
     try simp only [Act.put, lA, lZ, lC]
     refine late_one (i := 12) rfl (by kernel_rfl) ?_
     intro K hK
     go_simp
     have f4 := f3.alloc f3.size (.cells #[.bool sx.neg, .slice sx.A sx.n sx.cap, .int .i64 sx.E] 70)
     have g4 := g3.alloc g3.size (.cells #[.bool sx.neg, .slice sx.A sx.n sx.cap, .int .i64 sx.E] 70)
     try show K _ _
     refine hK.out _ _ (Or.inr (hS _ f4)) ?_
     clear hK K
     try simp only [Act.put, lA, lZ, lC]
     refine late_one (i := 13) rfl (by kernel_rfl) ?_
     intro K hK
     have hA := hst.b g4
     have hsx4 := hsx.below (below_alloc w3 (.cells #[.bool sx.neg, .slice sx.A sx.n sx.cap, .int .i64 sx.E] 70))
     have hnew := heap_alloc_new w3 (.cells #[.bool sx.neg, .slice sx.A sx.n sx.cap, .int .i64 sx.E] 70)
     refine step_append_g NV.cells 3 40 (.agg #[.bool false, .slice none 0 0, .int .i64 0]) 58 70 Tryz.underlying58 infoNum rfl (by decide) (fun _ => rfl) rfl _ _ rfl W7.heap.size _ _ [sx] rfl hA.r.own ⟨w3.heap.size, 0, none⟩ 1 1 rfl rfl (World.news_of_block hnew) (by unfold maxLen; omega) (by omega) hA.size (fun yy hyy u hu => by simp at hyy; subst hyy; simp [NV.cells] at hu; rcases hu with rfl | rfl | rfl <;> rfl) ?_
     intro v8 w8 ho8 hg8 hn8
     have f8 := f4.trans (below_ownG hA.r.own hg8 hA.size)
     have KK := Lib.hid (hA.addR hsx4 ho8 hg8 hn8)
     clear hn8 ho8 hg8 hA hsx4 hnew
     try show K _ _
     refine hK.out _ _ (Or.inr (hS _ f8)) ?_
     clear hK K
     try simp only [Act.put, lA, lZ, lC]
     refine lateT 14 (some 11) rfl rfl (hS _ f8) ?_
     try simp only [Act.put, lA, lZ, lC]
     refine late_done (by kernel_rfl) ?_ _
     obtain hst2 := KK.out
     clear KK hS hd hdr hpl hsx hb3 f3 g3 f4 g4 f8 p0 p1 p2_ q0 q1 q2_ hxx hyy hst
     rw [← sumL_succ] at hst2
     have HST := Lib.hid hst2
     clear hst2
     go_wp2_with fail
     go_roundw
     case rel => exact ⟨k + 1, _, _, by omega, by go_num, HST.out⟩
     case measure => simp [intOf]; omega
    ·obtain rfl : n = k := by omega
     have hlt' : decide ((n : Int) < (n : Nat)) = false := by simp
     obtain ⟨Ac, kc, rfl, hcN⟩ := hst.c.row
     obtain ⟨Ar, kr, rfl, hrN⟩ := hst.r.row
     rw [sumL_len, sumL_len]
     have hB8 := hst.bel
     have hmg := merged_any wr B' B2' kB' kB2' a.ids.length b.ids.length a.ids b.ids (hRx.ids.below hB8).row (hRy.ids.below hB8).row rfl rfl (by have := hza.cols; have := hza.len; have := hzb.cols; have := hzb.len; omega)
     rw [← union_merge a.ids b.ids (good_rising hza)] at hmg
     have HUL := Lib.hid (show (unionD a.ids b.ids).length ≤ 2147483650 by have := union_len a.ids b.ids; have := hza.cols; have := hza.len; have := hzb.cols; have := hzb.len; omega)
     obtain ⟨U, hUE⟩ : ∃ U, unionD a.ids b.ids = U := ⟨_, rfl⟩
     rw [hUE] at hmg HUL
     have HUE := Lib.hid hUE
     clear hUE hst
     obtain ⟨r0, r1, r2, r3, r4⟩ := cells5 ((hB8.block _ (Array.getElem?_eq_some_iff.1 kx).1).trans kx)
     obtain ⟨s0, s1, s2, s3, s4⟩ := cells5 ((hB8.block _ (Array.getElem?_eq_some_iff.1 ky).1).trans ky)
     go_wp2_with fail
     refine hmg.mono ?_
     rintro e W8 ⟨Au, ku, rfl, hU, hb8⟩
     have hB78 := hB8.trans (hb8.mono hB8.size)
     replace kx := (hB78.block _ (Array.getElem?_eq_some_iff.1 kx).1).trans kx
     replace ky := (hB78.block _ (Array.getElem?_eq_some_iff.1 ky).1).trans ky
     replace hRx := hRx.below hB78
     replace hRy := hRy.below hB78
     replace hcN := hcN.below hb8
     replace hrN := hrN.below hb8
     have hB8w := hB7.trans (hB78.mono hB7.size)
     have k28 := k7.below hB78
     clear hmg r0 r1 r2 r3 r4 s0 s1 s2 s3 s4 hb8 hB78 hB8 hB7 k7 hlt' hlt hk k0 k1 k2
     go_wp2_with fail
     go_loopw [14, 15] (fun vg kk wr => ∃ (j : Nat) (vals : List Value), j ≤ U.length ∧ kk = .int .i64 (j : Nat) ∧ NGAcc (-2212) 5000 W8.heap.size wr vg vals ((U.take j).map fun i => sumL (colI a n i) (colI b n i) n) ∧ Below W8.heap.size W8 wr) (fun _ kk _ => U.length - (intOf kk).toNat)
     case atStart => exact ⟨0, [], Nat.zero_le _, rfl, NGAcc.nil _ _ _ _, Below.refl _ _⟩
     case round =>
      obtain ⟨j, vals, hj, rfl, hG, hBj⟩ := hrel
      by_cases hltj : j < U.length
      ·have hltj' : (j : Int) < (U.length : Int) := by omega
       obtain ⟨i0, hi0⟩ := get_some U j hltj
       obtain ⟨bu, ou, rfl, hbu, cu⟩ := hU.at_.row j i0 hi0
       replace cu : W8.cell? ⟨bu, ou + j, none⟩ = some (.int .i64 i0) := cu
       have HI0 := Lib.hid hi0
       have hvl : vals.length ≤ 2147483650 := by
        have h1 := hG.len
        have h2 := HUL.out
        rw [List.length_map, List.length_take] at h1
        omega
       have hBr := Below.refl wr.heap.size wr
       have hul := HUL.out
       clear hi0
       go_upto_region 19 with fail
       have hS : ∀ W', Below W8.heap.size W8 W' → (fun w' => (w'.cell? ⟨bx, 0, none⟩ = some (.int .i64 (n : Int)) ∧ w'.cell? ⟨bx, 1, none⟩ = some (.slice A' a.c.length kA') ∧ w'.cell? ⟨bx, 2, none⟩ = some (.slice B' a.ids.length kB') ∧ w'.cell? ⟨bx, 3, none⟩ = some (.slice C' a.g.length kC') ∧ w'.cell? ⟨bx, 4, none⟩ = some (.slice D' a.r.length kD')) ∧ w'.cell? ⟨bu, ou + j, none⟩ = some (.int .i64 i0)) W' := fun W' hb => ⟨cells5 ((hb.block _ (Array.getElem?_eq_some_iff.1 kx).1).trans kx), (hb.cell (p := ⟨bu, ou + j, none⟩) hbu).trans cu⟩
       have hd := hBj.drew
       have hdr := hBr.drew
       have hcl := fun W (hb : Below W8.heap.size W8 W) => column_any W A' B' C' D' kA' kB' kC' kD' a i0 n (hRx.below hb) hza hn
       unfold rval at hcl
       rw [hn] at hcl
       refine late_begin (fun w' => (w'.cell? ⟨bx, 0, none⟩ = some (.int .i64 (n : Int)) ∧ w'.cell? ⟨bx, 1, none⟩ = some (.slice A' a.c.length kA') ∧ w'.cell? ⟨bx, 2, none⟩ = some (.slice B' a.ids.length kB') ∧ w'.cell? ⟨bx, 3, none⟩ = some (.slice C' a.g.length kC') ∧ w'.cell? ⟨bx, 4, none⟩ = some (.slice D' a.r.length kD')) ∧ w'.cell? ⟨bu, ou + j, none⟩ = some (.int .i64 i0)) [] (by kernel_rfl) ?_
       refine lateT 0 (some 98) rfl rfl (hS _ hd) ?_
       try simp only [Act.put, lA, lZ, lC]
       refine lateT 1 (some 99) rfl rfl (hS _ hd) ?_
       try simp only [Act.put, lA, lZ, lC]
       refine lateT 2 (some 100) rfl rfl (hS _ hd) ?_
       try simp only [Act.put, lA, lZ, lC]
       refine lateT 3 (some 101) rfl rfl (hS _ hd) ?_
       try simp only [Act.put, lA, lZ, lC]
       refine lateT 4 (some 102) rfl rfl (hS _ hd) ?_
       try simp only [Act.put, lA, lZ, lC]
       refine late_one (i := 5) rfl (by kernel_rfl) ?_
       intro K hK
       go_simp
       refine (hcl _ hd).mono ?_
       rintro e w3 ⟨AP, kP, rfl, hPN, hb3⟩
       have f3 := hd.trans (hb3.mono hd.size)
       have g3 := hdr.trans (hb3.mono hdr.size)
       try show K _ _
       refine hK.out _ _ (Or.inr (hS _ f3)) ?_
       clear hK K
       try simp only [Act.put, lA, lZ, lC]
       refine lateT 6 (some 16) rfl rfl (hS _ f3) ?_
       try simp only [Act.put, lA, lZ, lC]
       refine late_done (by kernel_rfl) ?_ _
       clear hS hd hdr hcl hBj hb3
       have hBj := f3
       replace hBr := g3
       clear f3 g3
       obtain ⟨Wr0, hWr0⟩ : ∃ W, W = wr := ⟨_, rfl⟩
       subst hWr0
       generalize w3 = wr at *
       go_upto_region 20 with fail
       have hS : ∀ W', Below W8.heap.size W8 W' → (fun w' => (w'.cell? ⟨by_, 0, none⟩ = some (.int .i64 (n : Int)) ∧ w'.cell? ⟨by_, 1, none⟩ = some (.slice A2' b.c.length kA2') ∧ w'.cell? ⟨by_, 2, none⟩ = some (.slice B2' b.ids.length kB2') ∧ w'.cell? ⟨by_, 3, none⟩ = some (.slice C2' b.g.length kC2') ∧ w'.cell? ⟨by_, 4, none⟩ = some (.slice D2' b.r.length kD2')) ∧ w'.cell? ⟨bu, ou + j, none⟩ = some (.int .i64 i0)) W' := fun W' hb => ⟨cells5 ((hb.block _ (Array.getElem?_eq_some_iff.1 ky).1).trans ky), (hb.cell (p := ⟨bu, ou + j, none⟩) hbu).trans cu⟩
       have hd := hBj.drew
       have hdr := hBr.drew
       have hcl := fun W (hb : Below W8.heap.size W8 W) => column_any W A2' B2' C2' D2' kA2' kB2' kC2' kD2' b i0 n (hRy.below hb) hzb hn2
       unfold rval at hcl
       rw [hn2] at hcl
       refine late_begin (fun w' => (w'.cell? ⟨by_, 0, none⟩ = some (.int .i64 (n : Int)) ∧ w'.cell? ⟨by_, 1, none⟩ = some (.slice A2' b.c.length kA2') ∧ w'.cell? ⟨by_, 2, none⟩ = some (.slice B2' b.ids.length kB2') ∧ w'.cell? ⟨by_, 3, none⟩ = some (.slice C2' b.g.length kC2') ∧ w'.cell? ⟨by_, 4, none⟩ = some (.slice D2' b.r.length kD2')) ∧ w'.cell? ⟨bu, ou + j, none⟩ = some (.int .i64 i0)) [] (by kernel_rfl) ?_
       refine lateT 0 (some 104) rfl rfl (hS _ hd) ?_
       try simp only [Act.put, lA, lZ, lC]
       refine lateT 1 (some 105) rfl rfl (hS _ hd) ?_
       try simp only [Act.put, lA, lZ, lC]
       refine lateT 2 (some 106) rfl rfl (hS _ hd) ?_
       try simp only [Act.put, lA, lZ, lC]
       refine lateT 3 (some 107) rfl rfl (hS _ hd) ?_
       try simp only [Act.put, lA, lZ, lC]
       refine lateT 4 (some 108) rfl rfl (hS _ hd) ?_
       try simp only [Act.put, lA, lZ, lC]
       refine late_one (i := 5) rfl (by kernel_rfl) ?_
       intro K hK
       go_simp
       refine (hcl _ hd).mono ?_
       rintro e w3 ⟨AQ, kQ, rfl, hQN, hb3⟩
       have f3 := hd.trans (hb3.mono hd.size)
       have g3 := hdr.trans (hb3.mono hdr.size)
       try show K _ _
       refine hK.out _ _ (Or.inr (hS _ f3)) ?_
       clear hK K
       try simp only [Act.put, lA, lZ, lC]
       refine lateT 6 (some 17) rfl rfl (hS _ f3) ?_
       try simp only [Act.put, lA, lZ, lC]
       refine late_done (by kernel_rfl) ?_ _
       replace hPN := hPN.below ((Below.refl wr.heap.size wr).drew.trans (hb3.mono (Nat.le_refl _)))
       clear hS hd hdr hcl hBj hb3 hBr
       have hBj := f3
       have hBr := g3
       clear f3 g3
       generalize w3 = Wj at *
       have HQL := Lib.hid (And.intro (colI_len hza hn i0) (colI_len hzb hn2 i0))
       have HGr := Lib.hid (hG.below hBr)
       clear hG
       go_wp2_with fail
       go_loopw [18, 19] (fun v kk wr => ∃ (i : Nat) (ns : List NV), i ≤ n ∧ kk = .int .i64 (i : Nat) ∧ NAcc (-2212) 5000 Wj.heap.size wr v ns (sumL (colI a n i0) (colI b n i0) i) ∧ Below Wj.heap.size Wj wr) (fun _ kk _ => n - (intOf kk).toNat)
       case atStart => exact ⟨0, [], Nat.zero_le _, rfl, NAcc.nil _ _ _ _, Below.refl _ _⟩
       case round =>
        obtain ⟨i, ns, hi, rfl, hN, hBi⟩ := hrel
        by_cases hlti : i < n
        ·have hlti' : (i : Int) < (n : Int) := by omega
         have hnl : ns.length ≤ 256 := by
          have h1 := hN.len
          rw [sumL_len] at h1
          omega
         obtain ⟨bn, on, x, rfl, hbn, x0, x1, x2, hx⟩ := row_num hPN i (by have := HQL.out.1; omega)
         obtain ⟨bm, om, y, rfl, hbm, t0, t1, t2, hy⟩ := row_num hQN i (by have := HQL.out.2; omega)
         go_upto_region 25 with fail
         have hS : ∀ W', Below Wj.heap.size Wj W' → (fun w' => (w'.cell? ⟨bn, on + i * 3, none⟩ = some (.bool x.neg) ∧ w'.cell? ⟨bn, on + i * 3 + 1, none⟩ = some (.slice x.A x.n x.cap) ∧ w'.cell? ⟨bn, on + i * 3 + 2, none⟩ = some (.int .i64 x.E)) ∧ (w'.cell? ⟨bm, om + i * 3, none⟩ = some (.bool y.neg) ∧ w'.cell? ⟨bm, om + i * 3 + 1, none⟩ = some (.slice y.A y.n y.cap) ∧ w'.cell? ⟨bm, om + i * 3 + 2, none⟩ = some (.int .i64 y.E))) W' := fun W' hb => ⟨⟨(hb.cell (p := ⟨bn, on + i * 3, none⟩) hbn).trans x0, (hb.cell (p := ⟨bn, on + i * 3 + 1, none⟩) hbn).trans x1, (hb.cell (p := ⟨bn, on + i * 3 + 2, none⟩) hbn).trans x2⟩, (hb.cell (p := ⟨bm, om + i * 3, none⟩) hbm).trans t0, (hb.cell (p := ⟨bm, om + i * 3 + 1, none⟩) hbm).trans t1, (hb.cell (p := ⟨bm, om + i * 3 + 2, none⟩) hbm).trans t2⟩
         have hdr := (Below.refl wr.heap.size wr).drew
         have hd := hBi.drew
         have hpl := fun W (hb : Below Wj.heap.size Wj W) => plus_r W (-2212) 5000 x y _ _ ((hx.below hb).wide (by decide) (by decide)) ((hy.below hb).wide (by decide) (by decide)) (by decide) (by decide) (by decide) (by decide) (few_W _ 2 (by decide) (Nat.le_trans (sum2_le (getD_num _ (colI_num hza n i0) i) (getD_num _ (colI_num hzb n i0) i)) (Nat.mul_le_mul_left _ FB_le_PB)))
         refine late_begin (fun w' => (w'.cell? ⟨bn, on + i * 3, none⟩ = some (.bool x.neg) ∧ w'.cell? ⟨bn, on + i * 3 + 1, none⟩ = some (.slice x.A x.n x.cap) ∧ w'.cell? ⟨bn, on + i * 3 + 2, none⟩ = some (.int .i64 x.E)) ∧ (w'.cell? ⟨bm, om + i * 3, none⟩ = some (.bool y.neg) ∧ w'.cell? ⟨bm, om + i * 3 + 1, none⟩ = some (.slice y.A y.n y.cap) ∧ w'.cell? ⟨bm, om + i * 3 + 2, none⟩ = some (.int .i64 y.E))) [] (by kernel_rfl) ?_
         refine lateT 0 (some 115) rfl rfl (hS _ hd) ?_
         try simp only [Act.put, lA, lZ, lC]
         refine lateT 1 (some 116) rfl rfl (hS _ hd) ?_
         try simp only [Act.put, lA, lZ, lC]
         refine lateT 2 (some 117) rfl rfl (hS _ hd) ?_
         try simp only [Act.put, lA, lZ, lC]
         refine lateT 3 (some 118) rfl rfl (hS _ hd) ?_
         try simp only [Act.put, lA, lZ, lC]
         refine lateT 4 (some 119) rfl rfl (hS _ hd) ?_
         try simp only [Act.put, lA, lZ, lC]
         refine lateT 5 (some 120) rfl rfl (hS _ hd) ?_
         try simp only [Act.put, lA, lZ, lC]
         refine lateT 6 (some 121) rfl rfl (hS _ hd) ?_
         try simp only [Act.put, lA, lZ, lC]
         refine lateT 7 (some 122) rfl rfl (hS _ hd) ?_
         try simp only [Act.put, lA, lZ, lC]
         refine lateT 8 (some 123) rfl rfl (hS _ hd) ?_
         try simp only [Act.put, lA, lZ, lC]
         refine late_one (i := 9) rfl (by kernel_rfl) ?_
         intro K hK
         go_simp
         refine (hpl _ hd).mono ?_
         rintro e w3 ⟨sx, rfl, hsx, hb3⟩
         have f3 := hd.trans (hb3.mono hd.size)
         have g3 := hdr.trans (hb3.mono hdr.size)
         try show K _ _
         refine hK.out _ _ (Or.inr (hS _ f3)) ?_
         clear hK K
         try simp only [Act.put, lA, lZ, lC]
         refine late_one (i := 10) rfl (by kernel_rfl) ?_
         intro K hK
         go_simp
         have f4 := f3.alloc f3.size (.cells #[.bool sx.neg, .slice sx.A sx.n sx.cap, .int .i64 sx.E] 70)
         have g4 := g3.alloc g3.size (.cells #[.bool sx.neg, .slice sx.A sx.n sx.cap, .int .i64 sx.E] 70)
         try show K _ _
         refine hK.out _ _ (Or.inr (hS _ f4)) ?_
         clear hK K
         try simp only [Act.put, lA, lZ, lC]
         refine late_one (i := 11) rfl (by kernel_rfl) ?_
         intro K hK
         have hA := hN.below g4
         have hszA := f4.size
         have hsx4 := hsx.below (below_alloc w3 (.cells #[.bool sx.neg, .slice sx.A sx.n sx.cap, .int .i64 sx.E] 70))
         have hnew := heap_alloc_new w3 (.cells #[.bool sx.neg, .slice sx.A sx.n sx.cap, .int .i64 sx.E] 70)
         refine step_append_g NV.cells 3 40 (.agg #[.bool false, .slice none 0 0, .int .i64 0]) 58 70 Tryz.underlying58 infoNum rfl (by decide) (fun _ => rfl) rfl _ _ rfl Wj.heap.size _ _ [sx] rfl hA.own ⟨w3.heap.size, 0, none⟩ 1 1 rfl rfl (World.news_of_block hnew) (by unfold maxLen; omega) (by omega) hszA (fun y hy u hu => by simp at hy; subst hy; simp [NV.cells] at hu; rcases hu with rfl | rfl | rfl <;> rfl) ?_
         intro v8 w8 ho8 hg8 _
         have f8 := f4.trans (below_ownG hA.own hg8 hszA)
         have KK := Lib.hid (And.intro (hA.add hsx4 ho8 hg8) f8)
         clear ho8 hg8 hA hsx4 hnew hszA
         try show K _ _
         refine hK.out _ _ (Or.inr (hS _ f8)) ?_
         clear hK K
         try simp only [Act.put, lA, lZ, lC]
         refine lateT 12 (some 18) rfl rfl (hS _ f8) ?_
         try simp only [Act.put, lA, lZ, lC]
         refine late_done (by kernel_rfl) ?_ _
         obtain ⟨hN2, hB2⟩ := KK.out
         rw [← sumL_succ] at hN2
         have HST := Lib.hid (And.intro hN2 hB2)
         clear KK hS hd hdr hpl hsx hb3 f3 g3 f4 g4 f8 x0 x1 x2 t0 t1 t2 hx hy hN2 hB2 hN
         go_wp2_with fail
         go_roundw
         case rel => exact ⟨i + 1, _, by omega, by go_num, HST.out.1, HST.out.2⟩
         case measure => simp [intOf]; omega
        ·obtain rfl : n = i := by omega
         have hlt' : decide ((n : Int) < (n : Nat)) = false := by simp
         obtain ⟨Al, kl, rfl, hlN⟩ := hN.row
         rw [sumL_len]
         have hxa := below_alloc wr (.cells #[.slice Al n kl] 58)
         have hG5 := (HGr.out.below hBi).below hxa
         have hl5 := hlN.below hxa
         have hB5 := hBj.trans ((hBi.trans (hxa.mono hBi.size)).mono hBj.size)
         clear hxa hN hlN
         go_wp2_with (at_builtin; refine wpList_app1 cV 24 (.slice none 0 0) 59 58 Tryz.underlying59 infoLN rfl rfl (.tmp 127) (.tmp 129) rfl W8.heap.size _ vals (.slice Al n kl) (.slice Al n kl) wr.heap.size rfl rfl hG5.own rfl rfl (cell_new0 wr _ 58) (by omega) (by omega) hB5.size ?_; intro v8 w8 ho8 hg8 _; have hG8 := hG5.add hl5 (by rw [sumL_len]; exact ho8) hg8; rw [map_take_snoc (fun i => sumL (colI a n i) (colI b n i) n) U j i0 HI0.out] at hG8; have K8 := Lib.hid (And.intro hG8 (hB5.trans (below_ownG hG5.own hg8 hB5.size))); clear hG8 ho8 hg8)
         go_roundw
         case rel => exact ⟨j + 1, _, by omega, by go_num, K8.out.1, K8.out.2⟩
         case measure => simp [intOf]; omega
      ·obtain rfl : U.length = j := by omega
       have hlt' : decide (((U.length : Nat) : Int) < (U.length : Nat)) = false := by simp
       rw [List.take_length] at hG
       obtain ⟨Ag, kg, rfl, hgN⟩ := hG.row
       rw [List.length_map]
       have hla := Laid10_any wr Ac Au Ag Ar kc ku kg kr a b hza hzb n U hn1 hn3 HUL.out (hcN.below hBj) (hU.at_.below hBj) hgN (hrN.below hBj)
       have hBw := hB8w.trans (hBj.mono hB8w.size)
       have k2r := k28.below hBj
       have hsz2 : h2 < wr.heap.size := k2r.lt
       clear hG hBj
       go_wp2_with fail
       refine hla.mono ?_
       clear hla
       rintro e w9 (⟨hpz, rfl, hb9⟩ | ⟨y, v, hpz, rfl, hv, hb9⟩)
       ·have HE := Lib.hid (show plusD a b = lostZ ((n : Int)) by rw [plusD_none hn HNE.out (by rw [HUE.out]; exact hpz), HSM0.out])
        have hxa := below_alloc w9 (.cells #[.int .i64 0, .slice none 0 0, .slice none 0 0, .slice none 0 0, .slice none 0 0, .bool false] 30)
        have k5 := (k2r.below hb9).below hxa
        have hB5 := (hBw.trans (hb9.mono hBw.size)).trans (hxa.mono (hBw.trans (hb9.mono hBw.size)).size)
        clear hpz
        unfold zeroU
        have hlo := Lost10_any (w9.alloc (.cells #[.int .i64 0, .slice none 0 0, .slice none 0 0, .slice none 0 0, .slice none 0 0, .bool false] 30)) (n : Int)
        unfold lostV at hlo
        go_wp2_with fail
        refine hlo.mono ?_
        rintro e wz ⟨rfl, hb9⟩
        have k9 : UB wz h2 _ _ _ _ _ _ := UB.below k5 hb9
        have hB9 := hB5.trans (hb9.mono hB5.size)
        obtain ⟨o0, o1, o2, o3, o4, o5⟩ := k9.cells
        have hfr9 := fun j => k9.frozen j
        clear hlo hb9
        go_wp2_with fail
        obtain ⟨q1, q2⟩ := k9.put (.int .i64 (n : Int)) (.slice none 0 0) (.slice none 0 0) (.slice none 0 0) (.slice none 0 0) (.bool true)
        obtain ⟨c0, c1, c2, c3, c4, c5⟩ := q1.cells
        refine bodyPost_ret (v := .agg #[.int .i64 (n : Int), .slice none 0 0, .slice none 0 0, .slice none 0 0, .slice none 0 0, .bool true]) (by simp [results, Tryz.results55, go_sem, c0, c1, c2, c3, c4, c5]) rfl ?_
        rw [HE.out]
        exact ⟨_, rfl, lostV_uis _ _, hB9.trans (below_row q2 (by omega) hB9.size)⟩
       ·obtain ⟨A5, B5, C5, D5, kA5, kB5, kC5, kD5, rfl⟩ := hv.slices
        have HE := Lib.hid (show plusD a b = y from plusD_some hn HNE.out (by rw [HUE.out]; exact hpz))
        have hxa := below_alloc w9 (.cells #[.int .i64 y.n, .slice A5 y.c.length kA5, .slice B5 y.ids.length kB5, .slice C5 y.g.length kC5, .slice D5 y.r.length kD5, .bool false] 30)
        have kz : UB (w9.alloc (.cells #[.int .i64 y.n, .slice A5 y.c.length kA5, .slice B5 y.ids.length kB5, .slice C5 y.g.length kC5, .slice D5 y.r.length kD5, .bool false] 30)) w9.heap.size _ _ _ _ _ _ := UB.new w9 _ _ _ _ _ _
        have k5 := (k2r.below hb9).below hxa
        have hB5 := (hBw.trans (hb9.mono hBw.size)).trans (hxa.mono (hBw.trans (hb9.mono hBw.size)).size)
        have hz6 := hv.below hxa
        clear hpz hv hb9 hxa hBw k2r
        go_upto_region 28 with fail
        generalize w9.alloc (.cells #[.int .i64 y.n, .slice A5 y.c.length kA5, .slice B5 y.ids.length kB5, .slice C5 y.g.length kC5, .slice D5 y.r.length kD5, .bool false] 30) = W9 at *
        obtain ⟨g0, g1, g2, g3, g4, g5⟩ := kz.cells
        obtain ⟨o0, o1, o2, o3, o4, o5⟩ := k5.cells
        have hfr0 := fun j => k5.frozen j
        obtain ⟨q1, q2⟩ := k5.put (.int .i64 y.n) (.slice A5 y.c.length kA5) (.slice B5 y.ids.length kB5) (.slice C5 y.g.length kC5) (.slice D5 y.r.length kD5) (.bool false)
        have HU := Lib.hid (hz6.far q2 k5.typed).is
        have HBf := Lib.hid (hB5.trans (below_row q2 (by omega) hB5.size))
        obtain ⟨c0, c1, c2, c3, c4, c5⟩ := q1.cells
        have HC := Lib.hid (And.intro c0 (And.intro c1 (And.intro c2 (And.intro c3 (And.intro c4 c5)))))
        clear c0 c1 c2 c3 c4 c5 q1 q2 hz6
        go_wp2_with fail
        obtain ⟨c0, c1, c2, c3, c4, c5⟩ := HC.out
        refine bodyPost_ret (v := .agg #[.int .i64 y.n, .slice A5 y.c.length kA5, .slice B5 y.ids.length kB5, .slice C5 y.g.length kC5, .slice D5 y.r.length kD5, .bool false]) (by simp [results, Tryz.results55, go_sem, c0, c1, c2, c3, c4, c5]) rfl ?_
        rw [HE.out]
        exact ⟨_, rfl, HU.out, HBf.out⟩
  ·have hne' : (a.n == b.n) = false := beq_eq_false_iff_ne.2 hne
   have hne2 : (a.n != b.n) = true := bne_iff_ne.2 hne
   have HE := Lib.hid (show plusD a b = lostZ sm by rw [plusD_no (fun h => hne h.2.2), HSM0.out])
   go_wp2_with fail
   have k8 := k7
   have hB8 := hB7
   have hlo := Lost10_any W7 sm
   unfold lostV at hlo
   go_wp2_with fail
   refine hlo.mono ?_
   rintro e w9 ⟨rfl, hb9⟩
   have k9 : UB w9 h2 _ _ _ _ _ _ := UB.below k8 hb9
   have hB9 := hB8.trans (hb9.mono hB8.size)
   obtain ⟨o0, o1, o2, o3, o4, o5⟩ := k9.cells
   have hfr9 := fun j => k9.frozen j
   clear hlo hb9
   go_wp2_with fail
   obtain ⟨q1, q2⟩ := k9.put (.int .i64 sm) (.slice none 0 0) (.slice none 0 0) (.slice none 0 0) (.slice none 0 0) (.bool true)
   obtain ⟨c0, c1, c2, c3, c4, c5⟩ := q1.cells
   refine bodyPost_ret (v := .agg #[.int .i64 sm, .slice none 0 0, .slice none 0 0, .slice none 0 0, .slice none 0 0, .bool true]) (by simp [results, Tryz.results55, go_sem, c0, c1, c2, c3, c4, c5]) rfl ?_
   rw [HE.out]
   exact ⟨_, rfl, lostV_uis _ _, hB9.trans (below_row q2 (by omega) hB9.size)⟩
end Go.Proofs.YtpfbgenefjhcjaaGreatDoor
