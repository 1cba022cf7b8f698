/- zono.Same: of any two. -/
import Derived.Test.YtpfbgenefjhcjaaGreatDoorPZoSam
import Derived.Test.YtpfbgenefjhcjaaGreatDoorPZoLif
namespace Go.Proofs.YtpfbgenefjhcjaaGreatDoor
set_option linter.unusedVariables false
set_option linter.unusedSimpArgs false
open Go Go.RowKit
set_option maxRecDepth 100000
def sameB (a b : ZD) : Bool := if goodD a = true ∧ goodD b = true then sameG a b else !goodD a && !goodD b && sizeD a == sizeD b
set_option maxHeartbeats 8000000 in
theorem same_any (w : World) (va vb : Value) (a b : ZD) (ha : ZIs w va a) (hb : ZIs w vb b) (ka : ZOk a) (kb : ZOk b) :
  Calls Tryz.prog 44 #[va, vb] w fun e w' => e = .returned (.bool (sameB a b)) ∧ Below w.heap.size w w' := by
 obtain ⟨A, B, C, D, kA, kB, kC, kD, rfl, hc⟩ := ha
 obtain ⟨A2, B2, C2, D2, kA2, kB2, kC2, kD2, rfl, hc2⟩ := hb
 by_cases hgg : goodD a = true ∧ goodD b = true
 ·unfold sameB
  rw [if_pos hgg]
  exact same_good w A B C D A2 B2 C2 D2 kA kB kC kD kA2 kB2 kC2 kD2 a b hc hc2 ka kb ((goodD_iff a).1 hgg.1) ((goodD_iff b).1 hgg.2)
 ·obtain ⟨f0, f1, f2, f3⟩ := two_blocks w (.cells #[.int .i64 a.n, .slice A a.c.length kA, .slice B a.ids.length kB, .slice C a.g.length kC, .slice D a.r.length kD, .bool a.bad] 26) (.cells #[.int .i64 b.n, .slice A2 b.c.length kA2, .slice B2 b.ids.length kB2, .slice C2 b.g.length kC2, .slice D2 b.r.length kD2, .bool b.bad] 26)
  have hgA := fun W (hb : Below w.heap.size w W) => good_any W _ a ⟨A, B, C, D, kA, kB, kC, kD, rfl, hc.below hb⟩ ka
  have hgB := fun W (hb : Below w.heap.size w W) => good_any W _ b ⟨A2, B2, C2, D2, kA2, kB2, kC2, kD2, rfl, hc2.below hb⟩ kb
  have hbA := fun W (hb : Below w.heap.size w W) => bad_any W _ a ⟨A, B, C, D, kA, kB, kC, kD, rfl, hc.below hb⟩ ka
  have hbB := fun W (hb : Below w.heap.size w W) => bad_any W _ b ⟨A2, B2, C2, D2, kA2, kB2, kC2, kD2, rfl, hc2.below hb⟩ kb
  unfold zval at hgA hgB hbA hbB
  unfold lostV at hbA hbB
  unfold zval
  have hsm : sameB a b = (!goodD a && !goodD b && sizeD a == sizeD b) := by unfold sameB; rw [if_neg hgg]
  rw [hsm]
  obtain ⟨sa, hsa⟩ : ∃ s, sizeD a = s := ⟨_, rfl⟩
  obtain ⟨sb, hsb⟩ : ∃ s, sizeD b = s := ⟨_, rfl⟩
  rw [hsa] at hbA ⊢
  rw [hsb] at hbB ⊢
  clear hsa hsb hsm
  go_enter Tryz.func44, Tryz.ntmps44
  go_upto_region 1 with fail
  generalize (w.alloc (.cells #[.int .i64 a.n, .slice A a.c.length kA, .slice B a.ids.length kB, .slice C a.g.length kC, .slice D a.r.length kD, .bool a.bad] 26)).alloc (.cells #[.int .i64 b.n, .slice A2 b.c.length kA2, .slice B2 b.ids.length kB2, .slice C2 b.g.length kC2, .slice D2 b.r.length kD2, .bool b.bad] 26) = W1 at *
  obtain ⟨h0, e0⟩ : ∃ h, w.heap.size = h := ⟨_, rfl⟩
  rw [e0] at f0 f1 f2 ⊢
  obtain ⟨h1, e1⟩ : ∃ h, h0 + 1 = h := ⟨_, rfl⟩
  rw [e1] at f1 f2 ⊢
  have k0 : ZB W1 h0 _ _ _ _ _ _ := f0
  have k1 : ZB W1 h1 _ _ _ _ _ _ := f1
  replace hgA := fun W (hb : Below W1.heap.size W1 W) => hgA W (f3.trans (hb.mono f3.size))
  replace hgB := fun W (hb : Below W1.heap.size W1 W) => hgB W (f3.trans (hb.mono f3.size))
  replace hbA := fun W (hb : Below W1.heap.size W1 W) => hbA W (f3.trans (hb.mono f3.size))
  replace hbB := fun W (hb : Below W1.heap.size W1 W) => hbB W (f3.trans (hb.mono f3.size))
  obtain ⟨x0, x1, x2, x3, x4, x5⟩ := cells6 k0
  have hg1 := hgA W1 (Below.refl _ _)
  cases hga : goodD a with
  | false =>
   rw [hga] at hg1 hgA
   cases hgb : goodD b with
   | false =>
    rw [hgb] at hgB
    have HG := Lib.hid (And.intro hga hgb)
    clear hga hgb
    go_wp2_with fail
    refine hg1.mono ?_
    rintro e w2 ⟨rfl, hb2⟩
    clear x0 x1 x2 x3 x4 x5 hg1
    go_wp2_with fail
    have k0 := ZB.below k0 hb2
    have k1 := ZB.below k1 hb2
    replace hgA := fun W (hb : Below w2.heap.size w2 W) => hgA W (hb2.trans (hb.mono hb2.size))
    replace hgB := fun W (hb : Below w2.heap.size w2 W) => hgB W (hb2.trans (hb.mono hb2.size))
    replace hbA := fun W (hb : Below w2.heap.size w2 W) => hbA W (hb2.trans (hb.mono hb2.size))
    replace hbB := fun W (hb : Below w2.heap.size w2 W) => hbB W (hb2.trans (hb.mono hb2.size))
    have hS : ∀ W', Below w2.heap.size w2 W' → (fun w' => (w'.cell? ⟨h0, 0, none⟩ = some (.int .i64 a.n) ∧ w'.cell? ⟨h0, 1, none⟩ = some (.slice A a.c.length kA) ∧ w'.cell? ⟨h0, 2, none⟩ = some (.slice B a.ids.length kB) ∧ w'.cell? ⟨h0, 3, none⟩ = some (.slice C a.g.length kC) ∧ w'.cell? ⟨h0, 4, none⟩ = some (.slice D a.r.length kD) ∧ w'.cell? ⟨h0, 5, none⟩ = some (.bool a.bad)) ∧ (w'.cell? ⟨h1, 0, none⟩ = some (.int .i64 b.n) ∧ w'.cell? ⟨h1, 1, none⟩ = some (.slice A2 b.c.length kA2) ∧ w'.cell? ⟨h1, 2, none⟩ = some (.slice B2 b.ids.length kB2) ∧ w'.cell? ⟨h1, 3, none⟩ = some (.slice C2 b.g.length kC2) ∧ w'.cell? ⟨h1, 4, none⟩ = some (.slice D2 b.r.length kD2) ∧ w'.cell? ⟨h1, 5, none⟩ = some (.bool b.bad))) W' := fun W' hb => ⟨cells6 (ZB.below k0 hb), cells6 (ZB.below k1 hb)⟩
    have hd := (Below.refl w2.heap.size w2).drew
    refine late_begin (fun w' => (w'.cell? ⟨h0, 0, none⟩ = some (.int .i64 a.n) ∧ w'.cell? ⟨h0, 1, none⟩ = some (.slice A a.c.length kA) ∧ w'.cell? ⟨h0, 2, none⟩ = some (.slice B a.ids.length kB) ∧ w'.cell? ⟨h0, 3, none⟩ = some (.slice C a.g.length kC) ∧ w'.cell? ⟨h0, 4, none⟩ = some (.slice D a.r.length kD) ∧ w'.cell? ⟨h0, 5, none⟩ = some (.bool a.bad)) ∧ (w'.cell? ⟨h1, 0, none⟩ = some (.int .i64 b.n) ∧ w'.cell? ⟨h1, 1, none⟩ = some (.slice A2 b.c.length kA2) ∧ w'.cell? ⟨h1, 2, none⟩ = some (.slice B2 b.ids.length kB2) ∧ w'.cell? ⟨h1, 3, none⟩ = some (.slice C2 b.g.length kC2) ∧ w'.cell? ⟨h1, 4, none⟩ = some (.slice D2 b.r.length kD2) ∧ w'.cell? ⟨h1, 5, none⟩ = some (.bool b.bad))) [] (by kernel_rfl) ?_
    refine lateT 0 (some 14) rfl rfl (hS _ hd) ?_
    try simp only [Act.put, lA, lZ, lC]
    refine late_one (i := 1) rfl (by kernel_rfl) ?_
    intro K hK
    go_simp
    refine (hgA _ hd).mono ?_
    rintro e v1 ⟨rfl, hb1⟩
    have f1 := hd.trans (hb1.mono hd.size)
    try show K _ _
    refine hK.out _ _ (Or.inr (hS _ f1)) ?_
    clear hK K
    try simp only [Act.put, lA, lZ, lC]
    refine lateT 2 (some 16) rfl rfl (hS _ f1) ?_
    try simp only [Act.put, lA, lZ, lC]
    refine lateT 3 (some 17) rfl rfl (hS _ f1) ?_
    try simp only [Act.put, lA, lZ, lC]
    refine lateT 4 (some 18) rfl rfl (hS _ f1) ?_
    try simp only [Act.put, lA, lZ, lC]
    refine late_one (i := 5) rfl (by kernel_rfl) ?_
    intro K hK
    go_simp
    refine (hgB _ f1).mono ?_
    rintro e v5 ⟨rfl, hb5⟩
    have f5 := f1.trans (hb5.mono f1.size)
    try show K _ _
    refine hK.out _ _ (Or.inr (hS _ f5)) ?_
    clear hK K
    try simp only [Act.put, lA, lZ, lC]
    refine lateT 6 (some 20) rfl rfl (hS _ f5) ?_
    try simp only [Act.put, lA, lZ, lC]
    refine lateT 7 (some 21) rfl rfl (hS _ f5) ?_
    try simp only [Act.put, lA, lZ, lC]
    refine lateT 8 (some 22) rfl rfl (hS _ f5) ?_
    try simp only [Act.put, lA, lZ, lC]
    refine lateT 9 (some 23) rfl rfl (hS _ f5) ?_
    try simp only [Act.put, lA, lZ, lC]
    refine lateT 12 (some 26) rfl rfl (hS _ f5) ?_
    try simp only [Act.put, lA, lZ, lC]
    refine late_one (i := 10) rfl (by kernel_rfl) ?_
    intro K hK
    go_simp
    refine (hbA _ f5).mono ?_
    rintro e v10 ⟨rfl, hb10⟩
    have f10 := f5.trans (hb10.mono f5.size)
    try show K _ _
    refine hK.out _ _ (Or.inr (hS _ f10)) ?_
    clear hK K
    try simp only [Act.put, lA, lZ, lC]
    refine lateT 11 (some 25) rfl rfl (hS _ f10) ?_
    try simp only [Act.put, lA, lZ, lC]
    refine late_one (i := 13) rfl (by kernel_rfl) ?_
    intro K hK
    go_simp
    refine (hbB _ f10).mono ?_
    rintro e v13 ⟨rfl, hb13⟩
    have f13 := f10.trans (hb13.mono f10.size)
    try show K _ _
    refine hK.out _ _ (Or.inr (hS _ f13)) ?_
    clear hK K
    try simp only [Act.put, lA, lZ, lC]
    refine lateT 14 (some 28) rfl rfl (hS _ f13) ?_
    try simp only [Act.put, lA, lZ, lC]
    refine lateT 15 (some 29) rfl rfl (hS _ f13) ?_
    try simp only [Act.put, lA, lZ, lC]
    refine lateT 16 (some 30) rfl rfl (hS _ f13) ?_
    try simp only [Act.put, lA, lZ, lC]
    refine lateT 17 (some 4) rfl rfl (hS _ f13) ?_
    try simp only [Act.put, lA, lZ, lC]
    refine late_done (by kernel_rfl) ?_ _
    have HF := Lib.hid (f3.trans (hb2.trans (f13.mono hb2.size) |>.mono f3.size))
    clear hS hd
    go_wp2_with fail
    go_ret
    exact ⟨by simp [HG.out.1, HG.out.2], HF.out⟩
   | true =>
    rw [hgb] at hgB
    have HG := Lib.hid (And.intro hga hgb)
    clear hga hgb
    go_wp2_with fail
    refine hg1.mono ?_
    rintro e w2 ⟨rfl, hb2⟩
    clear x0 x1 x2 x3 x4 x5 hg1
    go_wp2_with fail
    have k0 := ZB.below k0 hb2
    have k1 := ZB.below k1 hb2
    replace hgA := fun W (hb : Below w2.heap.size w2 W) => hgA W (hb2.trans (hb.mono hb2.size))
    replace hgB := fun W (hb : Below w2.heap.size w2 W) => hgB W (hb2.trans (hb.mono hb2.size))
    replace hbA := fun W (hb : Below w2.heap.size w2 W) => hbA W (hb2.trans (hb.mono hb2.size))
    replace hbB := fun W (hb : Below w2.heap.size w2 W) => hbB W (hb2.trans (hb.mono hb2.size))
    have hS : ∀ W', Below w2.heap.size w2 W' → (fun w' => (w'.cell? ⟨h0, 0, none⟩ = some (.int .i64 a.n) ∧ w'.cell? ⟨h0, 1, none⟩ = some (.slice A a.c.length kA) ∧ w'.cell? ⟨h0, 2, none⟩ = some (.slice B a.ids.length kB) ∧ w'.cell? ⟨h0, 3, none⟩ = some (.slice C a.g.length kC) ∧ w'.cell? ⟨h0, 4, none⟩ = some (.slice D a.r.length kD) ∧ w'.cell? ⟨h0, 5, none⟩ = some (.bool a.bad)) ∧ (w'.cell? ⟨h1, 0, none⟩ = some (.int .i64 b.n) ∧ w'.cell? ⟨h1, 1, none⟩ = some (.slice A2 b.c.length kA2) ∧ w'.cell? ⟨h1, 2, none⟩ = some (.slice B2 b.ids.length kB2) ∧ w'.cell? ⟨h1, 3, none⟩ = some (.slice C2 b.g.length kC2) ∧ w'.cell? ⟨h1, 4, none⟩ = some (.slice D2 b.r.length kD2) ∧ w'.cell? ⟨h1, 5, none⟩ = some (.bool b.bad))) W' := fun W' hb => ⟨cells6 (ZB.below k0 hb), cells6 (ZB.below k1 hb)⟩
    have hd := (Below.refl w2.heap.size w2).drew
    refine late_begin (fun w' => (w'.cell? ⟨h0, 0, none⟩ = some (.int .i64 a.n) ∧ w'.cell? ⟨h0, 1, none⟩ = some (.slice A a.c.length kA) ∧ w'.cell? ⟨h0, 2, none⟩ = some (.slice B a.ids.length kB) ∧ w'.cell? ⟨h0, 3, none⟩ = some (.slice C a.g.length kC) ∧ w'.cell? ⟨h0, 4, none⟩ = some (.slice D a.r.length kD) ∧ w'.cell? ⟨h0, 5, none⟩ = some (.bool a.bad)) ∧ (w'.cell? ⟨h1, 0, none⟩ = some (.int .i64 b.n) ∧ w'.cell? ⟨h1, 1, none⟩ = some (.slice A2 b.c.length kA2) ∧ w'.cell? ⟨h1, 2, none⟩ = some (.slice B2 b.ids.length kB2) ∧ w'.cell? ⟨h1, 3, none⟩ = some (.slice C2 b.g.length kC2) ∧ w'.cell? ⟨h1, 4, none⟩ = some (.slice D2 b.r.length kD2) ∧ w'.cell? ⟨h1, 5, none⟩ = some (.bool b.bad))) [] (by kernel_rfl) ?_
    refine lateT 0 (some 14) rfl rfl (hS _ hd) ?_
    try simp only [Act.put, lA, lZ, lC]
    refine late_one (i := 1) rfl (by kernel_rfl) ?_
    intro K hK
    go_simp
    refine (hgA _ hd).mono ?_
    rintro e v1 ⟨rfl, hb1⟩
    have f1 := hd.trans (hb1.mono hd.size)
    try show K _ _
    refine hK.out _ _ (Or.inr (hS _ f1)) ?_
    clear hK K
    try simp only [Act.put, lA, lZ, lC]
    refine lateT 2 (some 16) rfl rfl (hS _ f1) ?_
    try simp only [Act.put, lA, lZ, lC]
    refine lateT 3 (some 17) rfl rfl (hS _ f1) ?_
    try simp only [Act.put, lA, lZ, lC]
    refine lateT 4 (some 18) rfl rfl (hS _ f1) ?_
    try simp only [Act.put, lA, lZ, lC]
    refine late_one (i := 5) rfl (by kernel_rfl) ?_
    intro K hK
    go_simp
    refine (hgB _ f1).mono ?_
    rintro e v5 ⟨rfl, hb5⟩
    have f5 := f1.trans (hb5.mono f1.size)
    try show K _ _
    refine hK.out _ _ (Or.inr (hS _ f5)) ?_
    clear hK K
    try simp only [Act.put, lA, lZ, lC]
    refine lateT 6 (some 20) rfl rfl (hS _ f5) ?_
    try simp only [Act.put, lA, lZ, lC]
    refine lateT 7 (some 21) rfl rfl (hS _ f5) ?_
    try simp only [Act.put, lA, lZ, lC]
    refine lateT 8 (some 22) rfl rfl (hS _ f5) ?_
    try simp only [Act.put, lA, lZ, lC]
    refine lateX 9 (some 23) rfl rfl (hS _ f5) ?_
    try simp only [Act.put, lA, lZ, lC]
    refine lateX 10 (some 24) rfl rfl (hS _ f5) ?_
    try simp only [Act.put, lA, lZ, lC]
    refine lateX 11 (some 25) rfl rfl (hS _ f5) ?_
    try simp only [Act.put, lA, lZ, lC]
    refine lateX 12 (some 26) rfl rfl (hS _ f5) ?_
    try simp only [Act.put, lA, lZ, lC]
    refine lateX 13 (some 27) rfl rfl (hS _ f5) ?_
    try simp only [Act.put, lA, lZ, lC]
    refine lateX 14 (some 28) rfl rfl (hS _ f5) ?_
    try simp only [Act.put, lA, lZ, lC]
    refine lateX 15 (some 29) rfl rfl (hS _ f5) ?_
    try simp only [Act.put, lA, lZ, lC]
    refine lateT 16 (some 30) rfl rfl (hS _ f5) ?_
    try simp only [Act.put, lA, lZ, lC]
    refine lateT 17 (some 4) rfl rfl (hS _ f5) ?_
    try simp only [Act.put, lA, lZ, lC]
    refine late_done (by kernel_rfl) ?_ _
    have HF := Lib.hid (f3.trans (hb2.trans (f5.mono hb2.size) |>.mono f3.size))
    clear hS hd
    go_wp2_with fail
    go_ret
    exact ⟨by simp [HG.out.1, HG.out.2], HF.out⟩
  | true =>
   have hgb : goodD b = false := by
    cases h : goodD b with
    | false => rfl
    | true => exact absurd ⟨hga, h⟩ hgg
   rw [hga] at hg1 hgA
   rw [hgb] at hgB
   have HG := Lib.hid (And.intro hga hgb)
   clear hga hgb
   go_wp2_with fail
   refine hg1.mono ?_
   rintro e w2 ⟨rfl, hb2⟩
   have hg2 := hgB w2 hb2
   obtain ⟨y0, y1, y2, y3, y4, y5⟩ := cells6 (ZB.below k1 hb2)
   clear x0 x1 x2 x3 x4 x5 hg1
   go_wp2_with fail
   refine hg2.mono ?_
   rintro e w3 ⟨rfl, hb3⟩
   have hb23 := hb2.trans (hb3.mono hb2.size)
   clear hg2 y0 y1 y2 y3 y4 y5
   go_wp2_with fail
   have k0 := ZB.below k0 hb23
   have k1 := ZB.below k1 hb23
   replace hgA := fun W (hb : Below w3.heap.size w3 W) => hgA W (hb23.trans (hb.mono hb23.size))
   replace hgB := fun W (hb : Below w3.heap.size w3 W) => hgB W (hb23.trans (hb.mono hb23.size))
   replace hbA := fun W (hb : Below w3.heap.size w3 W) => hbA W (hb23.trans (hb.mono hb23.size))
   replace hbB := fun W (hb : Below w3.heap.size w3 W) => hbB W (hb23.trans (hb.mono hb23.size))
   have hS : ∀ W', Below w3.heap.size w3 W' → (fun w' => (w'.cell? ⟨h0, 0, none⟩ = some (.int .i64 a.n) ∧ w'.cell? ⟨h0, 1, none⟩ = some (.slice A a.c.length kA) ∧ w'.cell? ⟨h0, 2, none⟩ = some (.slice B a.ids.length kB) ∧ w'.cell? ⟨h0, 3, none⟩ = some (.slice C a.g.length kC) ∧ w'.cell? ⟨h0, 4, none⟩ = some (.slice D a.r.length kD) ∧ w'.cell? ⟨h0, 5, none⟩ = some (.bool a.bad)) ∧ (w'.cell? ⟨h1, 0, none⟩ = some (.int .i64 b.n) ∧ w'.cell? ⟨h1, 1, none⟩ = some (.slice A2 b.c.length kA2) ∧ w'.cell? ⟨h1, 2, none⟩ = some (.slice B2 b.ids.length kB2) ∧ w'.cell? ⟨h1, 3, none⟩ = some (.slice C2 b.g.length kC2) ∧ w'.cell? ⟨h1, 4, none⟩ = some (.slice D2 b.r.length kD2) ∧ w'.cell? ⟨h1, 5, none⟩ = some (.bool b.bad))) W' := fun W' hb => ⟨cells6 (ZB.below k0 hb), cells6 (ZB.below k1 hb)⟩
   have hd := (Below.refl w3.heap.size w3).drew
   refine late_begin (fun w' => (w'.cell? ⟨h0, 0, none⟩ = some (.int .i64 a.n) ∧ w'.cell? ⟨h0, 1, none⟩ = some (.slice A a.c.length kA) ∧ w'.cell? ⟨h0, 2, none⟩ = some (.slice B a.ids.length kB) ∧ w'.cell? ⟨h0, 3, none⟩ = some (.slice C a.g.length kC) ∧ w'.cell? ⟨h0, 4, none⟩ = some (.slice D a.r.length kD) ∧ w'.cell? ⟨h0, 5, none⟩ = some (.bool a.bad)) ∧ (w'.cell? ⟨h1, 0, none⟩ = some (.int .i64 b.n) ∧ w'.cell? ⟨h1, 1, none⟩ = some (.slice A2 b.c.length kA2) ∧ w'.cell? ⟨h1, 2, none⟩ = some (.slice B2 b.ids.length kB2) ∧ w'.cell? ⟨h1, 3, none⟩ = some (.slice C2 b.g.length kC2) ∧ w'.cell? ⟨h1, 4, none⟩ = some (.slice D2 b.r.length kD2) ∧ w'.cell? ⟨h1, 5, none⟩ = some (.bool b.bad))) [] (by kernel_rfl) ?_
   refine lateT 0 (some 14) rfl rfl (hS _ hd) ?_
   try simp only [Act.put, lA, lZ, lC]
   refine late_one (i := 1) rfl (by kernel_rfl) ?_
   intro K hK
   go_simp
   refine (hgA _ hd).mono ?_
   rintro e v1 ⟨rfl, hb1⟩
   have f1 := hd.trans (hb1.mono hd.size)
   try show K _ _
   refine hK.out _ _ (Or.inr (hS _ f1)) ?_
   clear hK K
   try simp only [Act.put, lA, lZ, lC]
   refine lateT 2 (some 16) rfl rfl (hS _ f1) ?_
   try simp only [Act.put, lA, lZ, lC]
   refine lateT 3 (some 17) rfl rfl (hS _ f1) ?_
   try simp only [Act.put, lA, lZ, lC]
   refine lateX 4 (some 18) rfl rfl (hS _ f1) ?_
   try simp only [Act.put, lA, lZ, lC]
   refine lateX 5 (some 19) rfl rfl (hS _ f1) ?_
   try simp only [Act.put, lA, lZ, lC]
   refine lateX 6 (some 20) rfl rfl (hS _ f1) ?_
   try simp only [Act.put, lA, lZ, lC]
   refine lateT 7 (some 21) rfl rfl (hS _ f1) ?_
   try simp only [Act.put, lA, lZ, lC]
   refine lateT 8 (some 22) rfl rfl (hS _ f1) ?_
   try simp only [Act.put, lA, lZ, lC]
   refine lateX 9 (some 23) rfl rfl (hS _ f1) ?_
   try simp only [Act.put, lA, lZ, lC]
   refine lateX 10 (some 24) rfl rfl (hS _ f1) ?_
   try simp only [Act.put, lA, lZ, lC]
   refine lateX 11 (some 25) rfl rfl (hS _ f1) ?_
   try simp only [Act.put, lA, lZ, lC]
   refine lateX 12 (some 26) rfl rfl (hS _ f1) ?_
   try simp only [Act.put, lA, lZ, lC]
   refine lateX 13 (some 27) rfl rfl (hS _ f1) ?_
   try simp only [Act.put, lA, lZ, lC]
   refine lateX 14 (some 28) rfl rfl (hS _ f1) ?_
   try simp only [Act.put, lA, lZ, lC]
   refine lateX 15 (some 29) rfl rfl (hS _ f1) ?_
   try simp only [Act.put, lA, lZ, lC]
   refine lateT 16 (some 30) rfl rfl (hS _ f1) ?_
   try simp only [Act.put, lA, lZ, lC]
   refine lateT 17 (some 4) rfl rfl (hS _ f1) ?_
   try simp only [Act.put, lA, lZ, lC]
   refine late_done (by kernel_rfl) ?_ _
   have HF := Lib.hid (f3.trans (hb23.trans (f1.mono hb23.size) |>.mono f3.size))
   clear hS hd
   go_wp2_with fail
   go_ret
   exact ⟨by simp [HG.out.1, HG.out.2], HF.out⟩
end Go.Proofs.YtpfbgenefjhcjaaGreatDoor
