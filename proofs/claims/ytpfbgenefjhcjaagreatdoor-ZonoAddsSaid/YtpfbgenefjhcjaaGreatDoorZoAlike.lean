/- ambitref10.Alike. -/
import Derived.Test.YtpfbgenefjhcjaaGreatDoorZoSumC
import Derived.Test.YtpfbgenefjhcjaaGreatDoorZoSameB
namespace Go.Proofs.YtpfbgenefjhcjaaGreatDoor
set_option linter.unusedVariables false
set_option linter.unusedSimpArgs false
open Go Go.RowKit
attribute [local go_sem] Oper.semAt_some
set_option maxRecDepth 100000
theorem eqD_iff (us vs : List Nat) : eqD us vs = true ↔ us.length = vs.length ∧ ∀ k, k < us.length → fz (us.getD k 0) = fz (vs.getD k 0) := by
 unfold eqD eqAt
 rw [Bool.and_eq_true, List.all_eq_true, beq_iff_eq]
 constructor
 ·rintro ⟨h1, h2⟩
  exact ⟨h2, fun k hk => beq_iff_eq.1 (h1 k (List.mem_range.2 hk))⟩
 ·rintro ⟨h1, h2⟩
  exact ⟨fun k hk => beq_iff_eq.2 (h2 k (List.mem_range.1 hk)), h1⟩
/-- Coordinate i of all columns up to K is the same. -/
def ColEq (a b : ZD) (i K : Nat) : Prop := ∀ k, k < K → a.ids.getD k 0 = b.ids.getD k 0 ∧ fz ((colZ a k).getD i 0) = fz ((colZ b k).getD i 0)
def RowEq (a b : ZD) (i : Nat) : Prop := fz (a.c.getD i 0) = fz (b.c.getD i 0) ∧ fz (a.r.getD i 0) = fz (b.r.getD i 0) ∧ ColEq a b i a.ids.length
theorem sameG_iff {a b : ZD} (ha : Good a) (hb : Good b) (n : Nat) (h1 : 1 ≤ n) (hn : a.n = (n : Int)) (hn2 : b.n = (n : Int)) : sameG a b = true ↔ a.ids.length = b.ids.length ∧ ∀ i, i < n → RowEq a b i := by
 have hla := ha.len
 have hlb := hb.len
 have hca : a.c.length = n := by have := ha.lenC; omega
 have hcb : b.c.length = n := by have := hb.lenC; omega
 have hra : a.r.length = n := by have := ha.lenR; omega
 have hrb : b.r.length = n := by have := hb.lenR; omega
 have cola : ∀ k, k < a.ids.length → (colZ a k).length = n := fun k hk => by
  have : a.g[k]? = some (colZ a k) := by unfold colZ; rw [List.getD_eq_getElem?_getD, List.getElem?_eq_getElem (by omega), Option.getD_some]
  have := (ha.colG k _ this).2
  omega
 have colb : ∀ k, k < b.ids.length → (colZ b k).length = n := fun k hk => by
  have : b.g[k]? = some (colZ b k) := by unfold colZ; rw [List.getD_eq_getElem?_getD, List.getElem?_eq_getElem (by omega), Option.getD_some]
  have := (hb.colG k _ this).2
  omega
 unfold sameG sameAt
 simp only [Bool.and_eq_true, beq_iff_eq, List.all_eq_true, List.mem_range, eqD_iff]
 constructor
 ·rintro ⟨⟨⟨⟨_, e1⟩, e2⟩, _, e3⟩, _, e4⟩
  exact ⟨e1, fun i hi => ⟨e3 i (by omega), e4 i (by omega), fun k hk => ⟨(e2 k hk).1, (e2 k hk).2.2 i (by rw [cola k hk]; exact hi)⟩⟩⟩
 ·rintro ⟨e1, e2⟩
  exact ⟨⟨⟨⟨by rw [hn, hn2], e1⟩, fun k hk => ⟨((e2 0 (by omega)).2.2 k hk).1, by rw [cola k hk, colb k (by omega)], fun i hi => ((e2 i (by rw [cola k hk] at hi; exact hi)).2.2 k hk).2⟩⟩, by omega, fun i hi => (e2 i (by omega)).1⟩, by omega, fun i hi => (e2 i (by omega)).2.1⟩
theorem sign_ne {x y : Int} (h : x ≠ y) : (x + -y).sign ≠ 0 := fun e => h (by have := Int.sign_eq_zero_iff_zero.1 e; omega)
theorem fz_W {u v : Nat} (hu : fexp u ≠ 2047) (hv : fexp v ≠ 2047) : (fz u + -fz v).natAbs < W32 ^ 400 := by
 have h1 := fz_lt u hu
 have h2 := fz_lt v hv
 exact few_W _ 2 (by decide) (Nat.le_trans (by omega) (Nat.mul_le_mul_left _ FB_le_PB))
set_option maxHeartbeats 32000000 in
theorem Alike_any (w : World) (va vb : Value) (a b : ZD) (ha : UIs w va a) (hb : UIs w vb b) (ka : ZOk a) (kb : ZOk b) :
  Calls Tryz.prog 56 #[va, vb] w fun e w' => e = .returned (.bool (sameB a b)) ∧ Below w.heap.size w w' := by
 obtain ⟨A, B, C, D, kA, kB, kC, kD, rfl, hc⟩ := ha
 obtain ⟨A2, B2, C2, D2, kA2, kB2, kC2, kD2, rfl, hc2⟩ := hb
 obtain ⟨f0, f1, f2, f3⟩ := two_blocks w (.cells #[.int .i64 a.n, .slice A a.c.length kA, .slice B a.ids.length kB, .slice C a.g.length kC, .slice D a.r.length kD, .bool a.bad] 30) (.cells #[.int .i64 b.n, .slice A2 b.c.length kA2, .slice B2 b.ids.length kB2, .slice C2 b.g.length kC2, .slice D2 b.r.length kD2, .bool b.bad] 30)
 obtain ⟨sa, hsa⟩ : ∃ s, sizeD a = s := ⟨_, rfl⟩
 obtain ⟨sb, hsb⟩ : ∃ s, sizeD b = s := ⟨_, rfl⟩
 have hsA := fun W (hb : Below w.heap.size w W) => Size10_any W _ a ⟨A, B, C, D, kA, kB, kC, kD, rfl, hc.below hb⟩ ka
 have hsB := fun W (hb : Below w.heap.size w W) => Size10_any W _ b ⟨A2, B2, C2, D2, kA2, kB2, kC2, kD2, rfl, hc2.below hb⟩ kb
 have hrA := fun W (hb : Below w.heap.size w W) => Reals_any W _ a ⟨A, B, C, D, kA, kB, kC, kD, rfl, hc.below hb⟩ ka
 have hrB := fun W (hb : Below w.heap.size w W) => Reals_any W _ b ⟨A2, B2, C2, D2, kA2, kB2, kC2, kD2, rfl, hc2.below hb⟩ kb
 unfold zval at hsA hsB hrA hrB
 rw [hsa] at hsA
 rw [hsb] at hsB
 have HSZ := Lib.hid (And.intro hsa hsb)
 clear hsa hsb
 unfold zval
 go_enter Tryz.func56, Tryz.ntmps56
 go_upto_region 1 with fail
 generalize (w.alloc (.cells #[.int .i64 a.n, .slice A a.c.length kA, .slice B a.ids.length kB, .slice C a.g.length kC, .slice D a.r.length kD, .bool a.bad] 30)).alloc (.cells #[.int .i64 b.n, .slice A2 b.c.length kA2, .slice B2 b.ids.length kB2, .slice C2 b.g.length kC2, .slice D2 b.r.length kD2, .bool b.bad] 30) = W1 at *
 obtain ⟨h0, e0⟩ : ∃ h, w.heap.size = h := ⟨_, rfl⟩
 rw [e0] at f0 f1 f2 ⊢
 obtain ⟨h1, e1⟩ : ∃ h, h0 + 1 = h := ⟨_, rfl⟩
 rw [e1] at f1 f2 ⊢
 have k0 : UB W1 h0 _ _ _ _ _ _ := f0
 have k1 : UB W1 h1 _ _ _ _ _ _ := f1
 have hB1 := f3
 replace hsA := fun W (hb : Below W1.heap.size W1 W) => hsA W (hB1.trans (hb.mono hB1.size))
 replace hsB := fun W (hb : Below W1.heap.size W1 W) => hsB W (hB1.trans (hb.mono hB1.size))
 replace hrA := fun W (hb : Below W1.heap.size W1 W) => hrA W (hB1.trans (hb.mono hB1.size))
 replace hrB := fun W (hb : Below W1.heap.size W1 W) => hrB W (hB1.trans (hb.mono hB1.size))
 clear f0 f1 f2 f3 e0 e1
 obtain ⟨y0, y1, y2, y3, y4, y5⟩ := k0.cells
 have hra := hrA _ (Below.refl _ _)
 go_wp2_with fail
 refine hra.mono ?_
 clear hra y0 y1 y2 y3 y4 y5
 rintro e w4 (⟨hga, v', rfl, ⟨A', B', C', D', kA', kB', kC', kD', rfl, hRx⟩, hb4⟩ | ⟨hga, rfl, hb4⟩)
 rotate_left
 ·have f5 := hb4.trans ((below_alloc w4 (.cells #[.int .i64 0, .slice none 0 0, .slice none 0 0, .slice none 0 0, .slice none 0 0] 61)).mono hb4.size)
  have hrb := hrB _ f5
  obtain ⟨y0, y1, y2, y3, y4, y5⟩ := (UB.below k1 f5).cells
  unfold noReal
  clear hrA hrB
  go_wp2_with fail
  refine hrb.mono ?_
  clear hrb y0 y1 y2 y3 y4 y5
  rintro e w6 (⟨hgb, v', rfl, ⟨A2', B2', C2', D2', kA2', kB2', kC2', kD2', rfl, hRy⟩, hb6⟩ | ⟨hgb, rfl, hb6⟩)
  ·have f6 := f5.trans (hb6.mono f5.size)
   have f7 := f6.trans ((below_alloc w6 (.cells #[.int .i64 b.n, .slice A2' b.c.length kA2', .slice B2' b.ids.length kB2', .slice C2' b.g.length kC2', .slice D2' b.r.length kD2'] 61)).mono f6.size)
   have HG := Lib.hid (And.intro hga hgb)
   unfold rval
   clear hRy hga hgb
   go_wp2_with fail
   have hS : ∀ W', Below (w6.alloc (.cells #[.int .i64 b.n, .slice A2' b.c.length kA2', .slice B2' b.ids.length kB2', .slice C2' b.g.length kC2', .slice D2' b.r.length kD2'] 61)).heap.size (w6.alloc (.cells #[.int .i64 b.n, .slice A2' b.c.length kA2', .slice B2' b.ids.length kB2', .slice C2' b.g.length kC2', .slice D2' b.r.length kD2'] 61)) W' → (fun w' => (w'.cell? ⟨h0, 0, none⟩ = some (.int .i64 a.n) ∧ w'.cell? ⟨h0, 1, none⟩ = some (.slice A a.c.length kA) ∧ w'.cell? ⟨h0, 2, none⟩ = some (.slice B a.ids.length kB) ∧ w'.cell? ⟨h0, 3, none⟩ = some (.slice C a.g.length kC) ∧ w'.cell? ⟨h0, 4, none⟩ = some (.slice D a.r.length kD) ∧ w'.cell? ⟨h0, 5, none⟩ = some (.bool a.bad)) ∧ (w'.cell? ⟨h1, 0, none⟩ = some (.int .i64 b.n) ∧ w'.cell? ⟨h1, 1, none⟩ = some (.slice A2 b.c.length kA2) ∧ w'.cell? ⟨h1, 2, none⟩ = some (.slice B2 b.ids.length kB2) ∧ w'.cell? ⟨h1, 3, none⟩ = some (.slice C2 b.g.length kC2) ∧ w'.cell? ⟨h1, 4, none⟩ = some (.slice D2 b.r.length kD2) ∧ w'.cell? ⟨h1, 5, none⟩ = some (.bool b.bad))) W' := fun W' hb => ⟨(UB.below (UB.below k0 f7) hb).cells, (UB.below (UB.below k1 f7) hb).cells⟩
   have hd := (Below.refl (w6.alloc (.cells #[.int .i64 b.n, .slice A2' b.c.length kA2', .slice B2' b.ids.length kB2', .slice C2' b.g.length kC2', .slice D2' b.r.length kD2'] 61)).heap.size (w6.alloc (.cells #[.int .i64 b.n, .slice A2' b.c.length kA2', .slice B2' b.ids.length kB2', .slice C2' b.g.length kC2', .slice D2' b.r.length kD2'] 61))).drew
   refine late_begin (fun w' => (w'.cell? ⟨h0, 0, none⟩ = some (.int .i64 a.n) ∧ w'.cell? ⟨h0, 1, none⟩ = some (.slice A a.c.length kA) ∧ w'.cell? ⟨h0, 2, none⟩ = some (.slice B a.ids.length kB) ∧ w'.cell? ⟨h0, 3, none⟩ = some (.slice C a.g.length kC) ∧ w'.cell? ⟨h0, 4, none⟩ = some (.slice D a.r.length kD) ∧ w'.cell? ⟨h0, 5, none⟩ = some (.bool a.bad)) ∧ (w'.cell? ⟨h1, 0, none⟩ = some (.int .i64 b.n) ∧ w'.cell? ⟨h1, 1, none⟩ = some (.slice A2 b.c.length kA2) ∧ w'.cell? ⟨h1, 2, none⟩ = some (.slice B2 b.ids.length kB2) ∧ w'.cell? ⟨h1, 3, none⟩ = some (.slice C2 b.g.length kC2) ∧ w'.cell? ⟨h1, 4, none⟩ = some (.slice D2 b.r.length kD2) ∧ w'.cell? ⟨h1, 5, none⟩ = some (.bool b.bad))) [] (by kernel_rfl) ?_
   refine lateT 0 (some 27) rfl rfl (hS _ hd) ?_
   try simp only [Act.put, lA, lZ, lC]
   refine lateT 1 (some 28) rfl rfl (hS _ hd) ?_
   try simp only [Act.put, lA, lZ, lC]
   refine lateT 2 (some 29) rfl rfl (hS _ hd) ?_
   try simp only [Act.put, lA, lZ, lC]
   refine lateT 3 (some 30) rfl rfl (hS _ hd) ?_
   try simp only [Act.put, lA, lZ, lC]
   refine lateT 4 (some 31) rfl rfl (hS _ hd) ?_
   try simp only [Act.put, lA, lZ, lC]
   refine lateT 5 (some 32) rfl rfl (hS _ hd) ?_
   try simp only [Act.put, lA, lZ, lC]
   refine lateT 6 (some 33) rfl rfl (hS _ hd) ?_
   try simp only [Act.put, lA, lZ, lC]
   refine lateX 7 (some 34) rfl rfl (hS _ hd) ?_
   try simp only [Act.put, lA, lZ, lC]
   refine lateX 8 (some 35) rfl rfl (hS _ hd) ?_
   try simp only [Act.put, lA, lZ, lC]
   refine lateX 9 (some 36) rfl rfl (hS _ hd) ?_
   try simp only [Act.put, lA, lZ, lC]
   refine lateX 10 (some 37) rfl rfl (hS _ hd) ?_
   try simp only [Act.put, lA, lZ, lC]
   refine lateX 11 (some 38) rfl rfl (hS _ hd) ?_
   try simp only [Act.put, lA, lZ, lC]
   refine lateT 12 (some 39) rfl rfl (hS _ hd) ?_
   try simp only [Act.put, lA, lZ, lC]
   refine lateT 13 (some 4) rfl rfl (hS _ hd) ?_
   try simp only [Act.put, lA, lZ, lC]
   refine late_done (by kernel_rfl) ?_ _
   have HF := Lib.hid (hB1.trans ((f7.trans (hd.mono f7.size)).mono hB1.size))
   clear hS hd
   go_wp2_with fail
   go_ret
   exact ⟨by simp [sameB, HG.out.1, HG.out.2, HSZ.out.1, HSZ.out.2], HF.out⟩
  ·have f6 := f5.trans (hb6.mono f5.size)
   have f7 := f6.trans ((below_alloc w6 (.cells #[.int .i64 0, .slice none 0 0, .slice none 0 0, .slice none 0 0, .slice none 0 0] 61)).mono f6.size)
   have HG := Lib.hid (And.intro hga hgb)
   unfold noReal
   clear hga hgb
   go_wp2_with fail
   have hS : ∀ W', Below (w6.alloc (.cells #[.int .i64 0, .slice none 0 0, .slice none 0 0, .slice none 0 0, .slice none 0 0] 61)).heap.size (w6.alloc (.cells #[.int .i64 0, .slice none 0 0, .slice none 0 0, .slice none 0 0, .slice none 0 0] 61)) W' → (fun w' => (w'.cell? ⟨h0, 0, none⟩ = some (.int .i64 a.n) ∧ w'.cell? ⟨h0, 1, none⟩ = some (.slice A a.c.length kA) ∧ w'.cell? ⟨h0, 2, none⟩ = some (.slice B a.ids.length kB) ∧ w'.cell? ⟨h0, 3, none⟩ = some (.slice C a.g.length kC) ∧ w'.cell? ⟨h0, 4, none⟩ = some (.slice D a.r.length kD) ∧ w'.cell? ⟨h0, 5, none⟩ = some (.bool a.bad)) ∧ (w'.cell? ⟨h1, 0, none⟩ = some (.int .i64 b.n) ∧ w'.cell? ⟨h1, 1, none⟩ = some (.slice A2 b.c.length kA2) ∧ w'.cell? ⟨h1, 2, none⟩ = some (.slice B2 b.ids.length kB2) ∧ w'.cell? ⟨h1, 3, none⟩ = some (.slice C2 b.g.length kC2) ∧ w'.cell? ⟨h1, 4, none⟩ = some (.slice D2 b.r.length kD2) ∧ w'.cell? ⟨h1, 5, none⟩ = some (.bool b.bad))) W' := fun W' hb => ⟨(UB.below (UB.below k0 f7) hb).cells, (UB.below (UB.below k1 f7) hb).cells⟩
   have hd := (Below.refl (w6.alloc (.cells #[.int .i64 0, .slice none 0 0, .slice none 0 0, .slice none 0 0, .slice none 0 0] 61)).heap.size (w6.alloc (.cells #[.int .i64 0, .slice none 0 0, .slice none 0 0, .slice none 0 0, .slice none 0 0] 61))).drew
   refine late_begin (fun w' => (w'.cell? ⟨h0, 0, none⟩ = some (.int .i64 a.n) ∧ w'.cell? ⟨h0, 1, none⟩ = some (.slice A a.c.length kA) ∧ w'.cell? ⟨h0, 2, none⟩ = some (.slice B a.ids.length kB) ∧ w'.cell? ⟨h0, 3, none⟩ = some (.slice C a.g.length kC) ∧ w'.cell? ⟨h0, 4, none⟩ = some (.slice D a.r.length kD) ∧ w'.cell? ⟨h0, 5, none⟩ = some (.bool a.bad)) ∧ (w'.cell? ⟨h1, 0, none⟩ = some (.int .i64 b.n) ∧ w'.cell? ⟨h1, 1, none⟩ = some (.slice A2 b.c.length kA2) ∧ w'.cell? ⟨h1, 2, none⟩ = some (.slice B2 b.ids.length kB2) ∧ w'.cell? ⟨h1, 3, none⟩ = some (.slice C2 b.g.length kC2) ∧ w'.cell? ⟨h1, 4, none⟩ = some (.slice D2 b.r.length kD2) ∧ w'.cell? ⟨h1, 5, none⟩ = some (.bool b.bad))) [] (by kernel_rfl) ?_
   refine lateT 0 (some 27) rfl rfl (hS _ hd) ?_
   try simp only [Act.put, lA, lZ, lC]
   refine lateT 1 (some 28) rfl rfl (hS _ hd) ?_
   try simp only [Act.put, lA, lZ, lC]
   refine lateT 2 (some 29) rfl rfl (hS _ hd) ?_
   try simp only [Act.put, lA, lZ, lC]
   refine lateT 3 (some 30) rfl rfl (hS _ hd) ?_
   try simp only [Act.put, lA, lZ, lC]
   refine lateT 4 (some 31) rfl rfl (hS _ hd) ?_
   try simp only [Act.put, lA, lZ, lC]
   refine lateT 5 (some 32) rfl rfl (hS _ hd) ?_
   try simp only [Act.put, lA, lZ, lC]
   refine lateT 6 (some 33) rfl rfl (hS _ hd) ?_
   try simp only [Act.put, lA, lZ, lC]
   refine lateT 7 (some 34) rfl rfl (hS _ hd) ?_
   try simp only [Act.put, lA, lZ, lC]
   refine lateT 9 (some 36) rfl rfl (hS _ hd) ?_
   try simp only [Act.put, lA, lZ, lC]
   refine late_one (i := 8) rfl (by kernel_rfl) ?_
   intro K hK
   go_simp
   refine (hsA _ (f7.trans (hd.mono f7.size))).mono ?_
   rintro e v1 ⟨rfl, hb1⟩
   have g1 := hd.trans (hb1.mono hd.size)
   try show K _ _
   refine hK.out _ _ (Or.inr (hS _ g1)) ?_
   clear hK K
   try simp only [Act.put, lA, lZ, lC]
   refine late_one (i := 10) rfl (by kernel_rfl) ?_
   intro K hK
   go_simp
   refine (hsB _ (f7.trans (g1.mono f7.size))).mono ?_
   rintro e v2 ⟨rfl, hb2⟩
   have g2 := g1.trans (hb2.mono g1.size)
   try show K _ _
   refine hK.out _ _ (Or.inr (hS _ g2)) ?_
   clear hK K
   try simp only [Act.put, lA, lZ, lC]
   refine lateT 11 (some 38) rfl rfl (hS _ g2) ?_
   try simp only [Act.put, lA, lZ, lC]
   refine lateT 12 (some 39) rfl rfl (hS _ g2) ?_
   try simp only [Act.put, lA, lZ, lC]
   refine lateT 13 (some 4) rfl rfl (hS _ g2) ?_
   try simp only [Act.put, lA, lZ, lC]
   refine late_done (by kernel_rfl) ?_ _
   have HF := Lib.hid (hB1.trans ((f7.trans (g2.mono f7.size)).mono hB1.size))
   clear hS hd
   go_wp2_with fail
   go_ret
   exact ⟨by simp [sameB, HG.out.1, HG.out.2, HSZ.out.1, HSZ.out.2], HF.out⟩
 have f5 := hb4.trans ((below_alloc w4 (.cells #[.int .i64 a.n, .slice A' a.c.length kA', .slice B' a.ids.length kB', .slice C' a.g.length kC', .slice D' a.r.length kD'] 61)).mono hb4.size)
 have kx := heap_alloc_new w4 (.cells #[.int .i64 a.n, .slice A' a.c.length kA', .slice B' a.ids.length kB', .slice C' a.g.length kC', .slice D' a.r.length kD'] 61)
 replace hRx := hRx.below (below_alloc w4 (.cells #[.int .i64 a.n, .slice A' a.c.length kA', .slice B' a.ids.length kB', .slice C' a.g.length kC', .slice D' a.r.length kD'] 61))
 have hrb := hrB _ f5
 obtain ⟨y0, y1, y2, y3, y4, y5⟩ := (UB.below k1 f5).cells
 unfold rval
 clear hrA hrB hb4
 go_upto_region 2 with fail
 generalize w4.alloc (.cells #[.int .i64 a.n, .slice A' a.c.length kA', .slice B' a.ids.length kB', .slice C' a.g.length kC', .slice D' a.r.length kD'] 61) = W5 at *
 generalize w4.heap.size = bx at *
 go_wp2_with fail
 refine hrb.mono ?_
 clear hrb y0 y1 y2 y3 y4 y5
 rintro e w6 (⟨hgb, v', rfl, ⟨A2', B2', C2', D2', kA2', kB2', kC2', kD2', rfl, hRy⟩, hb6⟩ | ⟨hgb, rfl, hb6⟩)
 rotate_left
 ·have f6 := f5.trans (hb6.mono f5.size)
  have f7 := f6.trans ((below_alloc w6 (.cells #[.int .i64 0, .slice none 0 0, .slice none 0 0, .slice none 0 0, .slice none 0 0] 61)).mono f6.size)
  have HG := Lib.hid (And.intro hga hgb)
  unfold noReal
  clear hga hgb
  go_wp2_with fail
  have hS : ∀ W', Below (w6.alloc (.cells #[.int .i64 0, .slice none 0 0, .slice none 0 0, .slice none 0 0, .slice none 0 0] 61)).heap.size (w6.alloc (.cells #[.int .i64 0, .slice none 0 0, .slice none 0 0, .slice none 0 0, .slice none 0 0] 61)) W' → (fun w' => (w'.cell? ⟨h0, 0, none⟩ = some (.int .i64 a.n) ∧ w'.cell? ⟨h0, 1, none⟩ = some (.slice A a.c.length kA) ∧ w'.cell? ⟨h0, 2, none⟩ = some (.slice B a.ids.length kB) ∧ w'.cell? ⟨h0, 3, none⟩ = some (.slice C a.g.length kC) ∧ w'.cell? ⟨h0, 4, none⟩ = some (.slice D a.r.length kD) ∧ w'.cell? ⟨h0, 5, none⟩ = some (.bool a.bad)) ∧ (w'.cell? ⟨h1, 0, none⟩ = some (.int .i64 b.n) ∧ w'.cell? ⟨h1, 1, none⟩ = some (.slice A2 b.c.length kA2) ∧ w'.cell? ⟨h1, 2, none⟩ = some (.slice B2 b.ids.length kB2) ∧ w'.cell? ⟨h1, 3, none⟩ = some (.slice C2 b.g.length kC2) ∧ w'.cell? ⟨h1, 4, none⟩ = some (.slice D2 b.r.length kD2) ∧ w'.cell? ⟨h1, 5, none⟩ = some (.bool b.bad))) W' := fun W' hb => ⟨(UB.below (UB.below k0 f7) hb).cells, (UB.below (UB.below k1 f7) hb).cells⟩
  have hd := (Below.refl (w6.alloc (.cells #[.int .i64 0, .slice none 0 0, .slice none 0 0, .slice none 0 0, .slice none 0 0] 61)).heap.size (w6.alloc (.cells #[.int .i64 0, .slice none 0 0, .slice none 0 0, .slice none 0 0, .slice none 0 0] 61))).drew
  refine late_begin (fun w' => (w'.cell? ⟨h0, 0, none⟩ = some (.int .i64 a.n) ∧ w'.cell? ⟨h0, 1, none⟩ = some (.slice A a.c.length kA) ∧ w'.cell? ⟨h0, 2, none⟩ = some (.slice B a.ids.length kB) ∧ w'.cell? ⟨h0, 3, none⟩ = some (.slice C a.g.length kC) ∧ w'.cell? ⟨h0, 4, none⟩ = some (.slice D a.r.length kD) ∧ w'.cell? ⟨h0, 5, none⟩ = some (.bool a.bad)) ∧ (w'.cell? ⟨h1, 0, none⟩ = some (.int .i64 b.n) ∧ w'.cell? ⟨h1, 1, none⟩ = some (.slice A2 b.c.length kA2) ∧ w'.cell? ⟨h1, 2, none⟩ = some (.slice B2 b.ids.length kB2) ∧ w'.cell? ⟨h1, 3, none⟩ = some (.slice C2 b.g.length kC2) ∧ w'.cell? ⟨h1, 4, none⟩ = some (.slice D2 b.r.length kD2) ∧ w'.cell? ⟨h1, 5, none⟩ = some (.bool b.bad))) [] (by kernel_rfl) ?_
  refine lateT 0 (some 27) rfl rfl (hS _ hd) ?_
  try simp only [Act.put, lA, lZ, lC]
  refine lateT 1 (some 28) rfl rfl (hS _ hd) ?_
  try simp only [Act.put, lA, lZ, lC]
  refine lateT 2 (some 29) rfl rfl (hS _ hd) ?_
  try simp only [Act.put, lA, lZ, lC]
  refine lateX 3 (some 30) rfl rfl (hS _ hd) ?_
  try simp only [Act.put, lA, lZ, lC]
  refine lateX 4 (some 31) rfl rfl (hS _ hd) ?_
  try simp only [Act.put, lA, lZ, lC]
  refine lateT 5 (some 32) rfl rfl (hS _ hd) ?_
  try simp only [Act.put, lA, lZ, lC]
  refine lateT 6 (some 33) rfl rfl (hS _ hd) ?_
  try simp only [Act.put, lA, lZ, lC]
  refine lateX 7 (some 34) rfl rfl (hS _ hd) ?_
  try simp only [Act.put, lA, lZ, lC]
  refine lateX 8 (some 35) rfl rfl (hS _ hd) ?_
  try simp only [Act.put, lA, lZ, lC]
  refine lateX 9 (some 36) rfl rfl (hS _ hd) ?_
  try simp only [Act.put, lA, lZ, lC]
  refine lateX 10 (some 37) rfl rfl (hS _ hd) ?_
  try simp only [Act.put, lA, lZ, lC]
  refine lateX 11 (some 38) rfl rfl (hS _ hd) ?_
  try simp only [Act.put, lA, lZ, lC]
  refine lateT 12 (some 39) rfl rfl (hS _ hd) ?_
  try simp only [Act.put, lA, lZ, lC]
  refine lateT 13 (some 4) rfl rfl (hS _ hd) ?_
  try simp only [Act.put, lA, lZ, lC]
  refine late_done (by kernel_rfl) ?_ _
  have HF := Lib.hid (hB1.trans ((f7.trans (hd.mono f7.size)).mono hB1.size))
  clear hS hd
  go_wp2_with fail
  go_ret
  exact ⟨by simp [sameB, HG.out.1, HG.out.2, HSZ.out.1, HSZ.out.2], HF.out⟩
 have f6 := f5.trans (hb6.mono f5.size)
 have f7 := f6.trans ((below_alloc w6 (.cells #[.int .i64 b.n, .slice A2' b.c.length kA2', .slice B2' b.ids.length kB2', .slice C2' b.g.length kC2', .slice D2' b.r.length kD2'] 61)).mono f6.size)
 have hB7 := hB1.trans (f7.mono hB1.size)
 have hb7 := hb6.trans ((below_alloc w6 (.cells #[.int .i64 b.n, .slice A2' b.c.length kA2', .slice B2' b.ids.length kB2', .slice C2' b.g.length kC2', .slice D2' b.r.length kD2'] 61)).mono hb6.size)
 have ky := heap_alloc_new w6 (.cells #[.int .i64 b.n, .slice A2' b.c.length kA2', .slice B2' b.ids.length kB2', .slice C2' b.g.length kC2', .slice D2' b.r.length kD2'] 61)
 replace kx := (hb7.block _ (Array.getElem?_eq_some_iff.1 kx).1).trans kx
 replace hRx := hRx.below hb7
 replace hRy := hRy.below (below_alloc w6 (.cells #[.int .i64 b.n, .slice A2' b.c.length kA2', .slice B2' b.ids.length kB2', .slice C2' b.g.length kC2', .slice D2' b.r.length kD2'] 61))
 have HSM := Lib.hid (show sameB a b = sameG a b by unfold sameB; rw [if_pos ⟨hga, hgb⟩])
 unfold rval
 clear f5 f6 f7 hb6 hb7 hsA hsB k0 k1
 go_upto_region 3 with fail
 generalize w6.alloc (.cells #[.int .i64 b.n, .slice A2' b.c.length kA2', .slice B2' b.ids.length kB2', .slice C2' b.g.length kC2', .slice D2' b.r.length kD2'] 61) = W7 at *
 generalize w6.heap.size = by_ at *
 have hza := (goodD_iff a).1 hga
 have hzb := (goodD_iff b).1 hgb
 obtain ⟨r0, r1, r2, r3, r4⟩ := cells5 kx
 obtain ⟨s0, s1, s2, s3, s4⟩ := cells5 ky
 clear hga hgb
 by_cases hne : a.n = b.n
 ·have hne' : (a.n == b.n) = true := beq_iff_eq.2 hne
  have hne2 : (a.n != b.n) = false := by rw [hne]; exact bne_self_eq_false _
  by_cases hle : a.ids.length = b.ids.length
  ·obtain ⟨n, hn⟩ : ∃ n : Nat, a.n = (n : Int) := ⟨a.n.toNat, by have := hza.n1; omega⟩
   have hn2 : b.n = (n : Int) := by rw [← hne, hn]
   have hn1 : 1 ≤ n := by have := hza.n1; omega
   have hn3 : n ≤ 256 := by have := hza.n2; omega
   have HI := Lib.hid (sameG_iff hza hzb n hn1 hn hn2)
   have HLE := Lib.hid hle
   have HN := Lib.hid (And.intro hn hn2)
   clear hne hne' hne2
   clear r1 r3 r4 s1 s3 s4
   rw [hn] at kx r0
   rw [hn2] at ky s0
   obtain ⟨L, hL⟩ : ∃ L, b.ids.length = L := ⟨_, rfl⟩
   have hLg : L ≤ 2147483650 := by have := hzb.cols; have := hzb.len; omega
   have hLa : a.ids.length = L := hle.trans hL
   have HLA := Lib.hid (And.intro hLa hL)
   rw [hLa] at r2
   rw [hL] at s2
   clear hle hLa hL hn hn2
   go_wp2_with fail
   clear r0 r2 s0 s2
   go_loopw [9] (fun kk wr => ∃ i : Nat, i ≤ n ∧ kk = .int .i64 (i : Nat) ∧ (∀ i', i' < i → RowEq a b i') ∧ Below W7.heap.size W7 wr) (fun kk _ => n - (intOf kk).toNat)
   case atStart => exact ⟨0, Nat.zero_le _, rfl, fun i h => absurd h (Nat.not_lt_zero _), Below.refl _ _⟩
   case round =>
    obtain ⟨i, hi, rfl, hall, hBr⟩ := hrel
    have HALL := Lib.hid hall
    clear hall
    obtain ⟨r0, _, _, _, _⟩ := cells5 ((hBr.block _ (Array.getElem?_eq_some_iff.1 kx).1).trans kx)
    by_cases hlt : i < n
    ·have hlt' : (i : Int) < (n : Int) := by omega
     have hlc1 : (i : Int) < (a.c.length : Int) := by have := hza.lenC; have := HN.out.1; omega
     have hlc2 : (i : Int) < (b.c.length : Int) := by have := hzb.lenC; have := HN.out.2; omega
     have hlr1 : (i : Int) < (a.r.length : Int) := by have := hza.lenR; have := HN.out.1; omega
     have hlr2 : (i : Int) < (b.r.length : Int) := by have := hzb.lenR; have := HN.out.2; omega
     obtain ⟨bn, on, x, rfl, hbn, x0, x1, x2, hx⟩ := row_num hRx.c i (by omega)
     obtain ⟨bm, om, y, rfl, hbm, y0, y1, y2, hy⟩ := row_num hRy.c i (by omega)
     obtain ⟨bp, op_, xx, rfl, hbp, xx0, xx1, xx2, hxx⟩ := row_num hRx.r i (by omega)
     obtain ⟨bq, oq, yy, rfl, hbq, yy0, yy1, yy2, hyy⟩ := row_num hRy.r i (by omega)
     go_upto_region 10 with fail
     clear r0
     by_cases hce : fz (a.c.getD i 0) = fz (b.c.getD i 0)
     ·have hcv : (fz (a.c.getD i 0) + -fz (b.c.getD i 0)).sign = 0 := by rw [hce, Int.add_right_neg]; rfl
      have HCE := Lib.hid hce
      clear hce
      by_cases hre : fz (a.r.getD i 0) = fz (b.r.getD i 0)
      ·have hrv : (fz (a.r.getD i 0) + -fz (b.r.getD i 0)).sign = 0 := by rw [hre, Int.add_right_neg]; rfl
       have HRE := Lib.hid hre
       clear hre
       have hS : ∀ W', Below W7.heap.size W7 W' → (fun w' => (w'.cell? ⟨bx, 1, none⟩ = some (.slice (some ⟨bn, on, none⟩) a.c.length kA') ∧ w'.cell? ⟨bx, 4, none⟩ = some (.slice (some ⟨bp, op_, none⟩) a.r.length kD') ∧ w'.cell? ⟨by_, 1, none⟩ = some (.slice (some ⟨bm, om, none⟩) b.c.length kA2') ∧ w'.cell? ⟨by_, 4, none⟩ = some (.slice (some ⟨bq, oq, none⟩) b.r.length kD2')) ∧ (w'.cell? ⟨bn, on + i * 3, none⟩ = some (.bool x.neg) ∧ w'.cell? ⟨bn, on + i * 3 + 1, none⟩ = some (.slice x.A x.n x.cap) ∧ w'.cell? ⟨bn, on + i * 3 + 2, none⟩ = some (.int .i64 x.E)) ∧ (w'.cell? ⟨bm, om + i * 3, none⟩ = some (.bool y.neg) ∧ w'.cell? ⟨bm, om + i * 3 + 1, none⟩ = some (.slice y.A y.n y.cap) ∧ w'.cell? ⟨bm, om + i * 3 + 2, none⟩ = some (.int .i64 y.E)) ∧ (w'.cell? ⟨bp, op_ + i * 3, none⟩ = some (.bool xx.neg) ∧ w'.cell? ⟨bp, op_ + i * 3 + 1, none⟩ = some (.slice xx.A xx.n xx.cap) ∧ w'.cell? ⟨bp, op_ + i * 3 + 2, none⟩ = some (.int .i64 xx.E)) ∧ (w'.cell? ⟨bq, oq + i * 3, none⟩ = some (.bool yy.neg) ∧ w'.cell? ⟨bq, oq + i * 3 + 1, none⟩ = some (.slice yy.A yy.n yy.cap) ∧ w'.cell? ⟨bq, oq + i * 3 + 2, none⟩ = some (.int .i64 yy.E))) W' := fun W' hb => by
        have z0 := cells5 ((hb.block _ (Array.getElem?_eq_some_iff.1 kx).1).trans kx)
        have z1 := cells5 ((hb.block _ (Array.getElem?_eq_some_iff.1 ky).1).trans ky)
        exact ⟨⟨z0.2.1, z0.2.2.2.2, z1.2.1, z1.2.2.2.2⟩, ⟨(hb.cell (p := ⟨bn, on + i * 3, none⟩) hbn).trans x0, (hb.cell (p := ⟨bn, on + i * 3 + 1, none⟩) hbn).trans x1, (hb.cell (p := ⟨bn, on + i * 3 + 2, none⟩) hbn).trans x2⟩, ⟨(hb.cell (p := ⟨bm, om + i * 3, none⟩) hbm).trans y0, (hb.cell (p := ⟨bm, om + i * 3 + 1, none⟩) hbm).trans y1, (hb.cell (p := ⟨bm, om + i * 3 + 2, none⟩) hbm).trans y2⟩, ⟨(hb.cell (p := ⟨bp, op_ + i * 3, none⟩) hbp).trans xx0, (hb.cell (p := ⟨bp, op_ + i * 3 + 1, none⟩) hbp).trans xx1, (hb.cell (p := ⟨bp, op_ + i * 3 + 2, none⟩) hbp).trans xx2⟩, ⟨(hb.cell (p := ⟨bq, oq + i * 3, none⟩) hbq).trans yy0, (hb.cell (p := ⟨bq, oq + i * 3 + 1, none⟩) hbq).trans yy1, (hb.cell (p := ⟨bq, oq + i * 3 + 2, none⟩) hbq).trans yy2⟩⟩
       have hd := hBr.drew
       refine late_begin (fun w' => (w'.cell? ⟨bx, 1, none⟩ = some (.slice (some ⟨bn, on, none⟩) a.c.length kA') ∧ w'.cell? ⟨bx, 4, none⟩ = some (.slice (some ⟨bp, op_, none⟩) a.r.length kD') ∧ w'.cell? ⟨by_, 1, none⟩ = some (.slice (some ⟨bm, om, none⟩) b.c.length kA2') ∧ w'.cell? ⟨by_, 4, none⟩ = some (.slice (some ⟨bq, oq, none⟩) b.r.length kD2')) ∧ (w'.cell? ⟨bn, on + i * 3, none⟩ = some (.bool x.neg) ∧ w'.cell? ⟨bn, on + i * 3 + 1, none⟩ = some (.slice x.A x.n x.cap) ∧ w'.cell? ⟨bn, on + i * 3 + 2, none⟩ = some (.int .i64 x.E)) ∧ (w'.cell? ⟨bm, om + i * 3, none⟩ = some (.bool y.neg) ∧ w'.cell? ⟨bm, om + i * 3 + 1, none⟩ = some (.slice y.A y.n y.cap) ∧ w'.cell? ⟨bm, om + i * 3 + 2, none⟩ = some (.int .i64 y.E)) ∧ (w'.cell? ⟨bp, op_ + i * 3, none⟩ = some (.bool xx.neg) ∧ w'.cell? ⟨bp, op_ + i * 3 + 1, none⟩ = some (.slice xx.A xx.n xx.cap) ∧ w'.cell? ⟨bp, op_ + i * 3 + 2, none⟩ = some (.int .i64 xx.E)) ∧ (w'.cell? ⟨bq, oq + i * 3, none⟩ = some (.bool yy.neg) ∧ w'.cell? ⟨bq, oq + i * 3 + 1, none⟩ = some (.slice yy.A yy.n yy.cap) ∧ w'.cell? ⟨bq, oq + i * 3 + 2, none⟩ = some (.int .i64 yy.E))) [] (by kernel_rfl) ?_
       refine lateT 0 (some 60) rfl rfl (hS _ hd) ?_
       try simp only [Act.put, lA, lZ, lC]
       refine lateT 1 (some 61) rfl rfl (hS _ hd) ?_
       try simp only [Act.put, lA, lZ, lC]
       refine lateT 2 (some 62) rfl rfl (hS _ hd) ?_
       try simp only [Act.put, lA, lZ, lC]
       refine lateT 3 (some 63) rfl rfl (hS _ hd) ?_
       try simp only [Act.put, lA, lZ, lC]
       refine lateT 4 (some 64) rfl rfl (hS _ hd) ?_
       try simp only [Act.put, lA, lZ, lC]
       refine lateT 5 (some 65) rfl rfl (hS _ hd) ?_
       try simp only [Act.put, lA, lZ, lC]
       refine lateT 6 (some 66) rfl rfl (hS _ hd) ?_
       try simp only [Act.put, lA, lZ, lC]
       refine lateT 7 (some 67) rfl rfl (hS _ hd) ?_
       try simp only [Act.put, lA, lZ, lC]
       refine lateT 8 (some 68) rfl rfl (hS _ hd) ?_
       try simp only [Act.put, lA, lZ, lC]
       refine lateT 9 (some 69) rfl rfl (hS _ hd) ?_
       try simp only [Act.put, lA, lZ, lC]
       refine late_one (i := 10) rfl (by kernel_rfl) ?_
       intro K hK
       go_simp
       have hcm := cmp_r _ (-1074) 971 (-1074) 971 x y _ _ (hx.below hd) (hy.below hd) (fz_W (getD_num a.c hza.numC i) (getD_num b.c hzb.numC i))
       rw [hcv] at hcm
       refine hcm.mono ?_
       clear hcm
       rintro e p1w ⟨rfl, p1b⟩
       have p1f := hd.trans (p1b.mono hd.size)
       try show K _ _
       refine hK.out _ _ (Or.inr (hS _ p1f)) ?_
       clear hK K
       try simp only [Act.put, lA, lZ, lC]
       refine lateT 11 (some 71) rfl rfl (hS _ p1f) ?_
       try simp only [Act.put, lA, lZ, lC]
       refine lateT 12 (some 72) rfl rfl (hS _ p1f) ?_
       try simp only [Act.put, lA, lZ, lC]
       refine lateT 13 (some 73) rfl rfl (hS _ p1f) ?_
       try simp only [Act.put, lA, lZ, lC]
       refine lateT 14 (some 74) rfl rfl (hS _ p1f) ?_
       try simp only [Act.put, lA, lZ, lC]
       refine lateT 15 (some 75) rfl rfl (hS _ p1f) ?_
       try simp only [Act.put, lA, lZ, lC]
       refine lateT 16 (some 76) rfl rfl (hS _ p1f) ?_
       try simp only [Act.put, lA, lZ, lC]
       refine lateT 17 (some 77) rfl rfl (hS _ p1f) ?_
       try simp only [Act.put, lA, lZ, lC]
       refine lateT 18 (some 78) rfl rfl (hS _ p1f) ?_
       try simp only [Act.put, lA, lZ, lC]
       refine lateT 19 (some 79) rfl rfl (hS _ p1f) ?_
       try simp only [Act.put, lA, lZ, lC]
       refine lateT 20 (some 80) rfl rfl (hS _ p1f) ?_
       try simp only [Act.put, lA, lZ, lC]
       refine lateT 21 (some 81) rfl rfl (hS _ p1f) ?_
       try simp only [Act.put, lA, lZ, lC]
       refine lateT 22 (some 82) rfl rfl (hS _ p1f) ?_
       try simp only [Act.put, lA, lZ, lC]
       refine late_one (i := 23) rfl (by kernel_rfl) ?_
       intro K hK
       go_simp
       have hcm := cmp_r _ (-1074) 971 (-1074) 971 xx yy _ _ (hxx.below p1f) (hyy.below p1f) (fz_W (getD_num a.r hza.numR i) (getD_num b.r hzb.numR i))
       rw [hrv] at hcm
       refine hcm.mono ?_
       clear hcm
       rintro e p2w ⟨rfl, p2b⟩
       have p2f := p1f.trans (p2b.mono p1f.size)
       try show K _ _
       refine hK.out _ _ (Or.inr (hS _ p2f)) ?_
       clear hK K
       try simp only [Act.put, lA, lZ, lC]
       refine lateT 24 (some 84) rfl rfl (hS _ p2f) ?_
       try simp only [Act.put, lA, lZ, lC]
       refine lateT 25 (some 85) rfl rfl (hS _ p2f) ?_
       try simp only [Act.put, lA, lZ, lC]
       refine late_done (by kernel_rfl) ?_ _
       have hBr1 := p2f
       have HRC := Lib.hid (And.intro HCE.out HRE.out)
       clear hS hd hBr x0 x1 x2 y0 y1 y2 xx0 xx1 xx2 yy0 yy1 yy2 hx hy hxx hyy hcv hrv HCE HRE p1f p1b p2b hlc1 hlc2 hlr1 hlr2
       generalize p2w = Wi at *
       go_wp2_with fail
       go_loopw [10] (fun kk wr => ∃ k : Nat, k ≤ L ∧ kk = .int .i64 (k : Nat) ∧ ColEq a b i k ∧ Below W7.heap.size W7 wr) (fun kk _ => L - (intOf kk).toNat)
       case atStart => exact ⟨0, Nat.zero_le _, rfl, fun k h => absurd h (Nat.not_lt_zero _), hBr1⟩
       case round =>
        obtain ⟨k, hk, rfl, hcol, hBk⟩ := hrel
        have HCOL := Lib.hid hcol
        clear hcol hBr1
        obtain ⟨_, _, r2, _, _⟩ := cells5 ((hBk.block _ (Array.getElem?_eq_some_iff.1 kx).1).trans kx)
        by_cases hkL : k < L
        ·have hkL' : (k : Int) < (L : Int) := by omega
         have hka : k < a.ids.length := by have := HLA.out.1; omega
         have hkb : k < b.ids.length := by have := HLA.out.2; omega
         have hka' : (k : Int) < (a.ids.length : Int) := by omega
         have hkb' : (k : Int) < (b.ids.length : Int) := by omega
         obtain ⟨ia, hia⟩ := get_some a.ids k hka
         obtain ⟨ib, hib⟩ := get_some b.ids k hkb
         obtain ⟨bi, oi, rfl, hbi, ci⟩ := hRx.ids.row k ia hia
         obtain ⟨bj, oj, rfl, hbj, cj⟩ := hRy.ids.row k ib hib
         replace ci : W7.cell? ⟨bi, oi + k, none⟩ = some (.int .i64 ia) := ci
         replace cj : W7.cell? ⟨bj, oj + k, none⟩ = some (.int .i64 ib) := cj
         have HID := Lib.hid (show a.ids.getD k 0 = ia ∧ b.ids.getD k 0 = ib from ⟨by rw [List.getD_eq_getElem?_getD, hia, Option.getD_some], by rw [List.getD_eq_getElem?_getD, hib, Option.getD_some]⟩)
         have HLA2 := HLA.out
         rw [HLA2.1] at r2
         clear hia hib HLA2
         go_upto_region 15 with fail
         clear r2
         by_cases hie : ia = ib
         ·subst hie
          have hi1 : (ia == ia) = true := beq_self_eq_true _
          have hi2 : (ia != ia) = false := bne_self_eq_false _
          have hkga : k < a.g.length := by have := hza.len; omega
          have hkgb : k < b.g.length := by have := hzb.len; omega
          have hkga' : (k : Int) < (a.g.length : Int) := by omega
          have hkgb' : (k : Int) < (b.g.length : Int) := by omega
          have hca : i < (colZ a k).length := by have := (hza.colAt ka k hkga).2.1; have := HN.out.1; omega
          have hcb : i < (colZ b k).length := by have := (hzb.colAt kb k hkgb).2.1; have := HN.out.2; omega
          have hca' : (i : Int) < ((colZ a k).length : Int) := by omega
          have hcb' : (i : Int) < ((colZ b k).length : Int) := by omega
          obtain ⟨ga, oga, ma, oma, kma, x, rfl, hga, cga, hma, x0, x1, x2, hx⟩ := col_num hRx k i hkga hca
          obtain ⟨gb, ogb, mb, omb, kmb, y, rfl, hgb, cgb, hmb, y0, y1, y2, hy⟩ := col_num hRy k i hkgb hcb
          by_cases hge : fz ((colZ a k).getD i 0) = fz ((colZ b k).getD i 0)
          ·have hcv : (fz ((colZ a k).getD i 0) + -fz ((colZ b k).getD i 0)).sign = 0 := by rw [hge, Int.add_right_neg]; rfl
           have HGE := Lib.hid hge
           clear hge
           have hS : ∀ W', Below W7.heap.size W7 W' → (fun w' => (w'.cell? ⟨bx, 2, none⟩ = some (.slice (some ⟨bi, oi, none⟩) a.ids.length kB') ∧ w'.cell? ⟨by_, 2, none⟩ = some (.slice (some ⟨bj, oj, none⟩) b.ids.length kB2') ∧ w'.cell? ⟨bi, oi + k, none⟩ = some (.int .i64 ia) ∧ w'.cell? ⟨bj, oj + k, none⟩ = some (.int .i64 ia)) ∧ w'.cell? ⟨bx, 3, none⟩ = some (.slice (some ⟨ga, oga, none⟩) a.g.length kC') ∧ w'.cell? ⟨by_, 3, none⟩ = some (.slice (some ⟨gb, ogb, none⟩) b.g.length kC2') ∧ w'.cell? ⟨ga, oga + k, none⟩ = some (.slice (some ⟨ma, oma, none⟩) (colZ a k).length kma) ∧ w'.cell? ⟨gb, ogb + k, none⟩ = some (.slice (some ⟨mb, omb, none⟩) (colZ b k).length kmb) ∧ (w'.cell? ⟨ma, oma + i * 3, none⟩ = some (.bool x.neg) ∧ w'.cell? ⟨ma, oma + i * 3 + 1, none⟩ = some (.slice x.A x.n x.cap) ∧ w'.cell? ⟨ma, oma + i * 3 + 2, none⟩ = some (.int .i64 x.E)) ∧ (w'.cell? ⟨mb, omb + i * 3, none⟩ = some (.bool y.neg) ∧ w'.cell? ⟨mb, omb + i * 3 + 1, none⟩ = some (.slice y.A y.n y.cap) ∧ w'.cell? ⟨mb, omb + i * 3 + 2, none⟩ = some (.int .i64 y.E))) W' := fun W' hb => by
            have z0 := cells5 ((hb.block _ (Array.getElem?_eq_some_iff.1 kx).1).trans kx)
            have z1 := cells5 ((hb.block _ (Array.getElem?_eq_some_iff.1 ky).1).trans ky)
            exact ⟨⟨z0.2.2.1, z1.2.2.1, (hb.cell (p := ⟨bi, oi + k, none⟩) hbi).trans ci, (hb.cell (p := ⟨bj, oj + k, none⟩) hbj).trans cj⟩, z0.2.2.2.1, z1.2.2.2.1, (hb.cell (p := ⟨ga, oga + k, none⟩) hga).trans cga, (hb.cell (p := ⟨gb, ogb + k, none⟩) hgb).trans cgb, ⟨(hb.cell (p := ⟨ma, oma + i * 3, none⟩) hma).trans x0, (hb.cell (p := ⟨ma, oma + i * 3 + 1, none⟩) hma).trans x1, (hb.cell (p := ⟨ma, oma + i * 3 + 2, none⟩) hma).trans x2⟩, ⟨(hb.cell (p := ⟨mb, omb + i * 3, none⟩) hmb).trans y0, (hb.cell (p := ⟨mb, omb + i * 3 + 1, none⟩) hmb).trans y1, (hb.cell (p := ⟨mb, omb + i * 3 + 2, none⟩) hmb).trans y2⟩⟩
           have hd := hBk.drew
           refine late_begin (fun w' => (w'.cell? ⟨bx, 2, none⟩ = some (.slice (some ⟨bi, oi, none⟩) a.ids.length kB') ∧ w'.cell? ⟨by_, 2, none⟩ = some (.slice (some ⟨bj, oj, none⟩) b.ids.length kB2') ∧ w'.cell? ⟨bi, oi + k, none⟩ = some (.int .i64 ia) ∧ w'.cell? ⟨bj, oj + k, none⟩ = some (.int .i64 ia)) ∧ w'.cell? ⟨bx, 3, none⟩ = some (.slice (some ⟨ga, oga, none⟩) a.g.length kC') ∧ w'.cell? ⟨by_, 3, none⟩ = some (.slice (some ⟨gb, ogb, none⟩) b.g.length kC2') ∧ w'.cell? ⟨ga, oga + k, none⟩ = some (.slice (some ⟨ma, oma, none⟩) (colZ a k).length kma) ∧ w'.cell? ⟨gb, ogb + k, none⟩ = some (.slice (some ⟨mb, omb, none⟩) (colZ b k).length kmb) ∧ (w'.cell? ⟨ma, oma + i * 3, none⟩ = some (.bool x.neg) ∧ w'.cell? ⟨ma, oma + i * 3 + 1, none⟩ = some (.slice x.A x.n x.cap) ∧ w'.cell? ⟨ma, oma + i * 3 + 2, none⟩ = some (.int .i64 x.E)) ∧ (w'.cell? ⟨mb, omb + i * 3, none⟩ = some (.bool y.neg) ∧ w'.cell? ⟨mb, omb + i * 3 + 1, none⟩ = some (.slice y.A y.n y.cap) ∧ w'.cell? ⟨mb, omb + i * 3 + 2, none⟩ = some (.int .i64 y.E))) [] (by kernel_rfl) ?_
           refine lateT 0 (some 93) rfl rfl (hS _ hd) ?_
           try simp only [Act.put, lA, lZ, lC]
           refine lateT 1 (some 94) rfl rfl (hS _ hd) ?_
           try simp only [Act.put, lA, lZ, lC]
           refine lateT 2 (some 95) rfl rfl (hS _ hd) ?_
           try simp only [Act.put, lA, lZ, lC]
           refine lateT 3 (some 96) rfl rfl (hS _ hd) ?_
           try simp only [Act.put, lA, lZ, lC]
           refine lateT 4 (some 97) rfl rfl (hS _ hd) ?_
           try simp only [Act.put, lA, lZ, lC]
           refine lateT 5 (some 98) rfl rfl (hS _ hd) ?_
           try simp only [Act.put, lA, lZ, lC]
           refine lateT 6 (some 99) rfl rfl (hS _ hd) ?_
           try simp only [Act.put, lA, lZ, lC]
           refine lateT 7 (some 100) rfl rfl (hS _ hd) ?_
           try simp only [Act.put, lA, lZ, lC]
           refine lateT 8 (some 101) rfl rfl (hS _ hd) ?_
           try simp only [Act.put, lA, lZ, lC]
           refine lateT 9 (some 102) rfl rfl (hS _ hd) ?_
           try simp only [Act.put, lA, lZ, lC]
           refine lateT 10 (some 103) rfl rfl (hS _ hd) ?_
           try simp only [Act.put, lA, lZ, lC]
           refine lateT 11 (some 104) rfl rfl (hS _ hd) ?_
           try simp only [Act.put, lA, lZ, lC]
           refine lateT 12 (some 105) rfl rfl (hS _ hd) ?_
           try simp only [Act.put, lA, lZ, lC]
           refine lateT 13 (some 106) rfl rfl (hS _ hd) ?_
           try simp only [Act.put, lA, lZ, lC]
           refine lateT 14 (some 107) rfl rfl (hS _ hd) ?_
           try simp only [Act.put, lA, lZ, lC]
           refine lateT 15 (some 108) rfl rfl (hS _ hd) ?_
           try simp only [Act.put, lA, lZ, lC]
           refine lateT 16 (some 109) rfl rfl (hS _ hd) ?_
           try simp only [Act.put, lA, lZ, lC]
           refine lateT 17 (some 110) rfl rfl (hS _ hd) ?_
           try simp only [Act.put, lA, lZ, lC]
           refine lateT 18 (some 111) rfl rfl (hS _ hd) ?_
           try simp only [Act.put, lA, lZ, lC]
           refine lateT 19 (some 112) rfl rfl (hS _ hd) ?_
           try simp only [Act.put, lA, lZ, lC]
           refine lateT 20 (some 113) rfl rfl (hS _ hd) ?_
           try simp only [Act.put, lA, lZ, lC]
           refine lateT 21 (some 114) rfl rfl (hS _ hd) ?_
           try simp only [Act.put, lA, lZ, lC]
           refine lateT 22 (some 115) rfl rfl (hS _ hd) ?_
           try simp only [Act.put, lA, lZ, lC]
           refine lateT 23 (some 116) rfl rfl (hS _ hd) ?_
           try simp only [Act.put, lA, lZ, lC]
           refine lateT 24 (some 117) rfl rfl (hS _ hd) ?_
           try simp only [Act.put, lA, lZ, lC]
           refine lateT 25 (some 118) rfl rfl (hS _ hd) ?_
           try simp only [Act.put, lA, lZ, lC]
           refine lateT 26 (some 119) rfl rfl (hS _ hd) ?_
           try simp only [Act.put, lA, lZ, lC]
           refine lateT 27 (some 120) rfl rfl (hS _ hd) ?_
           try simp only [Act.put, lA, lZ, lC]
           refine late_one (i := 28) rfl (by kernel_rfl) ?_
           intro K hK
           go_simp
           have hcm := cmp_r _ (-1074) 971 (-1074) 971 x y _ _ (hx.below hd) (hy.below hd) (fz_W (getD_num _ (hza.colNum k) i) (getD_num _ (hzb.colNum k) i))
           rw [hcv] at hcm
           refine hcm.mono ?_
           clear hcm
           rintro e p1w ⟨rfl, p1b⟩
           have p1f := hd.trans (p1b.mono hd.size)
           try show K _ _
           refine hK.out _ _ (Or.inr (hS _ p1f)) ?_
           clear hK K
           try simp only [Act.put, lA, lZ, lC]
           refine lateT 29 (some 122) rfl rfl (hS _ p1f) ?_
           try simp only [Act.put, lA, lZ, lC]
           refine lateT 30 (some 123) rfl rfl (hS _ p1f) ?_
           try simp only [Act.put, lA, lZ, lC]
           refine late_done (by kernel_rfl) ?_ _
           have HF := Lib.hid p1f
           clear hS hd x0 x1 x2 y0 y1 y2 hx hy p1b p1f hBk
           go_wp2_with fail
           go_roundw
           case rel => exact ⟨k + 1, by omega, by go_num, fun k' hk' => by
            rcases Nat.lt_or_ge k' k with h2 | h2
            ·exact HCOL.out k' h2
            ·obtain rfl : k' = k := by omega
             exact ⟨HID.out.1.trans HID.out.2.symm, HGE.out⟩, HF.out⟩
           case measure => simp [intOf]; omega
          ·obtain ⟨sg, hcv⟩ : ∃ s, (fz ((colZ a k).getD i 0) + -fz ((colZ b k).getD i 0)).sign = s := ⟨_, rfl⟩
           have hsg : sg ≠ 0 := hcv ▸ sign_ne hge
           have hsg1 : (sg == 0) = false := beq_eq_false_iff_ne.2 hsg
           have hsg2 : (sg != 0) = true := bne_iff_ne.2 hsg
           have HGE := Lib.hid hge
           clear hge hsg
           have hS : ∀ W', Below W7.heap.size W7 W' → (fun w' => (w'.cell? ⟨bx, 2, none⟩ = some (.slice (some ⟨bi, oi, none⟩) a.ids.length kB') ∧ w'.cell? ⟨by_, 2, none⟩ = some (.slice (some ⟨bj, oj, none⟩) b.ids.length kB2') ∧ w'.cell? ⟨bi, oi + k, none⟩ = some (.int .i64 ia) ∧ w'.cell? ⟨bj, oj + k, none⟩ = some (.int .i64 ia)) ∧ w'.cell? ⟨bx, 3, none⟩ = some (.slice (some ⟨ga, oga, none⟩) a.g.length kC') ∧ w'.cell? ⟨by_, 3, none⟩ = some (.slice (some ⟨gb, ogb, none⟩) b.g.length kC2') ∧ w'.cell? ⟨ga, oga + k, none⟩ = some (.slice (some ⟨ma, oma, none⟩) (colZ a k).length kma) ∧ w'.cell? ⟨gb, ogb + k, none⟩ = some (.slice (some ⟨mb, omb, none⟩) (colZ b k).length kmb) ∧ (w'.cell? ⟨ma, oma + i * 3, none⟩ = some (.bool x.neg) ∧ w'.cell? ⟨ma, oma + i * 3 + 1, none⟩ = some (.slice x.A x.n x.cap) ∧ w'.cell? ⟨ma, oma + i * 3 + 2, none⟩ = some (.int .i64 x.E)) ∧ (w'.cell? ⟨mb, omb + i * 3, none⟩ = some (.bool y.neg) ∧ w'.cell? ⟨mb, omb + i * 3 + 1, none⟩ = some (.slice y.A y.n y.cap) ∧ w'.cell? ⟨mb, omb + i * 3 + 2, none⟩ = some (.int .i64 y.E))) W' := fun W' hb => by
            have z0 := cells5 ((hb.block _ (Array.getElem?_eq_some_iff.1 kx).1).trans kx)
            have z1 := cells5 ((hb.block _ (Array.getElem?_eq_some_iff.1 ky).1).trans ky)
            exact ⟨⟨z0.2.2.1, z1.2.2.1, (hb.cell (p := ⟨bi, oi + k, none⟩) hbi).trans ci, (hb.cell (p := ⟨bj, oj + k, none⟩) hbj).trans cj⟩, z0.2.2.2.1, z1.2.2.2.1, (hb.cell (p := ⟨ga, oga + k, none⟩) hga).trans cga, (hb.cell (p := ⟨gb, ogb + k, none⟩) hgb).trans cgb, ⟨(hb.cell (p := ⟨ma, oma + i * 3, none⟩) hma).trans x0, (hb.cell (p := ⟨ma, oma + i * 3 + 1, none⟩) hma).trans x1, (hb.cell (p := ⟨ma, oma + i * 3 + 2, none⟩) hma).trans x2⟩, ⟨(hb.cell (p := ⟨mb, omb + i * 3, none⟩) hmb).trans y0, (hb.cell (p := ⟨mb, omb + i * 3 + 1, none⟩) hmb).trans y1, (hb.cell (p := ⟨mb, omb + i * 3 + 2, none⟩) hmb).trans y2⟩⟩
           have hd := hBk.drew
           refine late_begin (fun w' => (w'.cell? ⟨bx, 2, none⟩ = some (.slice (some ⟨bi, oi, none⟩) a.ids.length kB') ∧ w'.cell? ⟨by_, 2, none⟩ = some (.slice (some ⟨bj, oj, none⟩) b.ids.length kB2') ∧ w'.cell? ⟨bi, oi + k, none⟩ = some (.int .i64 ia) ∧ w'.cell? ⟨bj, oj + k, none⟩ = some (.int .i64 ia)) ∧ w'.cell? ⟨bx, 3, none⟩ = some (.slice (some ⟨ga, oga, none⟩) a.g.length kC') ∧ w'.cell? ⟨by_, 3, none⟩ = some (.slice (some ⟨gb, ogb, none⟩) b.g.length kC2') ∧ w'.cell? ⟨ga, oga + k, none⟩ = some (.slice (some ⟨ma, oma, none⟩) (colZ a k).length kma) ∧ w'.cell? ⟨gb, ogb + k, none⟩ = some (.slice (some ⟨mb, omb, none⟩) (colZ b k).length kmb) ∧ (w'.cell? ⟨ma, oma + i * 3, none⟩ = some (.bool x.neg) ∧ w'.cell? ⟨ma, oma + i * 3 + 1, none⟩ = some (.slice x.A x.n x.cap) ∧ w'.cell? ⟨ma, oma + i * 3 + 2, none⟩ = some (.int .i64 x.E)) ∧ (w'.cell? ⟨mb, omb + i * 3, none⟩ = some (.bool y.neg) ∧ w'.cell? ⟨mb, omb + i * 3 + 1, none⟩ = some (.slice y.A y.n y.cap) ∧ w'.cell? ⟨mb, omb + i * 3 + 2, none⟩ = some (.int .i64 y.E))) [] (by kernel_rfl) ?_
           refine lateT 0 (some 93) rfl rfl (hS _ hd) ?_
           try simp only [Act.put, lA, lZ, lC]
           refine lateT 1 (some 94) rfl rfl (hS _ hd) ?_
           try simp only [Act.put, lA, lZ, lC]
           refine lateT 2 (some 95) rfl rfl (hS _ hd) ?_
           try simp only [Act.put, lA, lZ, lC]
           refine lateT 3 (some 96) rfl rfl (hS _ hd) ?_
           try simp only [Act.put, lA, lZ, lC]
           refine lateT 4 (some 97) rfl rfl (hS _ hd) ?_
           try simp only [Act.put, lA, lZ, lC]
           refine lateT 5 (some 98) rfl rfl (hS _ hd) ?_
           try simp only [Act.put, lA, lZ, lC]
           refine lateT 6 (some 99) rfl rfl (hS _ hd) ?_
           try simp only [Act.put, lA, lZ, lC]
           refine lateT 7 (some 100) rfl rfl (hS _ hd) ?_
           try simp only [Act.put, lA, lZ, lC]
           refine lateT 8 (some 101) rfl rfl (hS _ hd) ?_
           try simp only [Act.put, lA, lZ, lC]
           refine lateT 9 (some 102) rfl rfl (hS _ hd) ?_
           try simp only [Act.put, lA, lZ, lC]
           refine lateT 10 (some 103) rfl rfl (hS _ hd) ?_
           try simp only [Act.put, lA, lZ, lC]
           refine lateT 11 (some 104) rfl rfl (hS _ hd) ?_
           try simp only [Act.put, lA, lZ, lC]
           refine lateT 12 (some 105) rfl rfl (hS _ hd) ?_
           try simp only [Act.put, lA, lZ, lC]
           refine lateT 13 (some 106) rfl rfl (hS _ hd) ?_
           try simp only [Act.put, lA, lZ, lC]
           refine lateT 14 (some 107) rfl rfl (hS _ hd) ?_
           try simp only [Act.put, lA, lZ, lC]
           refine lateT 15 (some 108) rfl rfl (hS _ hd) ?_
           try simp only [Act.put, lA, lZ, lC]
           refine lateT 16 (some 109) rfl rfl (hS _ hd) ?_
           try simp only [Act.put, lA, lZ, lC]
           refine lateT 17 (some 110) rfl rfl (hS _ hd) ?_
           try simp only [Act.put, lA, lZ, lC]
           refine lateT 18 (some 111) rfl rfl (hS _ hd) ?_
           try simp only [Act.put, lA, lZ, lC]
           refine lateT 19 (some 112) rfl rfl (hS _ hd) ?_
           try simp only [Act.put, lA, lZ, lC]
           refine lateT 20 (some 113) rfl rfl (hS _ hd) ?_
           try simp only [Act.put, lA, lZ, lC]
           refine lateT 21 (some 114) rfl rfl (hS _ hd) ?_
           try simp only [Act.put, lA, lZ, lC]
           refine lateT 22 (some 115) rfl rfl (hS _ hd) ?_
           try simp only [Act.put, lA, lZ, lC]
           refine lateT 23 (some 116) rfl rfl (hS _ hd) ?_
           try simp only [Act.put, lA, lZ, lC]
           refine lateT 24 (some 117) rfl rfl (hS _ hd) ?_
           try simp only [Act.put, lA, lZ, lC]
           refine lateT 25 (some 118) rfl rfl (hS _ hd) ?_
           try simp only [Act.put, lA, lZ, lC]
           refine lateT 26 (some 119) rfl rfl (hS _ hd) ?_
           try simp only [Act.put, lA, lZ, lC]
           refine lateT 27 (some 120) rfl rfl (hS _ hd) ?_
           try simp only [Act.put, lA, lZ, lC]
           refine late_one (i := 28) rfl (by kernel_rfl) ?_
           intro K hK
           go_simp
           have hcm := cmp_r _ (-1074) 971 (-1074) 971 x y _ _ (hx.below hd) (hy.below hd) (fz_W (getD_num _ (hza.colNum k) i) (getD_num _ (hzb.colNum k) i))
           rw [hcv] at hcm
           refine hcm.mono ?_
           clear hcm
           rintro e p1w ⟨rfl, p1b⟩
           have p1f := hd.trans (p1b.mono hd.size)
           try show K _ _
           refine hK.out _ _ (Or.inr (hS _ p1f)) ?_
           clear hK K
           try simp only [Act.put, lA, lZ, lC]
           refine lateT 29 (some 122) rfl rfl (hS _ p1f) ?_
           try simp only [Act.put, lA, lZ, lC]
           refine lateT 30 (some 123) rfl rfl (hS _ p1f) ?_
           try simp only [Act.put, lA, lZ, lC]
           refine late_done (by kernel_rfl) ?_ _
           have HF := Lib.hid (hB7.trans (p1f.mono hB7.size))
           clear hS hd
           go_wp2_with fail
           go_ret
           exact ⟨by rw [HSM.out, Bool.eq_false_iff.2 fun h => HGE.out (((HI.out.1 h).2 i hlt).2.2 k hka).2]; rfl, HF.out⟩
         ·have hi1 : (ia == ib) = false := beq_eq_false_iff_ne.2 hie
          have hi2 : (ia != ib) = true := bne_iff_ne.2 hie
          have HIE := Lib.hid hie
          clear hie
          have hS : ∀ W', Below W7.heap.size W7 W' → (fun w' => (w'.cell? ⟨bx, 2, none⟩ = some (.slice (some ⟨bi, oi, none⟩) a.ids.length kB') ∧ w'.cell? ⟨by_, 2, none⟩ = some (.slice (some ⟨bj, oj, none⟩) b.ids.length kB2') ∧ w'.cell? ⟨bi, oi + k, none⟩ = some (.int .i64 ia) ∧ w'.cell? ⟨bj, oj + k, none⟩ = some (.int .i64 ib))) W' := fun W' hb => by
           have z0 := cells5 ((hb.block _ (Array.getElem?_eq_some_iff.1 kx).1).trans kx)
           have z1 := cells5 ((hb.block _ (Array.getElem?_eq_some_iff.1 ky).1).trans ky)
           exact ⟨z0.2.2.1, z1.2.2.1, (hb.cell (p := ⟨bi, oi + k, none⟩) hbi).trans ci, (hb.cell (p := ⟨bj, oj + k, none⟩) hbj).trans cj⟩
          have hd := hBk.drew
          refine late_begin (fun w' => (w'.cell? ⟨bx, 2, none⟩ = some (.slice (some ⟨bi, oi, none⟩) a.ids.length kB') ∧ w'.cell? ⟨by_, 2, none⟩ = some (.slice (some ⟨bj, oj, none⟩) b.ids.length kB2') ∧ w'.cell? ⟨bi, oi + k, none⟩ = some (.int .i64 ia) ∧ w'.cell? ⟨bj, oj + k, none⟩ = some (.int .i64 ib))) [] (by kernel_rfl) ?_
          refine lateT 0 (some 93) rfl rfl (hS _ hd) ?_
          try simp only [Act.put, lA, lZ, lC]
          refine lateT 1 (some 94) rfl rfl (hS _ hd) ?_
          try simp only [Act.put, lA, lZ, lC]
          refine lateT 2 (some 95) rfl rfl (hS _ hd) ?_
          try simp only [Act.put, lA, lZ, lC]
          refine lateT 3 (some 96) rfl rfl (hS _ hd) ?_
          try simp only [Act.put, lA, lZ, lC]
          refine lateT 4 (some 97) rfl rfl (hS _ hd) ?_
          try simp only [Act.put, lA, lZ, lC]
          refine lateT 5 (some 98) rfl rfl (hS _ hd) ?_
          try simp only [Act.put, lA, lZ, lC]
          refine lateT 6 (some 99) rfl rfl (hS _ hd) ?_
          try simp only [Act.put, lA, lZ, lC]
          refine lateT 7 (some 100) rfl rfl (hS _ hd) ?_
          try simp only [Act.put, lA, lZ, lC]
          refine lateT 8 (some 101) rfl rfl (hS _ hd) ?_
          try simp only [Act.put, lA, lZ, lC]
          refine lateT 9 (some 102) rfl rfl (hS _ hd) ?_
          try simp only [Act.put, lA, lZ, lC]
          refine lateT 10 (some 103) rfl rfl (hS _ hd) ?_
          try simp only [Act.put, lA, lZ, lC]
          refine lateT 11 (some 104) rfl rfl (hS _ hd) ?_
          try simp only [Act.put, lA, lZ, lC]
          refine lateX 12 (some 105) rfl rfl (hS _ hd) ?_
          try simp only [Act.put, lA, lZ, lC]
          refine lateX 13 (some 106) rfl rfl (hS _ hd) ?_
          try simp only [Act.put, lA, lZ, lC]
          refine lateX 14 (some 107) rfl rfl (hS _ hd) ?_
          try simp only [Act.put, lA, lZ, lC]
          refine lateX 15 (some 108) rfl rfl (hS _ hd) ?_
          try simp only [Act.put, lA, lZ, lC]
          refine lateX 16 (some 109) rfl rfl (hS _ hd) ?_
          try simp only [Act.put, lA, lZ, lC]
          refine lateX 17 (some 110) rfl rfl (hS _ hd) ?_
          try simp only [Act.put, lA, lZ, lC]
          refine lateX 18 (some 111) rfl rfl (hS _ hd) ?_
          try simp only [Act.put, lA, lZ, lC]
          refine lateX 19 (some 112) rfl rfl (hS _ hd) ?_
          try simp only [Act.put, lA, lZ, lC]
          refine lateX 20 (some 113) rfl rfl (hS _ hd) ?_
          try simp only [Act.put, lA, lZ, lC]
          refine lateX 21 (some 114) rfl rfl (hS _ hd) ?_
          try simp only [Act.put, lA, lZ, lC]
          refine lateX 22 (some 115) rfl rfl (hS _ hd) ?_
          try simp only [Act.put, lA, lZ, lC]
          refine lateX 23 (some 116) rfl rfl (hS _ hd) ?_
          try simp only [Act.put, lA, lZ, lC]
          refine lateX 24 (some 117) rfl rfl (hS _ hd) ?_
          try simp only [Act.put, lA, lZ, lC]
          refine lateX 25 (some 118) rfl rfl (hS _ hd) ?_
          try simp only [Act.put, lA, lZ, lC]
          refine lateX 26 (some 119) rfl rfl (hS _ hd) ?_
          try simp only [Act.put, lA, lZ, lC]
          refine lateX 27 (some 120) rfl rfl (hS _ hd) ?_
          try simp only [Act.put, lA, lZ, lC]
          refine lateX 28 (some 121) rfl rfl (hS _ hd) ?_
          try simp only [Act.put, lA, lZ, lC]
          refine lateX 29 (some 122) rfl rfl (hS _ hd) ?_
          try simp only [Act.put, lA, lZ, lC]
          refine lateT 30 (some 123) rfl rfl (hS _ hd) ?_
          try simp only [Act.put, lA, lZ, lC]
          refine late_done (by kernel_rfl) ?_ _
          have HF := Lib.hid (hB7.trans (hd.mono hB7.size))
          clear hS hd
          go_wp2_with fail
          go_ret
          exact ⟨by rw [HSM.out, Bool.eq_false_iff.2 fun h => HIE.out (HID.out.1.symm.trans ((((HI.out.1 h).2 i hlt).2.2 k hka).1.trans HID.out.2))]; rfl, HF.out⟩
        ·obtain rfl : L = k := by omega
         have hkL' : decide ((L : Int) < (L : Nat)) = false := by simp
         have HLA2 := HLA.out
         rw [HLA2.1] at r2
         clear HLA2
         go_wp2_with fail
         go_roundw
         case rel => exact ⟨i + 1, by omega, by go_num, fun i' hi' => by
          rcases Nat.lt_or_ge i' i with h2 | h2
          ·exact HALL.out i' h2
          ·obtain rfl : i' = i := by omega
           exact ⟨HRC.out.1, HRC.out.2, by rw [HLA.out.1]; exact HCOL.out⟩, hBk⟩
         case measure => simp [intOf]; omega
      ·obtain ⟨sg, hrv⟩ : ∃ s, (fz (a.r.getD i 0) + -fz (b.r.getD i 0)).sign = s := ⟨_, rfl⟩
       have hsg : sg ≠ 0 := hrv ▸ sign_ne hre
       have hsg1 : (sg == 0) = false := beq_eq_false_iff_ne.2 hsg
       have hsg2 : (sg != 0) = true := bne_iff_ne.2 hsg
       have HRE := Lib.hid hre
       clear hre hsg
       have hS : ∀ W', Below W7.heap.size W7 W' → (fun w' => (w'.cell? ⟨bx, 1, none⟩ = some (.slice (some ⟨bn, on, none⟩) a.c.length kA') ∧ w'.cell? ⟨bx, 4, none⟩ = some (.slice (some ⟨bp, op_, none⟩) a.r.length kD') ∧ w'.cell? ⟨by_, 1, none⟩ = some (.slice (some ⟨bm, om, none⟩) b.c.length kA2') ∧ w'.cell? ⟨by_, 4, none⟩ = some (.slice (some ⟨bq, oq, none⟩) b.r.length kD2')) ∧ (w'.cell? ⟨bn, on + i * 3, none⟩ = some (.bool x.neg) ∧ w'.cell? ⟨bn, on + i * 3 + 1, none⟩ = some (.slice x.A x.n x.cap) ∧ w'.cell? ⟨bn, on + i * 3 + 2, none⟩ = some (.int .i64 x.E)) ∧ (w'.cell? ⟨bm, om + i * 3, none⟩ = some (.bool y.neg) ∧ w'.cell? ⟨bm, om + i * 3 + 1, none⟩ = some (.slice y.A y.n y.cap) ∧ w'.cell? ⟨bm, om + i * 3 + 2, none⟩ = some (.int .i64 y.E)) ∧ (w'.cell? ⟨bp, op_ + i * 3, none⟩ = some (.bool xx.neg) ∧ w'.cell? ⟨bp, op_ + i * 3 + 1, none⟩ = some (.slice xx.A xx.n xx.cap) ∧ w'.cell? ⟨bp, op_ + i * 3 + 2, none⟩ = some (.int .i64 xx.E)) ∧ (w'.cell? ⟨bq, oq + i * 3, none⟩ = some (.bool yy.neg) ∧ w'.cell? ⟨bq, oq + i * 3 + 1, none⟩ = some (.slice yy.A yy.n yy.cap) ∧ w'.cell? ⟨bq, oq + i * 3 + 2, none⟩ = some (.int .i64 yy.E))) W' := fun W' hb => by
        have z0 := cells5 ((hb.block _ (Array.getElem?_eq_some_iff.1 kx).1).trans kx)
        have z1 := cells5 ((hb.block _ (Array.getElem?_eq_some_iff.1 ky).1).trans ky)
        exact ⟨⟨z0.2.1, z0.2.2.2.2, z1.2.1, z1.2.2.2.2⟩, ⟨(hb.cell (p := ⟨bn, on + i * 3, none⟩) hbn).trans x0, (hb.cell (p := ⟨bn, on + i * 3 + 1, none⟩) hbn).trans x1, (hb.cell (p := ⟨bn, on + i * 3 + 2, none⟩) hbn).trans x2⟩, ⟨(hb.cell (p := ⟨bm, om + i * 3, none⟩) hbm).trans y0, (hb.cell (p := ⟨bm, om + i * 3 + 1, none⟩) hbm).trans y1, (hb.cell (p := ⟨bm, om + i * 3 + 2, none⟩) hbm).trans y2⟩, ⟨(hb.cell (p := ⟨bp, op_ + i * 3, none⟩) hbp).trans xx0, (hb.cell (p := ⟨bp, op_ + i * 3 + 1, none⟩) hbp).trans xx1, (hb.cell (p := ⟨bp, op_ + i * 3 + 2, none⟩) hbp).trans xx2⟩, ⟨(hb.cell (p := ⟨bq, oq + i * 3, none⟩) hbq).trans yy0, (hb.cell (p := ⟨bq, oq + i * 3 + 1, none⟩) hbq).trans yy1, (hb.cell (p := ⟨bq, oq + i * 3 + 2, none⟩) hbq).trans yy2⟩⟩
       have hd := hBr.drew
       refine late_begin (fun w' => (w'.cell? ⟨bx, 1, none⟩ = some (.slice (some ⟨bn, on, none⟩) a.c.length kA') ∧ w'.cell? ⟨bx, 4, none⟩ = some (.slice (some ⟨bp, op_, none⟩) a.r.length kD') ∧ w'.cell? ⟨by_, 1, none⟩ = some (.slice (some ⟨bm, om, none⟩) b.c.length kA2') ∧ w'.cell? ⟨by_, 4, none⟩ = some (.slice (some ⟨bq, oq, none⟩) b.r.length kD2')) ∧ (w'.cell? ⟨bn, on + i * 3, none⟩ = some (.bool x.neg) ∧ w'.cell? ⟨bn, on + i * 3 + 1, none⟩ = some (.slice x.A x.n x.cap) ∧ w'.cell? ⟨bn, on + i * 3 + 2, none⟩ = some (.int .i64 x.E)) ∧ (w'.cell? ⟨bm, om + i * 3, none⟩ = some (.bool y.neg) ∧ w'.cell? ⟨bm, om + i * 3 + 1, none⟩ = some (.slice y.A y.n y.cap) ∧ w'.cell? ⟨bm, om + i * 3 + 2, none⟩ = some (.int .i64 y.E)) ∧ (w'.cell? ⟨bp, op_ + i * 3, none⟩ = some (.bool xx.neg) ∧ w'.cell? ⟨bp, op_ + i * 3 + 1, none⟩ = some (.slice xx.A xx.n xx.cap) ∧ w'.cell? ⟨bp, op_ + i * 3 + 2, none⟩ = some (.int .i64 xx.E)) ∧ (w'.cell? ⟨bq, oq + i * 3, none⟩ = some (.bool yy.neg) ∧ w'.cell? ⟨bq, oq + i * 3 + 1, none⟩ = some (.slice yy.A yy.n yy.cap) ∧ w'.cell? ⟨bq, oq + i * 3 + 2, none⟩ = some (.int .i64 yy.E))) [] (by kernel_rfl) ?_
       refine lateT 0 (some 60) rfl rfl (hS _ hd) ?_
       try simp only [Act.put, lA, lZ, lC]
       refine lateT 1 (some 61) rfl rfl (hS _ hd) ?_
       try simp only [Act.put, lA, lZ, lC]
       refine lateT 2 (some 62) rfl rfl (hS _ hd) ?_
       try simp only [Act.put, lA, lZ, lC]
       refine lateT 3 (some 63) rfl rfl (hS _ hd) ?_
       try simp only [Act.put, lA, lZ, lC]
       refine lateT 4 (some 64) rfl rfl (hS _ hd) ?_
       try simp only [Act.put, lA, lZ, lC]
       refine lateT 5 (some 65) rfl rfl (hS _ hd) ?_
       try simp only [Act.put, lA, lZ, lC]
       refine lateT 6 (some 66) rfl rfl (hS _ hd) ?_
       try simp only [Act.put, lA, lZ, lC]
       refine lateT 7 (some 67) rfl rfl (hS _ hd) ?_
       try simp only [Act.put, lA, lZ, lC]
       refine lateT 8 (some 68) rfl rfl (hS _ hd) ?_
       try simp only [Act.put, lA, lZ, lC]
       refine lateT 9 (some 69) rfl rfl (hS _ hd) ?_
       try simp only [Act.put, lA, lZ, lC]
       refine late_one (i := 10) rfl (by kernel_rfl) ?_
       intro K hK
       go_simp
       have hcm := cmp_r _ (-1074) 971 (-1074) 971 x y _ _ (hx.below hd) (hy.below hd) (fz_W (getD_num a.c hza.numC i) (getD_num b.c hzb.numC i))
       rw [hcv] at hcm
       refine hcm.mono ?_
       clear hcm
       rintro e p1w ⟨rfl, p1b⟩
       have p1f := hd.trans (p1b.mono hd.size)
       try show K _ _
       refine hK.out _ _ (Or.inr (hS _ p1f)) ?_
       clear hK K
       try simp only [Act.put, lA, lZ, lC]
       refine lateT 11 (some 71) rfl rfl (hS _ p1f) ?_
       try simp only [Act.put, lA, lZ, lC]
       refine lateT 12 (some 72) rfl rfl (hS _ p1f) ?_
       try simp only [Act.put, lA, lZ, lC]
       refine lateT 13 (some 73) rfl rfl (hS _ p1f) ?_
       try simp only [Act.put, lA, lZ, lC]
       refine lateT 14 (some 74) rfl rfl (hS _ p1f) ?_
       try simp only [Act.put, lA, lZ, lC]
       refine lateT 15 (some 75) rfl rfl (hS _ p1f) ?_
       try simp only [Act.put, lA, lZ, lC]
       refine lateT 16 (some 76) rfl rfl (hS _ p1f) ?_
       try simp only [Act.put, lA, lZ, lC]
       refine lateT 17 (some 77) rfl rfl (hS _ p1f) ?_
       try simp only [Act.put, lA, lZ, lC]
       refine lateT 18 (some 78) rfl rfl (hS _ p1f) ?_
       try simp only [Act.put, lA, lZ, lC]
       refine lateT 19 (some 79) rfl rfl (hS _ p1f) ?_
       try simp only [Act.put, lA, lZ, lC]
       refine lateT 20 (some 80) rfl rfl (hS _ p1f) ?_
       try simp only [Act.put, lA, lZ, lC]
       refine lateT 21 (some 81) rfl rfl (hS _ p1f) ?_
       try simp only [Act.put, lA, lZ, lC]
       refine lateT 22 (some 82) rfl rfl (hS _ p1f) ?_
       try simp only [Act.put, lA, lZ, lC]
       refine late_one (i := 23) rfl (by kernel_rfl) ?_
       intro K hK
       go_simp
       have hcm := cmp_r _ (-1074) 971 (-1074) 971 xx yy _ _ (hxx.below p1f) (hyy.below p1f) (fz_W (getD_num a.r hza.numR i) (getD_num b.r hzb.numR i))
       rw [hrv] at hcm
       refine hcm.mono ?_
       clear hcm
       rintro e p2w ⟨rfl, p2b⟩
       have p2f := p1f.trans (p2b.mono p1f.size)
       try show K _ _
       refine hK.out _ _ (Or.inr (hS _ p2f)) ?_
       clear hK K
       try simp only [Act.put, lA, lZ, lC]
       refine lateT 24 (some 84) rfl rfl (hS _ p2f) ?_
       try simp only [Act.put, lA, lZ, lC]
       refine lateT 25 (some 85) rfl rfl (hS _ p2f) ?_
       try simp only [Act.put, lA, lZ, lC]
       refine late_done (by kernel_rfl) ?_ _
       have HF := Lib.hid (hB7.trans (p2f.mono hB7.size))
       clear hS hd
       go_wp2_with fail
       go_ret
       exact ⟨by rw [HSM.out, Bool.eq_false_iff.2 fun h => HRE.out ((HI.out.1 h).2 i hlt).2.1]; rfl, HF.out⟩
     ·obtain ⟨sg, hcv⟩ : ∃ s, (fz (a.c.getD i 0) + -fz (b.c.getD i 0)).sign = s := ⟨_, rfl⟩
      have hsg : sg ≠ 0 := hcv ▸ sign_ne hce
      have hsg1 : (sg == 0) = false := beq_eq_false_iff_ne.2 hsg
      have hsg2 : (sg != 0) = true := bne_iff_ne.2 hsg
      have HCE := Lib.hid hce
      clear hce hsg
      have hS : ∀ W', Below W7.heap.size W7 W' → (fun w' => (w'.cell? ⟨bx, 1, none⟩ = some (.slice (some ⟨bn, on, none⟩) a.c.length kA') ∧ w'.cell? ⟨bx, 4, none⟩ = some (.slice (some ⟨bp, op_, none⟩) a.r.length kD') ∧ w'.cell? ⟨by_, 1, none⟩ = some (.slice (some ⟨bm, om, none⟩) b.c.length kA2') ∧ w'.cell? ⟨by_, 4, none⟩ = some (.slice (some ⟨bq, oq, none⟩) b.r.length kD2')) ∧ (w'.cell? ⟨bn, on + i * 3, none⟩ = some (.bool x.neg) ∧ w'.cell? ⟨bn, on + i * 3 + 1, none⟩ = some (.slice x.A x.n x.cap) ∧ w'.cell? ⟨bn, on + i * 3 + 2, none⟩ = some (.int .i64 x.E)) ∧ (w'.cell? ⟨bm, om + i * 3, none⟩ = some (.bool y.neg) ∧ w'.cell? ⟨bm, om + i * 3 + 1, none⟩ = some (.slice y.A y.n y.cap) ∧ w'.cell? ⟨bm, om + i * 3 + 2, none⟩ = some (.int .i64 y.E)) ∧ (w'.cell? ⟨bp, op_ + i * 3, none⟩ = some (.bool xx.neg) ∧ w'.cell? ⟨bp, op_ + i * 3 + 1, none⟩ = some (.slice xx.A xx.n xx.cap) ∧ w'.cell? ⟨bp, op_ + i * 3 + 2, none⟩ = some (.int .i64 xx.E)) ∧ (w'.cell? ⟨bq, oq + i * 3, none⟩ = some (.bool yy.neg) ∧ w'.cell? ⟨bq, oq + i * 3 + 1, none⟩ = some (.slice yy.A yy.n yy.cap) ∧ w'.cell? ⟨bq, oq + i * 3 + 2, none⟩ = some (.int .i64 yy.E))) W' := fun W' hb => by
       have z0 := cells5 ((hb.block _ (Array.getElem?_eq_some_iff.1 kx).1).trans kx)
       have z1 := cells5 ((hb.block _ (Array.getElem?_eq_some_iff.1 ky).1).trans ky)
       exact ⟨⟨z0.2.1, z0.2.2.2.2, z1.2.1, z1.2.2.2.2⟩, ⟨(hb.cell (p := ⟨bn, on + i * 3, none⟩) hbn).trans x0, (hb.cell (p := ⟨bn, on + i * 3 + 1, none⟩) hbn).trans x1, (hb.cell (p := ⟨bn, on + i * 3 + 2, none⟩) hbn).trans x2⟩, ⟨(hb.cell (p := ⟨bm, om + i * 3, none⟩) hbm).trans y0, (hb.cell (p := ⟨bm, om + i * 3 + 1, none⟩) hbm).trans y1, (hb.cell (p := ⟨bm, om + i * 3 + 2, none⟩) hbm).trans y2⟩, ⟨(hb.cell (p := ⟨bp, op_ + i * 3, none⟩) hbp).trans xx0, (hb.cell (p := ⟨bp, op_ + i * 3 + 1, none⟩) hbp).trans xx1, (hb.cell (p := ⟨bp, op_ + i * 3 + 2, none⟩) hbp).trans xx2⟩, ⟨(hb.cell (p := ⟨bq, oq + i * 3, none⟩) hbq).trans yy0, (hb.cell (p := ⟨bq, oq + i * 3 + 1, none⟩) hbq).trans yy1, (hb.cell (p := ⟨bq, oq + i * 3 + 2, none⟩) hbq).trans yy2⟩⟩
      have hd := hBr.drew
      refine late_begin (fun w' => (w'.cell? ⟨bx, 1, none⟩ = some (.slice (some ⟨bn, on, none⟩) a.c.length kA') ∧ w'.cell? ⟨bx, 4, none⟩ = some (.slice (some ⟨bp, op_, none⟩) a.r.length kD') ∧ w'.cell? ⟨by_, 1, none⟩ = some (.slice (some ⟨bm, om, none⟩) b.c.length kA2') ∧ w'.cell? ⟨by_, 4, none⟩ = some (.slice (some ⟨bq, oq, none⟩) b.r.length kD2')) ∧ (w'.cell? ⟨bn, on + i * 3, none⟩ = some (.bool x.neg) ∧ w'.cell? ⟨bn, on + i * 3 + 1, none⟩ = some (.slice x.A x.n x.cap) ∧ w'.cell? ⟨bn, on + i * 3 + 2, none⟩ = some (.int .i64 x.E)) ∧ (w'.cell? ⟨bm, om + i * 3, none⟩ = some (.bool y.neg) ∧ w'.cell? ⟨bm, om + i * 3 + 1, none⟩ = some (.slice y.A y.n y.cap) ∧ w'.cell? ⟨bm, om + i * 3 + 2, none⟩ = some (.int .i64 y.E)) ∧ (w'.cell? ⟨bp, op_ + i * 3, none⟩ = some (.bool xx.neg) ∧ w'.cell? ⟨bp, op_ + i * 3 + 1, none⟩ = some (.slice xx.A xx.n xx.cap) ∧ w'.cell? ⟨bp, op_ + i * 3 + 2, none⟩ = some (.int .i64 xx.E)) ∧ (w'.cell? ⟨bq, oq + i * 3, none⟩ = some (.bool yy.neg) ∧ w'.cell? ⟨bq, oq + i * 3 + 1, none⟩ = some (.slice yy.A yy.n yy.cap) ∧ w'.cell? ⟨bq, oq + i * 3 + 2, none⟩ = some (.int .i64 yy.E))) [] (by kernel_rfl) ?_
      refine lateT 0 (some 60) rfl rfl (hS _ hd) ?_
      try simp only [Act.put, lA, lZ, lC]
      refine lateT 1 (some 61) rfl rfl (hS _ hd) ?_
      try simp only [Act.put, lA, lZ, lC]
      refine lateT 2 (some 62) rfl rfl (hS _ hd) ?_
      try simp only [Act.put, lA, lZ, lC]
      refine lateT 3 (some 63) rfl rfl (hS _ hd) ?_
      try simp only [Act.put, lA, lZ, lC]
      refine lateT 4 (some 64) rfl rfl (hS _ hd) ?_
      try simp only [Act.put, lA, lZ, lC]
      refine lateT 5 (some 65) rfl rfl (hS _ hd) ?_
      try simp only [Act.put, lA, lZ, lC]
      refine lateT 6 (some 66) rfl rfl (hS _ hd) ?_
      try simp only [Act.put, lA, lZ, lC]
      refine lateT 7 (some 67) rfl rfl (hS _ hd) ?_
      try simp only [Act.put, lA, lZ, lC]
      refine lateT 8 (some 68) rfl rfl (hS _ hd) ?_
      try simp only [Act.put, lA, lZ, lC]
      refine lateT 9 (some 69) rfl rfl (hS _ hd) ?_
      try simp only [Act.put, lA, lZ, lC]
      refine late_one (i := 10) rfl (by kernel_rfl) ?_
      intro K hK
      go_simp
      have hcm := cmp_r _ (-1074) 971 (-1074) 971 x y _ _ (hx.below hd) (hy.below hd) (fz_W (getD_num a.c hza.numC i) (getD_num b.c hzb.numC i))
      rw [hcv] at hcm
      refine hcm.mono ?_
      clear hcm
      rintro e p1w ⟨rfl, p1b⟩
      have p1f := hd.trans (p1b.mono hd.size)
      try show K _ _
      refine hK.out _ _ (Or.inr (hS _ p1f)) ?_
      clear hK K
      try simp only [Act.put, lA, lZ, lC]
      refine lateT 11 (some 71) rfl rfl (hS _ p1f) ?_
      try simp only [Act.put, lA, lZ, lC]
      refine lateT 12 (some 72) rfl rfl (hS _ p1f) ?_
      try simp only [Act.put, lA, lZ, lC]
      refine lateX 13 (some 73) rfl rfl (hS _ p1f) ?_
      try simp only [Act.put, lA, lZ, lC]
      refine lateX 14 (some 74) rfl rfl (hS _ p1f) ?_
      try simp only [Act.put, lA, lZ, lC]
      refine lateX 15 (some 75) rfl rfl (hS _ p1f) ?_
      try simp only [Act.put, lA, lZ, lC]
      refine lateX 16 (some 76) rfl rfl (hS _ p1f) ?_
      try simp only [Act.put, lA, lZ, lC]
      refine lateX 17 (some 77) rfl rfl (hS _ p1f) ?_
      try simp only [Act.put, lA, lZ, lC]
      refine lateX 18 (some 78) rfl rfl (hS _ p1f) ?_
      try simp only [Act.put, lA, lZ, lC]
      refine lateX 19 (some 79) rfl rfl (hS _ p1f) ?_
      try simp only [Act.put, lA, lZ, lC]
      refine lateX 20 (some 80) rfl rfl (hS _ p1f) ?_
      try simp only [Act.put, lA, lZ, lC]
      refine lateX 21 (some 81) rfl rfl (hS _ p1f) ?_
      try simp only [Act.put, lA, lZ, lC]
      refine lateX 22 (some 82) rfl rfl (hS _ p1f) ?_
      try simp only [Act.put, lA, lZ, lC]
      refine lateX 23 (some 83) rfl rfl (hS _ p1f) ?_
      try simp only [Act.put, lA, lZ, lC]
      refine lateX 24 (some 84) rfl rfl (hS _ p1f) ?_
      try simp only [Act.put, lA, lZ, lC]
      refine lateT 25 (some 85) rfl rfl (hS _ p1f) ?_
      try simp only [Act.put, lA, lZ, lC]
      refine late_done (by kernel_rfl) ?_ _
      have HF := Lib.hid (hB7.trans (p1f.mono hB7.size))
      clear hS hd
      go_wp2_with fail
      go_ret
      exact ⟨by rw [HSM.out, Bool.eq_false_iff.2 fun h => HCE.out ((HI.out.1 h).2 i hlt).1]; rfl, HF.out⟩
    ·obtain rfl : n = i := by omega
     have hlt' : decide ((n : Int) < (n : Nat)) = false := by simp
     go_wp2_with fail
     go_ret
     exact ⟨by rw [HSM.out, HI.out.2 ⟨HLE.out, HALL.out⟩]; rfl, hB7.trans (hBr.mono hB7.size)⟩
  ·have hle' : ((a.ids.length : Int) == (b.ids.length : Int)) = false := beq_eq_false_iff_ne.2 (by omega)
   have hle2 : ((a.ids.length : Int) != (b.ids.length : Int)) = true := bne_iff_ne.2 (by omega)
   have HE := Lib.hid (show sameG a b = false by unfold sameG; rw [beq_eq_false_iff_ne.2 hle]; simp)
   go_wp2_with fail
   go_ret
   exact ⟨by rw [HSM.out, HE.out]; rfl, hB7⟩
 ·have hne' : (a.n == b.n) = false := beq_eq_false_iff_ne.2 hne
  have hne2 : (a.n != b.n) = true := bne_iff_ne.2 hne
  have HE := Lib.hid (show sameG a b = false by unfold sameG; rw [hne']; simp)
  go_wp2_with fail
  go_ret
  exact ⟨by rw [HSM.out, HE.out]; rfl, hB7⟩
end Go.Proofs.YtpfbgenefjhcjaaGreatDoor
