/-
  ambitref10.far: how far a coordinate may go; numbers in boxes.
  ambitref10.Reach: how far a zonotope reaches in a direction.
  ambitref10.Support.
-/
import Derived.Test.YtpfbgenefjhcjaaGreatDoorPZoReal2
import Derived.Test.YtpfbgenefjhcjaaGreatDoorPZoRea
import Derived.Test.YtpfbgenefjhcjaaGreatDoorPZoLow
namespace Go.Proofs.YtpfbgenefjhcjaaGreatDoor
set_option linter.unusedVariables false
set_option linter.unusedSimpArgs false
open Go Go.RowKit
set_option maxRecDepth 100000
/-- A number in a box. -/
def NumB (w : World) (b : Nat) (x : NV) : Prop := w.heap[b]? = some (.cells #[.bool x.neg, .slice x.A x.n x.cap, .int .i64 x.E] 70 (0, 0))
theorem NumB.lt {w : World} {b : Nat} {x : NV} (h : NumB w b x) : b < w.heap.size := (Array.getElem?_eq_some_iff.1 h).1
theorem NumB.below {w w1 : World} {b : Nat} {x : NV} (h : NumB w b x) (hb : Below w.heap.size w w1) : NumB w1 b x := (hb.block b h.lt).trans h
theorem NumB.typed {w : World} {b : Nat} {x : NV} (h : NumB w b x) : Typed w b 70 := ⟨_, h⟩
theorem cells3' {w : World} {g : Nat} {t : TypeId} {b0 b1 b2 : Value} (h : w.heap[g]? = some (.cells #[b0, b1, b2] t (0, 0))) : w.cell? ⟨g, 0, none⟩ = some b0 ∧ w.cell? ⟨g, 1, none⟩ = some b1 ∧ w.cell? ⟨g, 2, none⟩ = some b2 := by
  refine ⟨?_, ?_, ?_⟩ <;> (rw [cell_of_row _ _ _ _ _ _ h]; rfl)
theorem NumB.cells {w : World} {b : Nat} {x : NV} (h : NumB w b x) : w.cell? ⟨b, 0, none⟩ = some (.bool x.neg) ∧ w.cell? ⟨b, 1, none⟩ = some (.slice x.A x.n x.cap) ∧ w.cell? ⟨b, 2, none⟩ = some (.int .i64 x.E) := cells3' h
theorem NumB.put {w : World} {b : Nat} {x : NV} (h : NumB w b x) (y : NV) : NumB (((w.setCell ⟨b, 0, none⟩ (.bool y.neg)).setCell ⟨b, 1, none⟩ (.slice y.A y.n y.cap)).setCell ⟨b, 2, none⟩ (.int .i64 y.E)) b y ∧
    w.grownBy (((w.setCell ⟨b, 0, none⟩ (.bool y.neg)).setCell ⟨b, 1, none⟩ (.slice y.A y.n y.cap)).setCell ⟨b, 2, none⟩ (.int .i64 y.E)) (some b) := set3 h _ _ _
/-- A number of a list of lists. -/
theorem col_num {w : World} {z : ZD} {A B C D : Option Addr} {kA kB kC kD : Nat} (h : RealC w z A B C D kA kB kC kD) (k i : Nat) (hk : k < z.g.length) (hi : i < (colZ z k).length) :
    ∃ (bc oc bn on cn : Nat) (y : NV), C = some ⟨bc, oc, none⟩ ∧ bc < w.heap.size ∧ w.cell? ⟨bc, oc + k, none⟩ = some (.slice (some ⟨bn, on, none⟩) (colZ z k).length cn) ∧ bn < w.heap.size ∧ w.cell? ⟨bn, on + i * 3, none⟩ = some (.bool y.neg) ∧ w.cell? ⟨bn, on + i * 3 + 1, none⟩ = some (.slice y.A y.n y.cap) ∧ w.cell? ⟨bn, on + i * 3 + 2, none⟩ = some (.int .i64 y.E) ∧ NumR (-1074) 971 w y (fz ((colZ z k).getD i 0)) := by
  have hg : z.g[k]? = some (colZ z k) := by unfold colZ; rw [List.getD_eq_getElem?_getD, List.getElem?_eq_getElem hk, Option.getD_some]
  have hm : (z.g.map fun g => g.map fz)[k]? = some ((colZ z k).map fz) := by rw [List.getElem?_map, hg]; rfl
  obtain ⟨bc, oc, e, hb, B', cap, hc, hn⟩ := h.g k _ hm
  have hu : ((colZ z k).map fz)[i]? = some (fz ((colZ z k).getD i 0)) := by rw [List.getElem?_map, List.getElem?_eq_getElem hi, List.getD_eq_getElem?_getD, List.getElem?_eq_getElem hi]; rfl
  obtain ⟨bn, on, y, e2, h1, h2, h3, h4, h5⟩ := hn.row i _ hu
  rw [List.length_map, e2] at hc
  exact ⟨bc, oc, bn, on, cap, y, e, hb, hc, h1, h2, h3, h4, h5⟩
theorem row_num {lo hi : Int} {w : World} {A : Option Addr} {cap : Nat} {us : List Nat} (h : NLt lo hi w A cap (us.map fz)) (i : Nat) (hi' : i < us.length) :
    ∃ (bn on : Nat) (y : NV), A = some ⟨bn, on, none⟩ ∧ bn < w.heap.size ∧ w.cell? ⟨bn, on + i * 3, none⟩ = some (.bool y.neg) ∧ w.cell? ⟨bn, on + i * 3 + 1, none⟩ = some (.slice y.A y.n y.cap) ∧ w.cell? ⟨bn, on + i * 3 + 2, none⟩ = some (.int .i64 y.E) ∧ NumR lo hi w y (fz (us.getD i 0)) := by
  have hu : (us.map fz)[i]? = some (fz (us.getD i 0)) := by rw [List.getElem?_map, List.getElem?_eq_getElem hi', List.getD_eq_getElem?_getD, List.getElem?_eq_getElem hi']; rfl
  obtain ⟨bn, on, y, e2, h1, h2, h3, h4, h5⟩ := h.row i _ hu
  exact ⟨bn, on, y, e2, h1, h2, h3, h4, h5⟩
theorem reach_W {z : ZD} (h : Good z) (i K : Nat) (hK : K ≤ z.g.length) : (fz (z.r.getD i 0) + sumTo (fun k => zabs (fz ((colZ z k).getD i 0))) K).natAbs < W32 ^ 400 := by
  have h1 := reach_bound h i K hK
  have h2 := h.cols
  refine few_W _ (1 + K) (by omega) (Nat.le_trans h1 (Nat.mul_le_mul_left _ FB_le_PB))
set_option maxHeartbeats 8000000 in
theorem far_any (w : World) (A B C D : Option Addr) (kA kB kC kD : Nat) (z : ZD) (i : Nat) (h : RealC w z A B C D kA kB kC kD) (hz : Good z) (hi : (i : Int) < z.n) :
    Calls Tryz.prog 80 #[rval z A B C D kA kB kC kD, .int .i64 (i : Nat)] w fun e w' => TellsR (-1074) 971 w (reachZ z i) e w' := by
  have hir : i < z.r.length := by have := hz.lenR; omega
  have hb1 := below_alloc w (.cells #[.int .i64 z.n, .slice A z.c.length kA, .slice B z.ids.length kB, .slice C z.g.length kC, .slice D z.r.length kD] 61)
  have hx := heap_alloc_new w (.cells #[.int .i64 z.n, .slice A z.c.length kA, .slice B z.ids.length kB, .slice C z.g.length kC, .slice D z.r.length kD] 61)
  have hb2 := hb1.trans ((below_alloc _ (.cells #[.bool false, .slice none 0 0, .int .i64 0] 70)).mono hb1.size)
  have hx2 := (Below.heap_alloc (w.alloc (.cells #[.int .i64 z.n, .slice A z.c.length kA, .slice B z.ids.length kB, .slice C z.g.length kC, .slice D z.r.length kD] 61)) (.cells #[.bool false, .slice none 0 0, .int .i64 0] 70) w.heap.size (by simp)).trans hx
  have hres := heap_alloc_new (w.alloc (.cells #[.int .i64 z.n, .slice A z.c.length kA, .slice B z.ids.length kB, .slice C z.g.length kC, .slice D z.r.length kD] 61)) (.cells #[.bool false, .slice none 0 0, .int .i64 0] 70)
  rw [World.size_alloc] at hres
  obtain ⟨bd, od, y0, rfl, hbd, d0, d1, d2, hy0⟩ := row_num (h.below hb2).r i hir
  obtain ⟨x0, x1, x2, x3, x4⟩ := cells5 hx2
  have hir' : (i : Int) < (z.r.length : Int) := by omega
  have hcol := hz.cols
  unfold rval
  go_enter Tryz.func80, Tryz.ntmps80
  go_upto_region 2 with fail
  clear x0 x1 x2 x3 x4 d0 d1 d2
  have hsz : (((w.alloc (.cells #[.int .i64 z.n, .slice A z.c.length kA, .slice B z.ids.length kB, .slice C z.g.length kC, .slice (some ⟨bd, od, none⟩) z.r.length kD] 61)).alloc (.cells #[.bool false, .slice none 0 0, .int .i64 0] 70)).heap.size) = w.heap.size + 1 + 1 := by simp
  generalize ((w.alloc (.cells #[.int .i64 z.n, .slice A z.c.length kA, .slice B z.ids.length kB, .slice C z.g.length kC, .slice (some ⟨bd, od, none⟩) z.r.length kD] 61)).alloc (.cells #[.bool false, .slice none 0 0, .int .i64 0] 70)) = W1 at *
  have hnb : NumB (W1.alloc (.cells #[.bool y0.neg, .slice y0.A y0.n y0.cap, .int .i64 y0.E] 70)) W1.heap.size y0 := heap_alloc_new W1 _
  have hb3 := below_alloc W1 (.cells #[.bool y0.neg, .slice y0.A y0.n y0.cap, .int .i64 y0.E] 70)
  have hy1 := hy0.below hb3
  have hbw := hb2.trans (hb3.mono hb2.size)
  have hx3 := (hb3.block _ (by omega)).trans hx2
  have hr3 := (hb3.block _ (by omega)).trans hres
  generalize W1.alloc (.cells #[.bool y0.neg, .slice y0.A y0.n y0.cap, .int .i64 y0.E] 70) = W2 at *
  obtain ⟨bs, hbs⟩ : ∃ b, w.heap.size + 1 + 1 = b := ⟨_, rfl⟩
  rw [hsz, hbs] at hnb
  rw [hbs]
  have hlbs : w.heap.size + 1 + 1 ≤ bs := by omega
  clear hb1 hx hb2 hx2 hres hbd hy0 hb3 hbs hsz W1
  go_wp2_with fail
  go_loopw [6] (fun kk wr => ∃ (k : Nat) (x : NV), k ≤ z.g.length ∧ kk = .int .i64 (k : Nat) ∧ NumB wr bs x ∧ NumR (-1074) 971 wr x (fz (z.r.getD i 0) + sumTo (fun k => zabs (fz ((colZ z k).getD i 0))) k) ∧ wr.heap[w.heap.size]? = some (.cells #[.int .i64 z.n, .slice A z.c.length kA, .slice B z.ids.length kB, .slice C z.g.length kC, .slice (some ⟨bd, od, none⟩) z.r.length kD] 61 (0, 0)) ∧ wr.heap[w.heap.size + 1]? = some (.cells #[.bool false, .slice none 0 0, .int .i64 0] 70 (0, 0)) ∧ Below w.heap.size w wr) (fun kk _ => z.g.length - (intOf kk).toNat)
  case atStart => exact ⟨0, y0, Nat.zero_le _, rfl, hnb, by rw [show sumTo _ 0 = 0 from rfl, Int.add_zero]; exact hy1, hx3, hr3, hbw⟩
  case round =>
    obtain ⟨k, x, hkl, rfl, hxb, hxr, hbx, hrs, hB⟩ := hrel
    clear hnb hy1 hx3 hr3 hbw
    obtain ⟨x0, x1, x2, x3, x4⟩ := cells5 hbx
    by_cases hlt : k < z.g.length
    · have hlt' : (k : Int) < (z.g.length : Int) := by omega
      have hgx : z.g[k]? = some (colZ z k) := by unfold colZ; rw [List.getD_eq_getElem?_getD, List.getElem?_eq_getElem hlt, Option.getD_some]
      have hin : i < (colZ z k).length := by have := (hz.colG k _ hgx).2; omega
      have hin' : (i : Int) < ((colZ z k).length : Int) := by omega
      obtain ⟨bc, oc, bn, on, cn, y, rfl, hbc, e0, hbn, e1, e2, e3, hy⟩ := col_num (h.below hB) k i hlt hin
      have hbnd := reach_W hz i (k + 1) hlt
      rw [show sumTo (fun k => zabs (fz ((colZ z k).getD i 0))) (k + 1) = sumTo (fun k => zabs (fz ((colZ z k).getD i 0))) k + zabs (fz ((colZ z k).getD i 0)) from rfl, ← Int.add_assoc] at hbnd
      obtain ⟨s0, s1, s2⟩ := hxb.cells
      have lb := hxb.lt
      have l0 := (Array.getElem?_eq_some_iff.1 hbx).1
      have hS : ∀ W', Below wr.heap.size wr W' → (fun w' => (w'.cell? ⟨bs, 0, none⟩ = some (.bool x.neg) ∧ w'.cell? ⟨bs, 1, none⟩ = some (.slice x.A x.n x.cap) ∧ w'.cell? ⟨bs, 2, none⟩ = some (.int .i64 x.E)) ∧ w'.cell? ⟨w.heap.size, 3, none⟩ = some (.slice (some ⟨bc, oc, none⟩) z.g.length kC) ∧ w'.cell? ⟨bc, oc + k, none⟩ = some (.slice (some ⟨bn, on, none⟩) (colZ z k).length cn) ∧ w'.cell? ⟨bn, on + i * 3, none⟩ = some (.bool y.neg) ∧ w'.cell? ⟨bn, on + i * 3 + 1, none⟩ = some (.slice y.A y.n y.cap) ∧ w'.cell? ⟨bn, on + i * 3 + 2, none⟩ = some (.int .i64 y.E)) W' := fun W' hb => by
        obtain ⟨q0, q1, q2⟩ := (hxb.below hb).cells
        exact ⟨⟨q0, q1, q2⟩, (hb.cell (p := ⟨w.heap.size, 3, none⟩) l0).trans x3, (hb.cell (p := ⟨bc, oc + k, none⟩) hbc).trans e0, (hb.cell (p := ⟨bn, on + i * 3, none⟩) hbn).trans e1, (hb.cell (p := ⟨bn, on + i * 3 + 1, none⟩) hbn).trans e2, (hb.cell (p := ⟨bn, on + i * 3 + 2, none⟩) hbn).trans e3⟩
      have hd := (Below.refl wr.heap.size wr).drew
      clear hgx
      go_wp2_with fail
      refine late_begin (fun w' => (w'.cell? ⟨bs, 0, none⟩ = some (.bool x.neg) ∧ w'.cell? ⟨bs, 1, none⟩ = some (.slice x.A x.n x.cap) ∧ w'.cell? ⟨bs, 2, none⟩ = some (.int .i64 x.E)) ∧ w'.cell? ⟨w.heap.size, 3, none⟩ = some (.slice (some ⟨bc, oc, none⟩) z.g.length kC) ∧ w'.cell? ⟨bc, oc + k, none⟩ = some (.slice (some ⟨bn, on, none⟩) (colZ z k).length cn) ∧ w'.cell? ⟨bn, on + i * 3, none⟩ = some (.bool y.neg) ∧ w'.cell? ⟨bn, on + i * 3 + 1, none⟩ = some (.slice y.A y.n y.cap) ∧ w'.cell? ⟨bn, on + i * 3 + 2, none⟩ = some (.int .i64 y.E)) [11] (by kernel_rfl) ?_
      refine late_take (i := 0) (v := ?_) (some 19) rfl rfl (by kernel_rfl) (by kernel_rfl) (by kernel_rfl) (by kernel_rfl) (fun _ _ _ h => h) (by kernel_rfl) (hS _ hd) ?_ ?_
      rotate_left
      · (intro w hSw; (try dsimp only at hSw); go_simp; try rfl)
      try simp only [Act.put, List.setIfInBounds_toArray, List.set_cons_zero, List.set_cons_succ]
      refine late_take (i := 1) (v := ?_) (some 20) rfl rfl (by kernel_rfl) (by kernel_rfl) (by kernel_rfl) (by kernel_rfl) (fun _ _ _ h => h) (by kernel_rfl) (hS _ hd) ?_ ?_
      rotate_left
      · (intro w hSw; (try dsimp only at hSw); go_simp; try rfl)
      try simp only [Act.put, List.setIfInBounds_toArray, List.set_cons_zero, List.set_cons_succ]
      refine late_take (i := 2) (v := ?_) (some 21) rfl rfl (by kernel_rfl) (by kernel_rfl) (by kernel_rfl) (by kernel_rfl) (fun _ _ _ h => h) (by kernel_rfl) (hS _ hd) ?_ ?_
      rotate_left
      · (intro w hSw; (try dsimp only at hSw); go_simp; try rfl)
      try simp only [Act.put, List.setIfInBounds_toArray, List.set_cons_zero, List.set_cons_succ]
      refine late_take (i := 3) (v := ?_) (some 22) rfl rfl (by kernel_rfl) (by kernel_rfl) (by kernel_rfl) (by kernel_rfl) (fun _ _ _ h => h) (by kernel_rfl) (hS _ hd) ?_ ?_
      rotate_left
      · (intro w hSw; (try dsimp only at hSw); go_simp; try rfl)
      try simp only [Act.put, List.setIfInBounds_toArray, List.set_cons_zero, List.set_cons_succ]
      refine late_take (i := 4) (v := ?_) (some 23) rfl rfl (by kernel_rfl) (by kernel_rfl) (by kernel_rfl) (by kernel_rfl) (fun _ _ _ h => h) (by kernel_rfl) (hS _ hd) ?_ ?_
      rotate_left
      · (intro w hSw; (try dsimp only at hSw); go_simp; try rfl)
      try simp only [Act.put, List.setIfInBounds_toArray, List.set_cons_zero, List.set_cons_succ]
      refine late_take (i := 5) (v := ?_) (some 24) rfl rfl (by kernel_rfl) (by kernel_rfl) (by kernel_rfl) (by kernel_rfl) (fun _ _ _ h => h) (by kernel_rfl) (hS _ hd) ?_ ?_
      rotate_left
      · (intro w hSw; (try dsimp only at hSw); go_simp; try rfl)
      try simp only [Act.put, List.setIfInBounds_toArray, List.set_cons_zero, List.set_cons_succ]
      refine late_take (i := 6) (v := ?_) (some 25) rfl rfl (by kernel_rfl) (by kernel_rfl) (by kernel_rfl) (by kernel_rfl) (fun _ _ _ h => h) (by kernel_rfl) (hS _ hd) ?_ ?_
      rotate_left
      · (intro w hSw; (try dsimp only at hSw); go_simp; try rfl)
      try simp only [Act.put, List.setIfInBounds_toArray, List.set_cons_zero, List.set_cons_succ]
      refine late_take (i := 7) (v := ?_) (some 26) rfl rfl (by kernel_rfl) (by kernel_rfl) (by kernel_rfl) (by kernel_rfl) (fun _ _ _ h => h) (by kernel_rfl) (hS _ hd) ?_ ?_
      rotate_left
      · (intro w hSw; (try dsimp only at hSw); go_simp; try rfl)
      try simp only [Act.put, List.setIfInBounds_toArray, List.set_cons_zero, List.set_cons_succ]
      refine late_take (i := 8) (v := ?_) (some 27) rfl rfl (by kernel_rfl) (by kernel_rfl) (by kernel_rfl) (by kernel_rfl) (fun _ _ _ h => h) (by kernel_rfl) (hS _ hd) ?_ ?_
      rotate_left
      · (intro w hSw; (try dsimp only at hSw); go_simp; try rfl)
      try simp only [Act.put, List.setIfInBounds_toArray, List.set_cons_zero, List.set_cons_succ]
      refine late_one (i := 9) rfl (by kernel_rfl) ?_
      intro K hK
      go_simp
      refine (size_r _ _ _ y _ (hy.below hd)).mono ?_
      rintro e w2 ⟨y2, rfl, hy2, hb2⟩
      have hc2 := hd.trans (hb2.mono hd.size)
      try show K _ _
      refine hK.out _ _ (Or.inr (hS _ hc2)) ?_
      clear hK K
      try simp only [Act.put, List.setIfInBounds_toArray, List.set_cons_zero, List.set_cons_succ]
      refine late_one (i := 10) rfl (by kernel_rfl) ?_
      intro K hK
      go_simp
      refine (plus_r _ (-1074) 971 x y2 _ _ (hxr.below hc2) hy2 (by decide) (by decide) (by decide) (by decide) hbnd).mono ?_
      rintro e w3 ⟨xn, rfl, hx3, hb3⟩
      have hc3 := hc2.trans (hb3.mono hc2.size)
      try show K _ _
      refine hK.out _ _ (Or.inr (hS _ hc3)) ?_
      clear hK K
      try simp only [Act.put, List.setIfInBounds_toArray, List.set_cons_zero, List.set_cons_succ]
      refine late_one (i := 11) rfl (by kernel_rfl) ?_
      intro K hK
      go_simp
      have hb3' := hxb.below hc3
      obtain ⟨p0, p1, p2⟩ := hb3'.cells
      have hfr := fun j => frozen_of_row w3 bs j _ _ hb3'
      go_simp
      try show K _ _
      refine hK.out _ _ (Or.inl (by decide)) ?_
      clear hK K
      try simp only [Act.put, List.setIfInBounds_toArray, List.set_cons_zero, List.set_cons_succ]
      refine late_done (by kernel_rfl) ?_ _
      obtain ⟨n1, n2⟩ := hb3'.put xn
      have hx9 := hx3.far n2 (fun g e => by cases e; exact hb3'.typed) (by decide)
      have hbx9 := (n2.block _ (Nat.lt_of_lt_of_le l0 hc3.size) (fun e => by cases e; omega)).trans ((hc3.block _ l0).trans hbx)
      have l1 := (Array.getElem?_eq_some_iff.1 hrs).1
      have hrs9 := (n2.block _ (Nat.lt_of_lt_of_le l1 hc3.size) (fun e => by cases e; omega)).trans ((hc3.block _ l1).trans hrs)
      have hB9 := (hB.trans (hc3.mono hB.size)).trans (below_row n2 (by omega) (hB.trans (hc3.mono hB.size)).size)
      clear hS x0 x1 x2 x3 x4 s0 s1 s2 e0 e1 e2 e3 hy hbnd hy2 hb2 hb3 hc2 hc3 p0 p1 p2 hfr n2
      go_wp2_with fail
      go_roundw
      case rel => exact ⟨k + 1, _, by omega, by go_num, n1, by rw [Int.add_assoc] at hx9; exact hx9, hbx9, hrs9, hB9⟩
      case measure => simp [intOf]; omega
    · obtain rfl : k = z.g.length := by omega
      have hlt' : decide (((z.g.length : Nat) : Int) < (z.g.length : Nat)) = false := by simp
      obtain ⟨s0, s1, s2⟩ := hxb.cells
      obtain ⟨r0, r1, r2⟩ := cells3' hrs
      have hfr := fun j => frozen_of_row wr _ j _ _ hrs
      go_wp2_with fail
      obtain ⟨q1, q2⟩ := set3 hrs (.bool x.neg) (.slice x.A x.n x.cap) (.int .i64 x.E)
      obtain ⟨c0, c1, c2⟩ := cells3' q1
      refine bodyPost_ret (v := .agg #[.bool x.neg, .slice x.A x.n x.cap, .int .i64 x.E]) (by simp [results, Tryz.results80, go_sem, c0, c1, c2]) rfl ?_
      exact ⟨x, rfl, hxr.far q2 (fun g e => by cases e; exact ⟨_, hrs⟩) (by decide), hB.trans (below_row q2 (by omega) hB.size)⟩
end Go.Proofs.YtpfbgenefjhcjaaGreatDoor
namespace Go.Proofs.YtpfbgenefjhcjaaGreatDoor
set_option linter.unusedVariables false
set_option linter.unusedSimpArgs false
open Go Go.RowKit
set_option maxRecDepth 100000
theorem FB_W200 : FB < W32 ^ 200 := by
  obtain ⟨n, hn⟩ : ∃ n, n = 200 := ⟨200, rfl⟩
  rw [← hn, W32_two]
  unfold FB
  exact Nat.pow_lt_pow_right (by decide) (by unfold expF; omega)
theorem fz_W200 {u : Nat} (h : fexp u ≠ 2047) : (fz u).natAbs < W32 ^ 200 := Nat.lt_trans (fz_lt u h) FB_W200
/-- What is summed, coordinate by coordinate. -/
def rch1 (z : ZD) (d : List Nat) (i : Nat) : Int := sumTo (fun j => prodZ (d.getD j 0) (z.c.getD j 0) 0 + prodZ (absF (d.getD j 0)) (z.r.getD j 0) 0) i
theorem rch1_all (z : ZD) (d : List Nat) : rch1 z d z.n.toNat + sumTo (fun k => zabs (dotZ d (colZ z k) z.n.toNat)) z.g.length = supZ z d := by
  unfold rch1 supZ dotZ
  rw [sumTo_add]
  omega
theorem pz_le {u v : Nat} (eu : fexp u ≠ 2047) (ev : fexp v ≠ 2047) : (prodZ u v 0).natAbs ≤ PB := Nat.le_of_lt (prodZ_lt u v eu ev)
theorem absF_num {u : Nat} (h : fexp u ≠ 2047) : fexp (absF u) ≠ 2047 := by
  have e : fexp (absF u) = fexp u := by unfold absF fexp; omega
  rw [e]; exact h
theorem rch1_le {z : ZD} (h : Good z) (d : List Nat) (nd : ∀ u ∈ d, fexp u ≠ 2047) (i : Nat) : (rch1 z d i).natAbs ≤ i * (2 * PB) := by
  refine sumTo_bound _ _ _ fun j _ => ?_
  have h1 := pz_le (getD_num d nd j) (getD_num z.c h.numC j)
  have h2 := pz_le (absF_num (getD_num d nd j)) (getD_num z.r h.numR j)
  generalize PB = T at *
  omega
theorem rch_W {z : ZD} (h : Good z) (d : List Nat) (nd : ∀ u ∈ d, fexp u ≠ 2047) (i K : Nat) (hi : i ≤ 256) (hK : K ≤ 1073741825) (e : Int) (he : e.natAbs ≤ K * (256 * PB) + 4 * PB) : (rch1 z d i + e).natAbs < W32 ^ 400 := by
  have h1 := rch1_le h d nd i
  have h2 : i * (2 * PB) ≤ 256 * (2 * PB) := Nat.mul_le_mul_right _ hi
  have h3 : K * (256 * PB) ≤ 1073741825 * (256 * PB) := Nat.mul_le_mul_right _ hK
  refine few_W _ 4398046511104 (Nat.le_refl _) ?_
  generalize PB = T at *
  omega
theorem dot_W {z : ZD} (h : Good z) (d : List Nat) (nd : ∀ u ∈ d, fexp u ≠ 2047) (k i : Nat) (hi : i ≤ 256) : (dotZ d (colZ z k) i).natAbs < W32 ^ 400 := by
  have h1 := dotZ_bound d (colZ z k) i nd (h.colNum k)
  exact few_W _ i (by omega) h1
/-- Reach, under way. -/
structure RchSt (w W : World) (bs : Nat) (bx : Array Value) (x : NV) (s : Int) : Prop where
  box : W.heap[w.heap.size]? = some (.cells bx 61 (0, 0))
  res : W.heap[w.heap.size + 1]? = some (.cells #[.bool false, .slice none 0 0, .int .i64 0] 70 (0, 0))
  num : NumB W bs x
  is : NumR (-2148) 1942 W x s
  low : w.heap.size + 1 + 1 ≤ bs
  below : Below w.heap.size w W
theorem RchSt.b {w W W1 : World} {bs : Nat} {bx : Array Value} {x : NV} {s : Int} (h : RchSt w W bs bx x s) (hb : Below W.heap.size W W1) : RchSt w W1 bs bx x s :=
  ⟨(hb.block _ (Array.getElem?_eq_some_iff.1 h.box).1).trans h.box, (hb.block _ (Array.getElem?_eq_some_iff.1 h.res).1).trans h.res, h.num.below hb, h.is.below hb, h.low, h.below.trans (hb.mono h.below.size)⟩
theorem RchSt.put {w W W1 : World} {bs : Nat} {bx : Array Value} {x y : NV} {s t : Int} (h : RchSt w W bs bx x s) (hb : Below W.heap.size W W1) (hy : NumR (-2148) 1942 W1 y t) :
    RchSt w (((W1.setCell ⟨bs, 0, none⟩ (.bool y.neg)).setCell ⟨bs, 1, none⟩ (.slice y.A y.n y.cap)).setCell ⟨bs, 2, none⟩ (.int .i64 y.E)) bs bx y t ∧ W1.grownBy (((W1.setCell ⟨bs, 0, none⟩ (.bool y.neg)).setCell ⟨bs, 1, none⟩ (.slice y.A y.n y.cap)).setCell ⟨bs, 2, none⟩ (.int .i64 y.E)) (some bs) := by
  have h' := h.b hb
  obtain ⟨n1, n2⟩ := h'.num.put y
  have hlo := h.low
  exact ⟨⟨(n2.block _ (Array.getElem?_eq_some_iff.1 h'.box).1 (fun e => by cases e; omega)).trans h'.box, (n2.block _ (Array.getElem?_eq_some_iff.1 h'.res).1 (fun e => by cases e; omega)).trans h'.res, n1, hy.far n2 (fun g e => by cases e; exact h'.num.typed) (by decide), hlo, h'.below.trans (below_row n2 (by omega) h'.below.size)⟩, n2⟩
theorem RchSt.far {w W W1 : World} {bs bt : Nat} {bx : Array Value} {x : NV} {s : Int} {t0 : TypeId} (h : RchSt w W bs bx x s) (hg : W.grownBy W1 (some bt)) (ht : Typed W bt t0) (h0 : t0 ≠ 136) (hne : bt ≠ bs) (hlo : w.heap.size + 1 + 1 ≤ bt) : RchSt w W1 bs bx x s :=
  ⟨(hg.block _ (Array.getElem?_eq_some_iff.1 h.box).1 (fun e => by cases e; omega)).trans h.box, (hg.block _ (Array.getElem?_eq_some_iff.1 h.res).1 (fun e => by cases e; omega)).trans h.res, (hg.block _ h.num.lt (fun e => hne (Option.some.inj e).symm)).trans h.num, h.is.far hg (fun g e => by cases e; exact ht) h0, h.low, h.below.trans (below_row hg (by omega) h.below.size)⟩
theorem getD_small (us : List Nat) (h : Small us) (i : Nat) : us.getD i 0 < B64 := by
  rw [List.getD_eq_getElem?_getD]
  cases hi : us[i]? with
  | none => decide
  | some u => exact h.at i u hi
def rch2 (z : ZD) (d : List Nat) (N K : Nat) : Int := rch1 z d N + sumTo (fun k => zabs (dotZ d (colZ z k) N)) K
theorem rch2_W {z : ZD} (h : Good z) (d : List Nat) (nd : ∀ u ∈ d, fexp u ≠ 2047) (N K : Nat) (hN : N ≤ 256) (hK : K ≤ 1073741825) : (rch2 z d N K).natAbs < W32 ^ 400 := by
  refine rch_W h d nd N K hN hK _ ?_
  have h1 := sumTo_bound (fun k => zabs (dotZ d (colZ z k) N)) (256 * PB) K fun k _ => by
    rw [zabs_natAbs]
    exact Nat.le_trans (dotZ_bound d _ _ nd (h.colNum k)) (Nat.mul_le_mul_right _ hN)
  omega
theorem NV.zero_r (w : World) : NumR (-2148) 1942 w ⟨false, none, 0, 0, 0⟩ 0 :=
  ⟨NumIs.def'.2 ⟨0, Or.inl ⟨rfl, rfl⟩, fun _ => rfl, by decide, by decide, W400_pos, by rw [Nat.zero_mul]; rfl⟩, by decide, by decide⟩
set_option maxHeartbeats 16000000 in
theorem Reach_any (w : World) (A B C D Ad : Option Addr) (kA kB kC kD cd : Nat) (z : ZD) (d : List Nat) (h : RealC w z A B C D kA kB kC kD) (hk : ZOk z) (hz : Good z) (hdl : NLt (-1074) 971 w Ad cd (d.map fz)) (sd : Small d) (hrd : rowD d z.n = true) :
    Calls Tryz.prog 78 #[rval z A B C D kA kB kC kD, .slice Ad d.length cd] w fun e w' => TellsR (-2148) 1942 w (supZ z d) e w' := by
  obtain ⟨nd, ldn⟩ := (rowD_iff _ _).1 hrd
  have hn2 := hz.n2
  have hlc := hz.lenC
  have hlr := hz.lenR
  have hcol := hz.cols
  obtain ⟨N, hN⟩ : ∃ N : Nat, z.n = (N : Int) := ⟨d.length, by omega⟩
  have HN := Lib.hid hN
  have hNd := Lib.hid (show d.length = N by omega)
  have hN256 : N ≤ 256 := by omega
  have hzs := rch1_all z d
  rw [hN, Int.toNat_natCast] at hzs
  have HZS := Lib.hid hzs
  have hb1 := below_alloc w (.cells #[.int .i64 z.n, .slice A z.c.length kA, .slice B z.ids.length kB, .slice C z.g.length kC, .slice D z.r.length kD] 61)
  have hx := heap_alloc_new w (.cells #[.int .i64 z.n, .slice A z.c.length kA, .slice B z.ids.length kB, .slice C z.g.length kC, .slice D z.r.length kD] 61)
  have hb2 := hb1.trans ((below_alloc _ (.cells #[.bool false, .slice none 0 0, .int .i64 0] 70)).mono hb1.size)
  have hx2 := (Below.heap_alloc (w.alloc (.cells #[.int .i64 z.n, .slice A z.c.length kA, .slice B z.ids.length kB, .slice C z.g.length kC, .slice D z.r.length kD] 61)) (.cells #[.bool false, .slice none 0 0, .int .i64 0] 70) w.heap.size (by simp)).trans hx
  have hres := heap_alloc_new (w.alloc (.cells #[.int .i64 z.n, .slice A z.c.length kA, .slice B z.ids.length kB, .slice C z.g.length kC, .slice D z.r.length kD] 61)) (.cells #[.bool false, .slice none 0 0, .int .i64 0] 70)
  rw [World.size_alloc] at hres
  have hsz : (((w.alloc (.cells #[.int .i64 z.n, .slice A z.c.length kA, .slice B z.ids.length kB, .slice C z.g.length kC, .slice D z.r.length kD] 61)).alloc (.cells #[.bool false, .slice none 0 0, .int .i64 0] 70)).heap.size) = w.heap.size + 1 + 1 := by simp
  have hb3 := below_alloc ((w.alloc (.cells #[.int .i64 z.n, .slice A z.c.length kA, .slice B z.ids.length kB, .slice C z.g.length kC, .slice D z.r.length kD] 61)).alloc (.cells #[.bool false, .slice none 0 0, .int .i64 0] 70)) (.cells #[.bool false, .slice none 0 0, .int .i64 0] 70)
  have hnb : NumB (((w.alloc (.cells #[.int .i64 z.n, .slice A z.c.length kA, .slice B z.ids.length kB, .slice C z.g.length kC, .slice D z.r.length kD] 61)).alloc (.cells #[.bool false, .slice none 0 0, .int .i64 0] 70)).alloc (.cells #[.bool false, .slice none 0 0, .int .i64 0] 70)) (w.heap.size + 1 + 1) ⟨false, none, 0, 0, 0⟩ := by
    have := heap_alloc_new ((w.alloc (.cells #[.int .i64 z.n, .slice A z.c.length kA, .slice B z.ids.length kB, .slice C z.g.length kC, .slice D z.r.length kD] 61)).alloc (.cells #[.bool false, .slice none 0 0, .int .i64 0] 70)) (.cells #[.bool false, .slice none 0 0, .int .i64 0] 70)
    rw [hsz] at this
    exact this
  have hst : RchSt w (((w.alloc (.cells #[.int .i64 z.n, .slice A z.c.length kA, .slice B z.ids.length kB, .slice C z.g.length kC, .slice D z.r.length kD] 61)).alloc (.cells #[.bool false, .slice none 0 0, .int .i64 0] 70)).alloc (.cells #[.bool false, .slice none 0 0, .int .i64 0] 70)) (w.heap.size + 1 + 1) #[.int .i64 z.n, .slice A z.c.length kA, .slice B z.ids.length kB, .slice C z.g.length kC, .slice D z.r.length kD] ⟨false, none, 0, 0, 0⟩ 0 :=
    ⟨(hb3.block _ (by omega)).trans hx2, (hb3.block _ (by omega)).trans hres, hnb, NV.zero_r _, Nat.le_refl _, hb2.trans (hb3.mono hb2.size)⟩
  clear hb1 hx hb2 hx2 hres hnb hb3 hsz hzs hrd hlc hlr ldn
  rw [hN] at hst
  unfold rval
  rw [hN]
  clear hN
  go_enter Tryz.func78, Tryz.ntmps78
  go_upto_region 2 with fail
  generalize (((w.alloc (.cells #[.int .i64 (N : Nat), .slice A z.c.length kA, .slice B z.ids.length kB, .slice C z.g.length kC, .slice D z.r.length kD] 61)).alloc (.cells #[.bool false, .slice none 0 0, .int .i64 0] 70)).alloc (.cells #[.bool false, .slice none 0 0, .int .i64 0] 70)) = W2 at *
  obtain ⟨bs, hbs⟩ : ∃ b, w.heap.size + 1 + 1 = b := ⟨_, rfl⟩
  rw [hbs] at hst
  rw [hbs]
  clear hbs
  go_wp2_with fail
  go_loopw [6] (fun kk wr => ∃ (i : Nat) (x : NV), i ≤ N ∧ kk = .int .i64 (i : Nat) ∧ RchSt w wr bs #[.int .i64 (N : Nat), .slice A z.c.length kA, .slice B z.ids.length kB, .slice C z.g.length kC, .slice D z.r.length kD] x (rch1 z d i)) (fun kk _ => N - (intOf kk).toNat)
  case atStart => exact ⟨0, _, Nat.zero_le _, rfl, hst⟩
  case round =>
    obtain ⟨i, x, hil, rfl, hs⟩ := hrel
    clear hst
    obtain ⟨x0, x1, x2, x3, x4⟩ := cells5 hs.box
    by_cases hlt : i < N
    · have hlt' : (i : Int) < (N : Int) := by omega
      have hid : (i : Int) < (d.length : Int) := by have := hNd.out; omega
      have hic : (i : Int) < (z.c.length : Int) := by have := hz.lenC; have := HN.out; omega
      have hir : (i : Int) < (z.r.length : Int) := by have := hz.lenR; have := HN.out; omega
      obtain ⟨bd, od, yd, rfl, lbd, d0, d1, d2, hyd⟩ := row_num (hdl.below hs.below) i (by omega)
      obtain ⟨bc, oc, yc, rfl, lbc, e0, e1, e2, hyc⟩ := row_num (h.below hs.below).c i (by omega)
      have hw1 := fz_W200 (getD_num d nd i)
      have hw2 := fz_W200 (getD_num z.c hz.numC i)
      have hmul := mulZ_fz (d.getD i 0) (z.c.getD i 0)
      have hbq := rch_W hz d nd i 0 (by omega) (by omega) (prodZ (d.getD i 0) (z.c.getD i 0) 0) (by have := pz_le (getD_num d nd i) (getD_num z.c hz.numC i); omega)
      rw [← hmul] at hbq
      have hbnd := hbq
      obtain ⟨s0, s1, s2⟩ := hs.num.cells
      have lbs := hs.num.lt
      have l0 := (Array.getElem?_eq_some_iff.1 hs.box).1
      have hxr := hs.is
      have hxb := hs.num
      have hd := (Below.refl wr.heap.size wr).drew
      clear hbq
      go_wp2_with fail
      have hS : ∀ W', Below wr.heap.size wr W' → (fun w' => w'.cell? ⟨bs, 0, none⟩ = some (.bool x.neg) ∧ w'.cell? ⟨bs, 1, none⟩ = some (.slice x.A x.n x.cap) ∧ w'.cell? ⟨bs, 2, none⟩ = some (.int .i64 x.E) ∧ w'.cell? ⟨bd, od + i * 3, none⟩ = some (.bool yd.neg) ∧ w'.cell? ⟨bd, od + i * 3 + 1, none⟩ = some (.slice yd.A yd.n yd.cap) ∧ w'.cell? ⟨bd, od + i * 3 + 2, none⟩ = some (.int .i64 yd.E) ∧ w'.cell? ⟨w.heap.size, 1, none⟩ = some (.slice (some ⟨bc, oc, none⟩) z.c.length kA) ∧ w'.cell? ⟨bc, oc + i * 3, none⟩ = some (.bool yc.neg) ∧ w'.cell? ⟨bc, oc + i * 3 + 1, none⟩ = some (.slice yc.A yc.n yc.cap) ∧ w'.cell? ⟨bc, oc + i * 3 + 2, none⟩ = some (.int .i64 yc.E)) W' := fun W' hb => ⟨(hb.cell (p := ⟨bs, 0, none⟩) lbs).trans s0, (hb.cell (p := ⟨bs, 1, none⟩) lbs).trans s1, (hb.cell (p := ⟨bs, 2, none⟩) lbs).trans s2, (hb.cell (p := ⟨bd, od + i * 3, none⟩) lbd).trans d0, (hb.cell (p := ⟨bd, od + i * 3 + 1, none⟩) lbd).trans d1, (hb.cell (p := ⟨bd, od + i * 3 + 2, none⟩) lbd).trans d2, (hb.cell (p := ⟨w.heap.size, 1, none⟩) l0).trans x1, (hb.cell (p := ⟨bc, oc + i * 3, none⟩) lbc).trans e0, (hb.cell (p := ⟨bc, oc + i * 3 + 1, none⟩) lbc).trans e1, (hb.cell (p := ⟨bc, oc + i * 3 + 2, none⟩) lbc).trans e2⟩
      refine late_begin (fun w' => w'.cell? ⟨bs, 0, none⟩ = some (.bool x.neg) ∧ w'.cell? ⟨bs, 1, none⟩ = some (.slice x.A x.n x.cap) ∧ w'.cell? ⟨bs, 2, none⟩ = some (.int .i64 x.E) ∧ w'.cell? ⟨bd, od + i * 3, none⟩ = some (.bool yd.neg) ∧ w'.cell? ⟨bd, od + i * 3 + 1, none⟩ = some (.slice yd.A yd.n yd.cap) ∧ w'.cell? ⟨bd, od + i * 3 + 2, none⟩ = some (.int .i64 yd.E) ∧ w'.cell? ⟨w.heap.size, 1, none⟩ = some (.slice (some ⟨bc, oc, none⟩) z.c.length kA) ∧ w'.cell? ⟨bc, oc + i * 3, none⟩ = some (.bool yc.neg) ∧ w'.cell? ⟨bc, oc + i * 3 + 1, none⟩ = some (.slice yc.A yc.n yc.cap) ∧ w'.cell? ⟨bc, oc + i * 3 + 2, none⟩ = some (.int .i64 yc.E)) [12] (by kernel_rfl) ?_
      refine late_take (i := 0) (v := ?_) (some 17) rfl rfl (by kernel_rfl) (by kernel_rfl) (by kernel_rfl) (by kernel_rfl) (fun _ _ _ h => h) (by kernel_rfl) (hS _ hd) ?_ ?_
      rotate_left
      · (intro w hSw; (try dsimp only at hSw); go_simp; try rfl)
      try simp only [Act.put, List.setIfInBounds_toArray, List.set_cons_zero, List.set_cons_succ]
      refine late_take (i := 1) (v := ?_) (some 18) rfl rfl (by kernel_rfl) (by kernel_rfl) (by kernel_rfl) (by kernel_rfl) (fun _ _ _ h => h) (by kernel_rfl) (hS _ hd) ?_ ?_
      rotate_left
      · (intro w hSw; (try dsimp only at hSw); go_simp; try rfl)
      try simp only [Act.put, List.setIfInBounds_toArray, List.set_cons_zero, List.set_cons_succ]
      refine late_take (i := 2) (v := ?_) (some 19) rfl rfl (by kernel_rfl) (by kernel_rfl) (by kernel_rfl) (by kernel_rfl) (fun _ _ _ h => h) (by kernel_rfl) (hS _ hd) ?_ ?_
      rotate_left
      · (intro w hSw; (try dsimp only at hSw); go_simp; try rfl)
      try simp only [Act.put, List.setIfInBounds_toArray, List.set_cons_zero, List.set_cons_succ]
      refine late_take (i := 3) (v := ?_) (some 20) rfl rfl (by kernel_rfl) (by kernel_rfl) (by kernel_rfl) (by kernel_rfl) (fun _ _ _ h => h) (by kernel_rfl) (hS _ hd) ?_ ?_
      rotate_left
      · (intro w hSw; (try dsimp only at hSw); go_simp; try rfl)
      try simp only [Act.put, List.setIfInBounds_toArray, List.set_cons_zero, List.set_cons_succ]
      refine late_take (i := 4) (v := ?_) (some 21) rfl rfl (by kernel_rfl) (by kernel_rfl) (by kernel_rfl) (by kernel_rfl) (fun _ _ _ h => h) (by kernel_rfl) (hS _ hd) ?_ ?_
      rotate_left
      · (intro w hSw; (try dsimp only at hSw); go_simp; try rfl)
      try simp only [Act.put, List.setIfInBounds_toArray, List.set_cons_zero, List.set_cons_succ]
      refine late_take (i := 5) (v := ?_) (some 22) rfl rfl (by kernel_rfl) (by kernel_rfl) (by kernel_rfl) (by kernel_rfl) (fun _ _ _ h => h) (by kernel_rfl) (hS _ hd) ?_ ?_
      rotate_left
      · (intro w hSw; (try dsimp only at hSw); go_simp; try rfl)
      try simp only [Act.put, List.setIfInBounds_toArray, List.set_cons_zero, List.set_cons_succ]
      refine late_take (i := 6) (v := ?_) (some 23) rfl rfl (by kernel_rfl) (by kernel_rfl) (by kernel_rfl) (by kernel_rfl) (fun _ _ _ h => h) (by kernel_rfl) (hS _ hd) ?_ ?_
      rotate_left
      · (intro w hSw; (try dsimp only at hSw); go_simp; try rfl)
      try simp only [Act.put, List.setIfInBounds_toArray, List.set_cons_zero, List.set_cons_succ]
      refine late_take (i := 7) (v := ?_) (some 24) rfl rfl (by kernel_rfl) (by kernel_rfl) (by kernel_rfl) (by kernel_rfl) (fun _ _ _ h => h) (by kernel_rfl) (hS _ hd) ?_ ?_
      rotate_left
      · (intro w hSw; (try dsimp only at hSw); go_simp; try rfl)
      try simp only [Act.put, List.setIfInBounds_toArray, List.set_cons_zero, List.set_cons_succ]
      refine late_take (i := 8) (v := ?_) (some 25) rfl rfl (by kernel_rfl) (by kernel_rfl) (by kernel_rfl) (by kernel_rfl) (fun _ _ _ h => h) (by kernel_rfl) (hS _ hd) ?_ ?_
      rotate_left
      · (intro w hSw; (try dsimp only at hSw); go_simp; try rfl)
      try simp only [Act.put, List.setIfInBounds_toArray, List.set_cons_zero, List.set_cons_succ]
      refine late_take (i := 9) (v := ?_) (some 26) rfl rfl (by kernel_rfl) (by kernel_rfl) (by kernel_rfl) (by kernel_rfl) (fun _ _ _ h => h) (by kernel_rfl) (hS _ hd) ?_ ?_
      rotate_left
      · (intro w hSw; (try dsimp only at hSw); go_simp; try rfl)
      try simp only [Act.put, List.setIfInBounds_toArray, List.set_cons_zero, List.set_cons_succ]
      refine late_one (i := 10) rfl (by kernel_rfl) ?_
      intro K hK
      go_simp
      refine (times_r _ (-1074) 971 (-1074) 971 yd yc _ _ (hyd.below hd) (hyc.below hd) (by decide) (by decide) (by decide) (by decide) (by decide) (by decide) (by decide) (by decide) hw1 hw2).mono ?_
      rintro e w2 ⟨t2, rfl, ht2, hb2⟩
      have hc2 := hd.trans (hb2.mono hd.size)
      try show K _ _
      refine hK.out _ _ (Or.inr (hS _ hc2)) ?_
      clear hK K
      try simp only [Act.put, List.setIfInBounds_toArray, List.set_cons_zero, List.set_cons_succ]
      refine late_one (i := 11) rfl (by kernel_rfl) ?_
      intro K hK
      go_simp
      refine (plus_r _ (-2148) 1942 x t2 _ _ (hxr.below hc2) ht2 (by decide) (by decide) (by decide) (by decide) hbnd).mono ?_
      rintro e w3 ⟨t3, rfl, ht3, hb3⟩
      have hc3 := hc2.trans (hb3.mono hc2.size)
      try show K _ _
      refine hK.out _ _ (Or.inr (hS _ hc3)) ?_
      clear hK K
      try simp only [Act.put, List.setIfInBounds_toArray, List.set_cons_zero, List.set_cons_succ]
      refine late_one (i := 12) rfl (by kernel_rfl) ?_
      intro K hK
      go_simp
      have hq := hxb.below hc3
      obtain ⟨p0, p1, p2⟩ := hq.cells
      have hfr := fun j => frozen_of_row w3 bs j _ _ hq
      go_simp
      try show K _ _
      refine hK.out _ _ (Or.inl (by decide)) ?_
      clear hK K
      try simp only [Act.put, List.setIfInBounds_toArray, List.set_cons_zero, List.set_cons_succ]
      refine late_done (by kernel_rfl) ?_ _
      obtain ⟨hs5, hgr5⟩ := hs.put hc3 ht3
      rw [hmul] at hs5
      clear hgr5 hS hd hq p0 p1 p2 hfr hc3 hb3 ht3 hc2 hb2 ht2 s0 s1 s2 d0 d1 d2 e0 e1 e2 x0 x1 x2 x3 x4 hyd hyc lbs lbd lbc l0 hxr hxb hbnd hw1 hw2 hmul hs
      generalize ((w3.setCell ⟨bs, 0, none⟩ (.bool t3.neg)).setCell ⟨bs, 1, none⟩ (.slice t3.A t3.n t3.cap)).setCell ⟨bs, 2, none⟩ (.int .i64 t3.E) = W6 at *
      have hs := hs5
      clear hs5
      obtain ⟨x0, x1, x2, x3, x4⟩ := cells5 hs.box
      obtain ⟨bd', od', yd, e, lbd, d0, d1, d2, hyd⟩ := row_num (hdl.below hs.below) i (by omega)
      injection e with e
      injection e with e6 e7
      subst e6
      subst e7
      obtain ⟨br, or_, yr, rfl, lbr, e0, e1, e2, hyr⟩ := row_num (h.below hs.below).r i (by omega)
      have hw1 := fz_W200 (absF_num (getD_num d nd i))
      have hw2 := fz_W200 (getD_num z.r hz.numR i)
      have hmul := mulZ_fz (absF (d.getD i 0)) (z.r.getD i 0)
      have habs := absF_fz (d.getD i 0) (getD_small d sd i)
      have hbq := rch_W hz d nd i 0 (by omega) (by omega) (prodZ (d.getD i 0) (z.c.getD i 0) 0 + prodZ (absF (d.getD i 0)) (z.r.getD i 0) 0) (by have := pz_le (getD_num d nd i) (getD_num z.c hz.numC i); have := pz_le (absF_num (getD_num d nd i)) (getD_num z.r hz.numR i); omega)
      rw [← hmul, ← Int.add_assoc] at hbq
      have hbnd := hbq
      obtain ⟨s0, s1, s2⟩ := hs.num.cells
      have lbs := hs.num.lt
      have l0 := (Array.getElem?_eq_some_iff.1 hs.box).1
      have hxr := hs.is
      have hxb := hs.num
      have hd := (Below.refl W6.heap.size W6).drew
      clear hbq
      go_wp2_with fail
      have hS : ∀ W', Below W6.heap.size W6 W' → (fun w' => w'.cell? ⟨bs, 0, none⟩ = some (.bool t3.neg) ∧ w'.cell? ⟨bs, 1, none⟩ = some (.slice t3.A t3.n t3.cap) ∧ w'.cell? ⟨bs, 2, none⟩ = some (.int .i64 t3.E) ∧ w'.cell? ⟨bd, od + i * 3, none⟩ = some (.bool yd.neg) ∧ w'.cell? ⟨bd, od + i * 3 + 1, none⟩ = some (.slice yd.A yd.n yd.cap) ∧ w'.cell? ⟨bd, od + i * 3 + 2, none⟩ = some (.int .i64 yd.E) ∧ w'.cell? ⟨w.heap.size, 4, none⟩ = some (.slice (some ⟨br, or_, none⟩) z.r.length kD) ∧ w'.cell? ⟨br, or_ + i * 3, none⟩ = some (.bool yr.neg) ∧ w'.cell? ⟨br, or_ + i * 3 + 1, none⟩ = some (.slice yr.A yr.n yr.cap) ∧ w'.cell? ⟨br, or_ + i * 3 + 2, none⟩ = some (.int .i64 yr.E)) W' := fun W' hb => ⟨(hb.cell (p := ⟨bs, 0, none⟩) lbs).trans s0, (hb.cell (p := ⟨bs, 1, none⟩) lbs).trans s1, (hb.cell (p := ⟨bs, 2, none⟩) lbs).trans s2, (hb.cell (p := ⟨bd, od + i * 3, none⟩) lbd).trans d0, (hb.cell (p := ⟨bd, od + i * 3 + 1, none⟩) lbd).trans d1, (hb.cell (p := ⟨bd, od + i * 3 + 2, none⟩) lbd).trans d2, (hb.cell (p := ⟨w.heap.size, 4, none⟩) l0).trans x4, (hb.cell (p := ⟨br, or_ + i * 3, none⟩) lbr).trans e0, (hb.cell (p := ⟨br, or_ + i * 3 + 1, none⟩) lbr).trans e1, (hb.cell (p := ⟨br, or_ + i * 3 + 2, none⟩) lbr).trans e2⟩
      refine late_begin (fun w' => w'.cell? ⟨bs, 0, none⟩ = some (.bool t3.neg) ∧ w'.cell? ⟨bs, 1, none⟩ = some (.slice t3.A t3.n t3.cap) ∧ w'.cell? ⟨bs, 2, none⟩ = some (.int .i64 t3.E) ∧ w'.cell? ⟨bd, od + i * 3, none⟩ = some (.bool yd.neg) ∧ w'.cell? ⟨bd, od + i * 3 + 1, none⟩ = some (.slice yd.A yd.n yd.cap) ∧ w'.cell? ⟨bd, od + i * 3 + 2, none⟩ = some (.int .i64 yd.E) ∧ w'.cell? ⟨w.heap.size, 4, none⟩ = some (.slice (some ⟨br, or_, none⟩) z.r.length kD) ∧ w'.cell? ⟨br, or_ + i * 3, none⟩ = some (.bool yr.neg) ∧ w'.cell? ⟨br, or_ + i * 3 + 1, none⟩ = some (.slice yr.A yr.n yr.cap) ∧ w'.cell? ⟨br, or_ + i * 3 + 2, none⟩ = some (.int .i64 yr.E)) [13] (by kernel_rfl) ?_
      refine late_take (i := 0) (v := ?_) (some 29) rfl rfl (by kernel_rfl) (by kernel_rfl) (by kernel_rfl) (by kernel_rfl) (fun _ _ _ h => h) (by kernel_rfl) (hS _ hd) ?_ ?_
      rotate_left
      · (intro w hSw; (try dsimp only at hSw); go_simp; try rfl)
      try simp only [Act.put, List.setIfInBounds_toArray, List.set_cons_zero, List.set_cons_succ]
      refine late_take (i := 1) (v := ?_) (some 30) rfl rfl (by kernel_rfl) (by kernel_rfl) (by kernel_rfl) (by kernel_rfl) (fun _ _ _ h => h) (by kernel_rfl) (hS _ hd) ?_ ?_
      rotate_left
      · (intro w hSw; (try dsimp only at hSw); go_simp; try rfl)
      try simp only [Act.put, List.setIfInBounds_toArray, List.set_cons_zero, List.set_cons_succ]
      refine late_take (i := 2) (v := ?_) (some 31) rfl rfl (by kernel_rfl) (by kernel_rfl) (by kernel_rfl) (by kernel_rfl) (fun _ _ _ h => h) (by kernel_rfl) (hS _ hd) ?_ ?_
      rotate_left
      · (intro w hSw; (try dsimp only at hSw); go_simp; try rfl)
      try simp only [Act.put, List.setIfInBounds_toArray, List.set_cons_zero, List.set_cons_succ]
      refine late_take (i := 3) (v := ?_) (some 32) rfl rfl (by kernel_rfl) (by kernel_rfl) (by kernel_rfl) (by kernel_rfl) (fun _ _ _ h => h) (by kernel_rfl) (hS _ hd) ?_ ?_
      rotate_left
      · (intro w hSw; (try dsimp only at hSw); go_simp; try rfl)
      try simp only [Act.put, List.setIfInBounds_toArray, List.set_cons_zero, List.set_cons_succ]
      refine late_take (i := 4) (v := ?_) (some 33) rfl rfl (by kernel_rfl) (by kernel_rfl) (by kernel_rfl) (by kernel_rfl) (fun _ _ _ h => h) (by kernel_rfl) (hS _ hd) ?_ ?_
      rotate_left
      · (intro w hSw; (try dsimp only at hSw); go_simp; try rfl)
      try simp only [Act.put, List.setIfInBounds_toArray, List.set_cons_zero, List.set_cons_succ]
      refine late_take (i := 6) (v := ?_) (some 35) rfl rfl (by kernel_rfl) (by kernel_rfl) (by kernel_rfl) (by kernel_rfl) (fun _ _ _ h => h) (by kernel_rfl) (hS _ hd) ?_ ?_
      rotate_left
      · (intro w hSw; (try dsimp only at hSw); go_simp; try rfl)
      try simp only [Act.put, List.setIfInBounds_toArray, List.set_cons_zero, List.set_cons_succ]
      refine late_take (i := 7) (v := ?_) (some 36) rfl rfl (by kernel_rfl) (by kernel_rfl) (by kernel_rfl) (by kernel_rfl) (fun _ _ _ h => h) (by kernel_rfl) (hS _ hd) ?_ ?_
      rotate_left
      · (intro w hSw; (try dsimp only at hSw); go_simp; try rfl)
      try simp only [Act.put, List.setIfInBounds_toArray, List.set_cons_zero, List.set_cons_succ]
      refine late_take (i := 8) (v := ?_) (some 37) rfl rfl (by kernel_rfl) (by kernel_rfl) (by kernel_rfl) (by kernel_rfl) (fun _ _ _ h => h) (by kernel_rfl) (hS _ hd) ?_ ?_
      rotate_left
      · (intro w hSw; (try dsimp only at hSw); go_simp; try rfl)
      try simp only [Act.put, List.setIfInBounds_toArray, List.set_cons_zero, List.set_cons_succ]
      refine late_take (i := 9) (v := ?_) (some 38) rfl rfl (by kernel_rfl) (by kernel_rfl) (by kernel_rfl) (by kernel_rfl) (fun _ _ _ h => h) (by kernel_rfl) (hS _ hd) ?_ ?_
      rotate_left
      · (intro w hSw; (try dsimp only at hSw); go_simp; try rfl)
      try simp only [Act.put, List.setIfInBounds_toArray, List.set_cons_zero, List.set_cons_succ]
      refine late_take (i := 10) (v := ?_) (some 39) rfl rfl (by kernel_rfl) (by kernel_rfl) (by kernel_rfl) (by kernel_rfl) (fun _ _ _ h => h) (by kernel_rfl) (hS _ hd) ?_ ?_
      rotate_left
      · (intro w hSw; (try dsimp only at hSw); go_simp; try rfl)
      try simp only [Act.put, List.setIfInBounds_toArray, List.set_cons_zero, List.set_cons_succ]
      refine late_one (i := 5) rfl (by kernel_rfl) ?_
      intro K hK
      go_simp
      refine (size_r _ _ _ yd _ (hyd.below hd)).mono ?_
      rintro e w4 ⟨t4, rfl, ht4, hb4⟩
      have hc4 := hd.trans (hb4.mono hd.size)
      rw [← habs] at ht4
      try show K _ _
      refine hK.out _ _ (Or.inr (hS _ hc4)) ?_
      clear hK K
      try simp only [Act.put, List.setIfInBounds_toArray, List.set_cons_zero, List.set_cons_succ]
      refine late_one (i := 11) rfl (by kernel_rfl) ?_
      intro K hK
      go_simp
      refine (times_r _ (-1074) 971 (-1074) 971 t4 yr _ _ ht4 (hyr.below hc4) (by decide) (by decide) (by decide) (by decide) (by decide) (by decide) (by decide) (by decide) hw1 hw2).mono ?_
      rintro e w5 ⟨t5, rfl, ht5, hb5⟩
      have hc5 := hc4.trans (hb5.mono hc4.size)
      try show K _ _
      refine hK.out _ _ (Or.inr (hS _ hc5)) ?_
      clear hK K
      try simp only [Act.put, List.setIfInBounds_toArray, List.set_cons_zero, List.set_cons_succ]
      refine late_one (i := 12) rfl (by kernel_rfl) ?_
      intro K hK
      go_simp
      refine (plus_r _ (-2148) 1942 t3 t5 _ _ (hxr.below hc5) ht5 (by decide) (by decide) (by decide) (by decide) hbnd).mono ?_
      rintro e w6 ⟨t6, rfl, ht6, hb6⟩
      have hc6 := hc5.trans (hb6.mono hc5.size)
      try show K _ _
      refine hK.out _ _ (Or.inr (hS _ hc6)) ?_
      clear hK K
      try simp only [Act.put, List.setIfInBounds_toArray, List.set_cons_zero, List.set_cons_succ]
      refine late_one (i := 13) rfl (by kernel_rfl) ?_
      intro K hK
      go_simp
      have hq := hxb.below hc6
      obtain ⟨p0, p1, p2⟩ := hq.cells
      have hfr := fun j => frozen_of_row w6 bs j _ _ hq
      go_simp
      try show K _ _
      refine hK.out _ _ (Or.inl (by decide)) ?_
      clear hK K
      try simp only [Act.put, List.setIfInBounds_toArray, List.set_cons_zero, List.set_cons_succ]
      refine late_done (by kernel_rfl) ?_ _
      obtain ⟨hs5, hgr5⟩ := hs.put hc6 ht6
      rw [hmul, Int.add_assoc] at hs5
      clear hgr5 hS hd hq p0 p1 p2 hfr hc6 hb6 ht6 hc5 hb5 ht5 hc4 hb4 ht4 s0 s1 s2 d0 d1 d2 e0 e1 e2 x0 x1 x2 x3 x4 hyd hyr lbs lbd lbr l0 hxr hxb hbnd hw1 hw2 hmul hs habs
      go_wp2_with fail
      go_roundw
      case rel => exact ⟨i + 1, _, by omega, by go_num, hs5⟩
      case measure => simp [intOf]; omega
    · obtain rfl : i = N := by omega
      have hlt' : decide (((i : Nat) : Int) < (i : Nat)) = false := by simp
      clear x1 x2 x3 x4
      go_wp2_with fail
      clear x0
      have hs' : RchSt w wr bs #[.int .i64 (i : Nat), .slice A z.c.length kA, .slice B z.ids.length kB, .slice C z.g.length kC, .slice D z.r.length kD] x (rch2 z d i 0) := by
        unfold rch2
        rw [show sumTo _ 0 = 0 from rfl, Int.add_zero]
        exact hs
      clear hs hil hlt hlt'
      go_loopw [7] (fun kk wr => ∃ (k : Nat) (x : NV), k ≤ z.g.length ∧ kk = .int .i64 (k : Nat) ∧ RchSt w wr bs #[.int .i64 (i : Nat), .slice A z.c.length kA, .slice B z.ids.length kB, .slice C z.g.length kC, .slice D z.r.length kD] x (rch2 z d i k)) (fun kk _ => z.g.length - (intOf kk).toNat)
      case atStart => exact ⟨0, _, Nat.zero_le _, rfl, hs'⟩
      case round =>
        clear hs'
        obtain ⟨k, x, hkl, rfl, hs⟩ := hrel
        obtain ⟨x0, x1, x2, x3, x4⟩ := cells5 hs.box
        by_cases hlt : k < z.g.length
        · have hlt' : (k : Int) < (z.g.length : Int) := by omega
          clear x0 x1 x2 x4
          go_upto_region 11 with fail
          clear x3
          have hba := below_alloc wr (.cells #[.bool false, .slice none 0 0, .int .i64 0] 70)
          have hs1 := hs.b hba
          have hyb : NumB (wr.alloc (.cells #[.bool false, .slice none 0 0, .int .i64 0] 70)) wr.heap.size ⟨false, none, 0, 0, 0⟩ := heap_alloc_new wr _
          have hlow : w.heap.size + 1 + 1 ≤ wr.heap.size := Nat.le_trans hs.low (Nat.le_of_lt hs.num.lt)
          have hne : bs ≠ wr.heap.size := Nat.ne_of_lt hs.num.lt
          generalize wr.alloc (.cells #[.bool false, .slice none 0 0, .int .i64 0] 70) = W1 at *
          obtain ⟨bt, hbt⟩ : ∃ b, wr.heap.size = b := ⟨_, rfl⟩
          rw [hbt] at hyb hlow hne ⊢
          clear hba hs hbt
          go_wp2_with fail
          go_loopw [9] (fun jj wi => ∃ (j : Nat) (y : NV), j ≤ i ∧ jj = .int .i64 (j : Nat) ∧ RchSt w wi bs #[.int .i64 (i : Nat), .slice A z.c.length kA, .slice B z.ids.length kB, .slice C z.g.length kC, .slice D z.r.length kD] x (rch2 z d i k) ∧ NumB wi bt y ∧ NumR (-2148) 1942 wi y (dotZ d (colZ z k) j)) (fun jj _ => i - (intOf jj).toNat)
          case atStart => exact ⟨0, _, Nat.zero_le _, rfl, hs1, hyb, NV.zero_r _⟩
          case round =>
            clear hs1 hyb
            obtain ⟨j, y, hjl, rfl, hs, hyb, hyr⟩ := hrel
            obtain ⟨x0, x1, x2, x3, x4⟩ := cells5 hs.box
            have hs9 := hs
            by_cases hltj : j < i
            · have hltj' : (j : Int) < (i : Int) := by omega
              have hjd : (j : Int) < (d.length : Int) := by have := hNd.out; omega
              have hgx : z.g[k]? = some (colZ z k) := by unfold colZ; rw [List.getD_eq_getElem?_getD, List.getElem?_eq_getElem hlt, Option.getD_some]
              have hjn : j < (colZ z k).length := by have := (hz.colG k _ hgx).2; have := HN.out; omega
              have hjn' : (j : Int) < ((colZ z k).length : Int) := by omega
              obtain ⟨bd, od, yd, rfl, lbd, d0, d1, d2, hyd⟩ := row_num (hdl.below hs.below) j (by omega)
              obtain ⟨bc, oc, bn, on, cn, yc, rfl, lbc, e3, lbn, e0, e1, e2, hyc⟩ := col_num (h.below hs.below) k j hlt hjn
              have hw1 := fz_W200 (getD_num d nd j)
              have hw2 := fz_W200 (getD_num _ (hz.colNum k) j)
              have hmul := mulZ_fz (d.getD j 0) ((colZ z k).getD j 0)
              have hbnd := dot_W hz d nd k (j + 1) (by omega)
              rw [show dotZ d (colZ z k) (j + 1) = dotZ d (colZ z k) j + prodZ (d.getD j 0) ((colZ z k).getD j 0) 0 from rfl, ← hmul] at hbnd
              obtain ⟨s0, s1, s2⟩ := hyb.cells
              have lbt := hyb.lt
              have l0 := (Array.getElem?_eq_some_iff.1 hs.box).1
              have hd := (Below.refl wr.heap.size wr).drew
              clear hgx hs9
              go_wp2_with fail
              have hS : ∀ W', Below wr.heap.size wr W' → (fun w' => w'.cell? ⟨bt, 0, none⟩ = some (.bool y.neg) ∧ w'.cell? ⟨bt, 1, none⟩ = some (.slice y.A y.n y.cap) ∧ w'.cell? ⟨bt, 2, none⟩ = some (.int .i64 y.E) ∧ w'.cell? ⟨bd, od + j * 3, none⟩ = some (.bool yd.neg) ∧ w'.cell? ⟨bd, od + j * 3 + 1, none⟩ = some (.slice yd.A yd.n yd.cap) ∧ w'.cell? ⟨bd, od + j * 3 + 2, none⟩ = some (.int .i64 yd.E) ∧ w'.cell? ⟨w.heap.size, 3, none⟩ = some (.slice (some ⟨bc, oc, none⟩) z.g.length kC) ∧ w'.cell? ⟨bc, oc + k, none⟩ = some (.slice (some ⟨bn, on, none⟩) (colZ z k).length cn) ∧ w'.cell? ⟨bn, on + j * 3, none⟩ = some (.bool yc.neg) ∧ w'.cell? ⟨bn, on + j * 3 + 1, none⟩ = some (.slice yc.A yc.n yc.cap) ∧ w'.cell? ⟨bn, on + j * 3 + 2, none⟩ = some (.int .i64 yc.E)) W' := fun W' hb => ⟨(hb.cell (p := ⟨bt, 0, none⟩) lbt).trans s0, (hb.cell (p := ⟨bt, 1, none⟩) lbt).trans s1, (hb.cell (p := ⟨bt, 2, none⟩) lbt).trans s2, (hb.cell (p := ⟨bd, od + j * 3, none⟩) lbd).trans d0, (hb.cell (p := ⟨bd, od + j * 3 + 1, none⟩) lbd).trans d1, (hb.cell (p := ⟨bd, od + j * 3 + 2, none⟩) lbd).trans d2, (hb.cell (p := ⟨w.heap.size, 3, none⟩) l0).trans x3, (hb.cell (p := ⟨bc, oc + k, none⟩) lbc).trans e3, (hb.cell (p := ⟨bn, on + j * 3, none⟩) lbn).trans e0, (hb.cell (p := ⟨bn, on + j * 3 + 1, none⟩) lbn).trans e1, (hb.cell (p := ⟨bn, on + j * 3 + 2, none⟩) lbn).trans e2⟩
              refine late_begin (fun w' => w'.cell? ⟨bt, 0, none⟩ = some (.bool y.neg) ∧ w'.cell? ⟨bt, 1, none⟩ = some (.slice y.A y.n y.cap) ∧ w'.cell? ⟨bt, 2, none⟩ = some (.int .i64 y.E) ∧ w'.cell? ⟨bd, od + j * 3, none⟩ = some (.bool yd.neg) ∧ w'.cell? ⟨bd, od + j * 3 + 1, none⟩ = some (.slice yd.A yd.n yd.cap) ∧ w'.cell? ⟨bd, od + j * 3 + 2, none⟩ = some (.int .i64 yd.E) ∧ w'.cell? ⟨w.heap.size, 3, none⟩ = some (.slice (some ⟨bc, oc, none⟩) z.g.length kC) ∧ w'.cell? ⟨bc, oc + k, none⟩ = some (.slice (some ⟨bn, on, none⟩) (colZ z k).length cn) ∧ w'.cell? ⟨bn, on + j * 3, none⟩ = some (.bool yc.neg) ∧ w'.cell? ⟨bn, on + j * 3 + 1, none⟩ = some (.slice yc.A yc.n yc.cap) ∧ w'.cell? ⟨bn, on + j * 3 + 2, none⟩ = some (.int .i64 yc.E)) [15] (by kernel_rfl) ?_
              refine late_take (i := 0) (v := ?_) (some 56) rfl rfl (by kernel_rfl) (by kernel_rfl) (by kernel_rfl) (by kernel_rfl) (fun _ _ _ h => h) (by kernel_rfl) (hS _ hd) ?_ ?_
              rotate_left
              · (intro w hSw; (try dsimp only at hSw); go_simp; try rfl)
              try simp only [Act.put, List.setIfInBounds_toArray, List.set_cons_zero, List.set_cons_succ]
              refine late_take (i := 1) (v := ?_) (some 57) rfl rfl (by kernel_rfl) (by kernel_rfl) (by kernel_rfl) (by kernel_rfl) (fun _ _ _ h => h) (by kernel_rfl) (hS _ hd) ?_ ?_
              rotate_left
              · (intro w hSw; (try dsimp only at hSw); go_simp; try rfl)
              try simp only [Act.put, List.setIfInBounds_toArray, List.set_cons_zero, List.set_cons_succ]
              refine late_take (i := 2) (v := ?_) (some 58) rfl rfl (by kernel_rfl) (by kernel_rfl) (by kernel_rfl) (by kernel_rfl) (fun _ _ _ h => h) (by kernel_rfl) (hS _ hd) ?_ ?_
              rotate_left
              · (intro w hSw; (try dsimp only at hSw); go_simp; try rfl)
              try simp only [Act.put, List.setIfInBounds_toArray, List.set_cons_zero, List.set_cons_succ]
              refine late_take (i := 3) (v := ?_) (some 59) rfl rfl (by kernel_rfl) (by kernel_rfl) (by kernel_rfl) (by kernel_rfl) (fun _ _ _ h => h) (by kernel_rfl) (hS _ hd) ?_ ?_
              rotate_left
              · (intro w hSw; (try dsimp only at hSw); go_simp; try rfl)
              try simp only [Act.put, List.setIfInBounds_toArray, List.set_cons_zero, List.set_cons_succ]
              refine late_take (i := 4) (v := ?_) (some 60) rfl rfl (by kernel_rfl) (by kernel_rfl) (by kernel_rfl) (by kernel_rfl) (fun _ _ _ h => h) (by kernel_rfl) (hS _ hd) ?_ ?_
              rotate_left
              · (intro w hSw; (try dsimp only at hSw); go_simp; try rfl)
              try simp only [Act.put, List.setIfInBounds_toArray, List.set_cons_zero, List.set_cons_succ]
              refine late_take (i := 5) (v := ?_) (some 61) rfl rfl (by kernel_rfl) (by kernel_rfl) (by kernel_rfl) (by kernel_rfl) (fun _ _ _ h => h) (by kernel_rfl) (hS _ hd) ?_ ?_
              rotate_left
              · (intro w hSw; (try dsimp only at hSw); go_simp; try rfl)
              try simp only [Act.put, List.setIfInBounds_toArray, List.set_cons_zero, List.set_cons_succ]
              refine late_take (i := 6) (v := ?_) (some 62) rfl rfl (by kernel_rfl) (by kernel_rfl) (by kernel_rfl) (by kernel_rfl) (fun _ _ _ h => h) (by kernel_rfl) (hS _ hd) ?_ ?_
              rotate_left
              · (intro w hSw; (try dsimp only at hSw); go_simp; try rfl)
              try simp only [Act.put, List.setIfInBounds_toArray, List.set_cons_zero, List.set_cons_succ]
              refine late_take (i := 7) (v := ?_) (some 63) rfl rfl (by kernel_rfl) (by kernel_rfl) (by kernel_rfl) (by kernel_rfl) (fun _ _ _ h => h) (by kernel_rfl) (hS _ hd) ?_ ?_
              rotate_left
              · (intro w hSw; (try dsimp only at hSw); go_simp; try rfl)
              try simp only [Act.put, List.setIfInBounds_toArray, List.set_cons_zero, List.set_cons_succ]
              refine late_take (i := 8) (v := ?_) (some 64) rfl rfl (by kernel_rfl) (by kernel_rfl) (by kernel_rfl) (by kernel_rfl) (fun _ _ _ h => h) (by kernel_rfl) (hS _ hd) ?_ ?_
              rotate_left
              · (intro w hSw; (try dsimp only at hSw); go_simp; try rfl)
              try simp only [Act.put, List.setIfInBounds_toArray, List.set_cons_zero, List.set_cons_succ]
              refine late_take (i := 9) (v := ?_) (some 65) rfl rfl (by kernel_rfl) (by kernel_rfl) (by kernel_rfl) (by kernel_rfl) (fun _ _ _ h => h) (by kernel_rfl) (hS _ hd) ?_ ?_
              rotate_left
              · (intro w hSw; (try dsimp only at hSw); go_simp; try rfl)
              try simp only [Act.put, List.setIfInBounds_toArray, List.set_cons_zero, List.set_cons_succ]
              refine late_take (i := 10) (v := ?_) (some 66) rfl rfl (by kernel_rfl) (by kernel_rfl) (by kernel_rfl) (by kernel_rfl) (fun _ _ _ h => h) (by kernel_rfl) (hS _ hd) ?_ ?_
              rotate_left
              · (intro w hSw; (try dsimp only at hSw); go_simp; try rfl)
              try simp only [Act.put, List.setIfInBounds_toArray, List.set_cons_zero, List.set_cons_succ]
              refine late_take (i := 11) (v := ?_) (some 67) rfl rfl (by kernel_rfl) (by kernel_rfl) (by kernel_rfl) (by kernel_rfl) (fun _ _ _ h => h) (by kernel_rfl) (hS _ hd) ?_ ?_
              rotate_left
              · (intro w hSw; (try dsimp only at hSw); go_simp; try rfl)
              try simp only [Act.put, List.setIfInBounds_toArray, List.set_cons_zero, List.set_cons_succ]
              refine late_take (i := 12) (v := ?_) (some 68) rfl rfl (by kernel_rfl) (by kernel_rfl) (by kernel_rfl) (by kernel_rfl) (fun _ _ _ h => h) (by kernel_rfl) (hS _ hd) ?_ ?_
              rotate_left
              · (intro w hSw; (try dsimp only at hSw); go_simp; try rfl)
              try simp only [Act.put, List.setIfInBounds_toArray, List.set_cons_zero, List.set_cons_succ]
              refine late_one (i := 13) rfl (by kernel_rfl) ?_
              intro K hK
              go_simp
              refine (times_r _ (-1074) 971 (-1074) 971 yd yc _ _ (hyd.below hd) (hyc.below hd) (by decide) (by decide) (by decide) (by decide) (by decide) (by decide) (by decide) (by decide) hw1 hw2).mono ?_
              rintro e w2 ⟨t2, rfl, ht2, hb2⟩
              have hc2 := hd.trans (hb2.mono hd.size)
              try show K _ _
              refine hK.out _ _ (Or.inr (hS _ hc2)) ?_
              clear hK K
              try simp only [Act.put, List.setIfInBounds_toArray, List.set_cons_zero, List.set_cons_succ]
              refine late_one (i := 14) rfl (by kernel_rfl) ?_
              intro K hK
              go_simp
              refine (plus_r _ (-2148) 1942 y t2 _ _ (hyr.below hc2) ht2 (by decide) (by decide) (by decide) (by decide) hbnd).mono ?_
              rintro e w3 ⟨t3, rfl, ht3, hb3⟩
              have hc3 := hc2.trans (hb3.mono hc2.size)
              try show K _ _
              refine hK.out _ _ (Or.inr (hS _ hc3)) ?_
              clear hK K
              try simp only [Act.put, List.setIfInBounds_toArray, List.set_cons_zero, List.set_cons_succ]
              refine late_one (i := 15) rfl (by kernel_rfl) ?_
              intro K hK
              go_simp
              have hq := hyb.below hc3
              obtain ⟨p0, p1, p2⟩ := hq.cells
              have hfr := fun j => frozen_of_row w3 bt j _ _ hq
              go_simp
              try show K _ _
              refine hK.out _ _ (Or.inl (by decide)) ?_
              clear hK K
              try simp only [Act.put, List.setIfInBounds_toArray, List.set_cons_zero, List.set_cons_succ]
              refine late_done (by kernel_rfl) ?_ _
              obtain ⟨n1, n2⟩ := hq.put t3
              have hsum := ht3.far n2 (fun g e => by cases e; exact hq.typed) (by decide)
              rw [hmul] at hsum
              have hs5 := (hs.b hc3).far n2 hq.typed (by decide) (fun e => hne e.symm) hlow
              clear n2 hS hd hq p0 p1 p2 hfr hc3 hb3 ht3 hc2 hb2 ht2 s0 s1 s2 d0 d1 d2 e0 e1 e2 e3 x0 x1 x2 x3 x4 hyd hyc lbt lbd lbc lbn l0 hbnd hw1 hw2 hmul hs hyb hyr
              go_wp2_with fail
              go_roundw
              case rel => exact ⟨j + 1, _, by omega, by go_num, hs5, n1, hsum⟩
              case measure => simp [intOf]; omega
            · obtain rfl : j = i := by omega
              have hltj' : decide (((j : Nat) : Int) < (j : Nat)) = false := by simp
              have hbnd := rch2_W hz d nd j (k + 1) (by omega) (by omega)
              rw [show rch2 z d j (k + 1) = rch2 z d j k + zabs (dotZ d (colZ z k) j) by unfold rch2; rw [Int.add_assoc]; rfl] at hbnd
              obtain ⟨d0, d1, d2⟩ := hyb.cells
              have lbt := hyb.lt
              obtain ⟨s0, s1, s2⟩ := hs.num.cells
              have lbs := hs.num.lt
              have hxr := hs.is
              have hxb := hs.num
              have hd := (Below.refl wr.heap.size wr).drew
              clear x1 x2 x3 x4 hs9
              go_wp2_with fail
              clear x0
              have hS : ∀ W', Below wr.heap.size wr W' → (fun w' => w'.cell? ⟨bs, 0, none⟩ = some (.bool x.neg) ∧ w'.cell? ⟨bs, 1, none⟩ = some (.slice x.A x.n x.cap) ∧ w'.cell? ⟨bs, 2, none⟩ = some (.int .i64 x.E) ∧ w'.cell? ⟨bt, 0, none⟩ = some (.bool y.neg) ∧ w'.cell? ⟨bt, 1, none⟩ = some (.slice y.A y.n y.cap) ∧ w'.cell? ⟨bt, 2, none⟩ = some (.int .i64 y.E)) W' := fun W' hb => ⟨(hb.cell (p := ⟨bs, 0, none⟩) lbs).trans s0, (hb.cell (p := ⟨bs, 1, none⟩) lbs).trans s1, (hb.cell (p := ⟨bs, 2, none⟩) lbs).trans s2, (hb.cell (p := ⟨bt, 0, none⟩) lbt).trans d0, (hb.cell (p := ⟨bt, 1, none⟩) lbt).trans d1, (hb.cell (p := ⟨bt, 2, none⟩) lbt).trans d2⟩
              refine late_begin (fun w' => w'.cell? ⟨bs, 0, none⟩ = some (.bool x.neg) ∧ w'.cell? ⟨bs, 1, none⟩ = some (.slice x.A x.n x.cap) ∧ w'.cell? ⟨bs, 2, none⟩ = some (.int .i64 x.E) ∧ w'.cell? ⟨bt, 0, none⟩ = some (.bool y.neg) ∧ w'.cell? ⟨bt, 1, none⟩ = some (.slice y.A y.n y.cap) ∧ w'.cell? ⟨bt, 2, none⟩ = some (.int .i64 y.E)) [4] (by kernel_rfl) ?_
              refine late_take (i := 0) (v := ?_) (some 71) rfl rfl (by kernel_rfl) (by kernel_rfl) (by kernel_rfl) (by kernel_rfl) (fun _ _ _ h => h) (by kernel_rfl) (hS _ hd) ?_ ?_
              rotate_left
              · (intro w hSw; (try dsimp only at hSw); go_simp; try rfl)
              try simp only [Act.put, List.setIfInBounds_toArray, List.set_cons_zero, List.set_cons_succ]
              refine late_take (i := 1) (v := ?_) (some 72) rfl rfl (by kernel_rfl) (by kernel_rfl) (by kernel_rfl) (by kernel_rfl) (fun _ _ _ h => h) (by kernel_rfl) (hS _ hd) ?_ ?_
              rotate_left
              · (intro w hSw; (try dsimp only at hSw); go_simp; try rfl)
              try simp only [Act.put, List.setIfInBounds_toArray, List.set_cons_zero, List.set_cons_succ]
              refine late_one (i := 2) rfl (by kernel_rfl) ?_
              intro K hK
              go_simp
              refine (size_r _ _ _ y _ (hyr.below hd)).mono ?_
              rintro e w2 ⟨t2, rfl, ht2, hb2⟩
              have hc2 := hd.trans (hb2.mono hd.size)
              try show K _ _
              refine hK.out _ _ (Or.inr (hS _ hc2)) ?_
              clear hK K
              try simp only [Act.put, List.setIfInBounds_toArray, List.set_cons_zero, List.set_cons_succ]
              refine late_one (i := 3) rfl (by kernel_rfl) ?_
              intro K hK
              go_simp
              refine (plus_r _ (-2148) 1942 x t2 _ _ (hxr.below hc2) ht2 (by decide) (by decide) (by decide) (by decide) hbnd).mono ?_
              rintro e w3 ⟨t3, rfl, ht3, hb3⟩
              have hc3 := hc2.trans (hb3.mono hc2.size)
              try show K _ _
              refine hK.out _ _ (Or.inr (hS _ hc3)) ?_
              clear hK K
              try simp only [Act.put, List.setIfInBounds_toArray, List.set_cons_zero, List.set_cons_succ]
              refine late_one (i := 4) rfl (by kernel_rfl) ?_
              intro K hK
              go_simp
              have hq := hxb.below hc3
              obtain ⟨p0, p1, p2⟩ := hq.cells
              have hfr := fun j => frozen_of_row w3 bs j _ _ hq
              go_simp
              try show K _ _
              refine hK.out _ _ (Or.inl (by decide)) ?_
              clear hK K
              try simp only [Act.put, List.setIfInBounds_toArray, List.set_cons_zero, List.set_cons_succ]
              refine late_done (by kernel_rfl) ?_ _
              obtain ⟨hs5, hgr5⟩ := hs.put hc3 ht3
              rw [show rch2 z d j k + zabs (dotZ d (colZ z k) j) = rch2 z d j (k + 1) by unfold rch2; rw [Int.add_assoc]; rfl] at hs5
              clear hgr5 hS hd hq p0 p1 p2 hfr hc3 hb3 ht3 hc2 hb2 ht2 s0 s1 s2 d0 d1 d2 lbs lbt hxr hxb hbnd hs hyb hyr
              go_wp2_with fail
              go_roundw
              case rel => exact ⟨k + 1, _, by omega, by go_num, hs5⟩
              case measure => simp [intOf]; omega
        · obtain rfl : k = z.g.length := by omega
          have hlt' : decide (((z.g.length : Nat) : Int) < (z.g.length : Nat)) = false := by simp
          obtain ⟨s0, s1, s2⟩ := hs.num.cells
          have hrs := hs.res
          obtain ⟨r0, r1, r2⟩ := cells3' hrs
          have hfr := fun j => frozen_of_row wr _ j _ _ hrs
          clear x0 x1 x2 x4
          go_wp2_with fail
          obtain ⟨q1, q2⟩ := set3 hrs (.bool x.neg) (.slice x.A x.n x.cap) (.int .i64 x.E)
          obtain ⟨c0, c1, c2⟩ := cells3' q1
          refine bodyPost_ret (v := .agg #[.bool x.neg, .slice x.A x.n x.cap, .int .i64 x.E]) (by simp [results, Tryz.results78, go_sem, c0, c1, c2]) rfl ?_
          have hzz : rch2 z d i z.g.length = supZ z d := HZS.out
          rw [← hzz]
          exact ⟨x, rfl, hs.is.far q2 (fun g e => by cases e; exact ⟨_, hrs⟩) (by decide), hs.below.trans (below_row q2 (by omega) hs.below.size)⟩
end Go.Proofs.YtpfbgenefjhcjaaGreatDoor
namespace Go.Proofs.YtpfbgenefjhcjaaGreatDoor
set_option linter.unusedVariables false
set_option linter.unusedSimpArgs false
open Go Go.RowKit
set_option maxRecDepth 100000
set_option maxHeartbeats 4000000 in
theorem Support10_any (w : World) (v : Value) (z : ZD) (Ad : Option Addr) (cd : Nat) (d : List Nat) (h : UIs w v z) (hk : ZOk z) (hd : UR w Ad d) (sd : Small d) (ld : d.length ≤ MAXF) :
    Calls Tryz.prog 26 #[v, .slice Ad d.length cd] w fun e w' => e = .returned (.tuple #[.int .u64 ((supD z d).1 : Nat), .bool (supD z d).2]) ∧ Below w.heap.size w w' := by
  obtain ⟨A, B, C, D, kA, kB, kC, kD, rfl, hc⟩ := h
  have hb1 := below_alloc w (.cells #[.int .i64 z.n, .slice A z.c.length kA, .slice B z.ids.length kB, .slice C z.g.length kC, .slice D z.r.length kD, .bool z.bad] 30)
  have hx := heap_alloc_new w (.cells #[.int .i64 z.n, .slice A z.c.length kA, .slice B z.ids.length kB, .slice C z.g.length kC, .slice D z.r.length kD, .bool z.bad] 30)
  have hre := Reals_any _ _ z ⟨A, B, C, D, kA, kB, kC, kD, rfl, hc.below hb1⟩ hk
  obtain ⟨x0, x1, x2, x3, x4, x5⟩ := cells6 hx
  unfold zval at hre ⊢
  go_enter Tryz.func26, Tryz.ntmps26
  go_wp2_with fail
  refine hre.mono ?_
  clear x0 x1 x2 x3 x4 x5
  rintro e w1 (⟨hg, v1, rfl, hr, hb⟩ | ⟨hg, rfl, hb⟩)
  · obtain ⟨A1, B1, C1, D1, kA1, kB1, kC1, kD1, rfl, hr⟩ := hr
    have hz := (goodD_iff z).1 hg
    have HG := Lib.hid hg
    have hn2 := hz.n2
    have hb2 := hb1.trans (hb.mono hb1.size)
    have hb3 := below_alloc w1 (.cells #[.int .i64 z.n, .slice A1 z.c.length kA1, .slice B1 z.ids.length kB1, .slice C1 z.g.length kC1, .slice D1 z.r.length kD1] 61)
    have hx3 := heap_alloc_new w1 (.cells #[.int .i64 z.n, .slice A1 z.c.length kA1, .slice B1 z.ids.length kB1, .slice C1 z.g.length kC1, .slice D1 z.r.length kD1] 61)
    have hr3 := hr.below hb3
    have hb4 := hb2.trans (hb3.mono hb2.size)
    clear hg hre hb hb2 hb3 hr hx
    unfold rval
    go_upto_region 4 with fail
    generalize w1.alloc (.cells #[.int .i64 z.n, .slice A1 z.c.length kA1, .slice B1 z.ids.length kB1, .slice C1 z.g.length kC1, .slice D1 z.r.length kD1] 61) = W at *
    obtain ⟨br, hbr⟩ : ∃ b, w1.heap.size = b := ⟨_, rfl⟩
    rw [hbr] at hx3 ⊢
    clear hbr hb1
    obtain ⟨y0, y1, y2, y3, y4⟩ := cells5 hx3
    cases hrd : rowD d z.n with
    | false =>
      have hn := numbers_no W Ad d.length cd d z.n (hd.below (Nat.le_refl _) hb4) sd rfl (by omega) ld hrd
      have HS := Lib.hid (show supD z d = (0, false) by unfold supD; rw [HG.out, hrd]; rfl)
      clear hrd y1 y2 y3 y4
      go_wp2_with fail
      refine hn.mono ?_
      rintro e w2 ⟨rfl, hb⟩
      clear y0
      go_wp2_with fail
      refine bodyPost_ret (v := .tuple #[.int .u64 0, .bool false]) (by simp [results, Tryz.results26, go_sem]) rfl ?_
      rw [HS.out]
      exact ⟨rfl, hb4.trans (hb.mono hb4.size)⟩
    | true =>
      have hn := numbers_yes W Ad d.length cd d z.n (hd.below (Nat.le_refl _) hb4) sd rfl (by omega) ld hrd
      have HS := Lib.hid (show supD z d = roundS 1 (some (supZ z d)) by unfold supD; rw [HG.out, hrd]; rfl)
      have HRD := Lib.hid hrd
      clear hrd y1 y2 y3 y4
      go_wp2_with fail
      refine hn.mono ?_
      rintro e w2 ⟨A2, c2, rfl, hN, hb⟩
      have hx4 := (hb.block _ (Array.getElem?_eq_some_iff.1 hx3).1).trans hx3
      have hb5 := hb4.trans (hb.mono hb4.size)
      have hR := Reach_any w2 A1 B1 C1 D1 A2 kA1 kB1 kC1 kD1 c2 z d (hr3.below hb) hk hz hN sd HRD.out
      unfold rval at hR
      clear y0 hn
      obtain ⟨y0, y1, y2, y3, y4⟩ := cells5 hx4
      go_wp2_with fail
      refine hR.mono ?_
      rintro e w3 ⟨x, rfl, hx, hbr⟩
      have hro := round_r w3 1 _ _ x _ hx (by decide) (by decide)
      clear y0 y1 y2 y3 y4
      go_wp2_with fail
      refine hro.mono ?_
      rintro e w4 ⟨rfl, hbo⟩
      go_wp2_with fail
      refine bodyPost_ret (v := .tuple #[.int .u64 ((roundS 1 (some (supZ z d))).1 : Nat), .bool (roundS 1 (some (supZ z d))).2]) (by simp [results, Tryz.results26, go_sem]) rfl ?_
      rw [HS.out]
      exact ⟨rfl, hb5.trans ((hbr.trans (hbo.mono hbr.size)).mono hb5.size)⟩
  · have HS := Lib.hid (show supD z d = (0, false) by unfold supD; rw [hg]; rfl)
    clear hg
    unfold noReal
    go_wp2_with fail
    refine bodyPost_ret (v := .tuple #[.int .u64 0, .bool false]) (by simp [results, Tryz.results26, go_sem]) rfl ?_
    rw [HS.out]
    exact ⟨rfl, (hb1.trans (hb.mono hb1.size)).trans ((below_alloc _ _).mono (hb1.trans (hb.mono hb1.size)).size)⟩
end Go.Proofs.YtpfbgenefjhcjaaGreatDoor
