/- ambitref10's small ones that Lift, Box and New call. -/
import Derived.Test.YtpfbgenefjhcjaaGreatDoorPZoLif
import Derived.Test.YtpfbgenefjhcjaaGreatDoorPZoReal2
import Derived.Test.YtpfbgenefjhcjaaGreatDoorPZoChk10
namespace Go.Proofs.YtpfbgenefjhcjaaGreatDoor
set_option linter.unusedVariables false
set_option linter.unusedSimpArgs false
open Go Go.RowKit
attribute [local go_sem] Oper.semAt_some
set_option maxRecDepth 100000
section
variable {P : Program} {ops : Array Oper} {Q : Exit → Act → World → Prop} {md : Region.Mode} {S : World → Prop} {lates : List Nat}
end
theorem lostV_uis (w : World) (n : Int) : UIs w (lostV n) (lostZ n) :=
 ⟨none, none, none, none, 0, 0, 0, 0, rfl, R1.nil _ _ _, R1.nil _ _ _, fun k g hg => by simp [lostZ] at hg, R1.nil _ _ _, ⟨Nat.le_refl _, Nat.zero_le _, fun _ => rfl⟩, ⟨Nat.le_refl _, Nat.zero_le _, fun _ => rfl⟩, ⟨Nat.le_refl _, Nat.zero_le _, fun _ => rfl⟩, ⟨Nat.le_refl _, Nat.zero_le _, fun _ => rfl⟩⟩
set_option maxHeartbeats 4000000 in
theorem Lost10_any (w : World) (n : Int) : Calls Tryz.prog 96 #[.int .i64 n] w fun e w' => e = .returned (lostV n) ∧ Below w.heap.size w w' := by
 have hb := below_alloc w (.cells #[.int .i64 0, .slice none 0 0, .slice none 0 0, .slice none 0 0, .slice none 0 0, .bool false] 30)
 have k1 := heap_alloc_new w (.cells #[.int .i64 0, .slice none 0 0, .slice none 0 0, .slice none 0 0, .slice none 0 0, .bool false] 30)
 unfold lostV
 go_enter Tryz.func96, Tryz.ntmps96
 go_upto_region 1 with fail
 generalize w.alloc (.cells #[.int .i64 0, .slice none 0 0, .slice none 0 0, .slice none 0 0, .slice none 0 0, .bool false] 30) = W at *
 obtain ⟨y0, y1, y2, y3, y4, y5⟩ := cells6 k1
 have hfr := fun j => frozen_of_row _ _ j _ _ k1
 go_wp2_with fail
 obtain ⟨q1, q2⟩ := set6 k1 (.int .i64 n) (.slice none 0 0) (.slice none 0 0) (.slice none 0 0) (.slice none 0 0) (.bool true)
 obtain ⟨c0, c1, c2, c3, c4, c5⟩ := cells6 q1
 refine bodyPost_ret (v := .agg #[.int .i64 n, .slice none 0 0, .slice none 0 0, .slice none 0 0, .slice none 0 0, .bool true]) (by simp [results, Tryz.results96, go_sem, c0, c1, c2, c3, c4, c5]) rfl ?_
 exact ⟨rfl, hb.trans (below_row q2 (Nat.le_refl _) hb.size)⟩
theorem made_getU (n j : Nat) (h : j < n) : (madeCells #[.int .u64 0] n)[j]? = some (.int .u64 0) := by
 unfold madeCells
 simp [h, Nat.mod_one]
/-- A list of noughts, in a block of its own. -/
def ZerosB (w : World) (g n : Nat) : Prop := w.heap[g]? = some (.cells (madeCells #[.int .u64 0] n) 46 (0, 0))
theorem ZerosB.tat {w : World} {g n : Nat} (h : ZerosB w g n) (hn : n ≤ MAXF) : TAt cU 46 w (some ⟨g, 0, none⟩) n (List.replicate n 0) := by
 refine ⟨⟨fun j x hx => ⟨g, 0, rfl, (Array.getElem?_eq_some_iff.1 h).1, ?_⟩, fun e => (by cases e), by rw [List.length_replicate]; exact Nat.le_refl _, maxF hn⟩, fun a ha => by cases ha; exact ⟨_, h⟩⟩
 have hj := (List.getElem?_eq_some_iff.1 hx).1
 rw [List.length_replicate] at hj
 rw [List.getElem?_replicate, if_pos hj] at hx
 cases hx
 rw [cell_of_row _ _ _ _ _ _ h, Nat.zero_add]
 exact made_getU n j hj
theorem ZerosB.below {w w1 : World} {g n : Nat} (h : ZerosB w g n) (hb : Below w.heap.size w w1) : ZerosB w1 g n := (hb.block g (Array.getElem?_eq_some_iff.1 h).1).trans h
/-- One of its numbers, written. -/
theorem ZerosB.put {w : World} {g n k : Nat} (h : ZerosB w g n) (hn : n ≤ MAXF) (hk : k < n) (u : Nat) : TAt cU 46 (w.setCell ⟨g, k, none⟩ (.int .u64 (u : Int))) (some ⟨g, 0, none⟩) n (unitL n k u) ∧ w.grownBy (w.setCell ⟨g, k, none⟩ (.int .u64 (u : Int))) (some g) := by
 have e1 : (w.setCell ⟨g, k, none⟩ (.int .u64 (u : Int))).heap[g]? = _ := heap_setCell_same w g _ _ _ _ h
 have hl : (unitL n k u).length = n := by unfold unitL; rw [List.length_set, List.length_replicate]
 refine ⟨⟨⟨fun j x hx => ⟨g, 0, rfl, (Array.getElem?_eq_some_iff.1 e1).1, ?_⟩, fun e => (by cases e), by rw [hl]; exact Nat.le_refl _, maxF hn⟩, fun a ha => by cases ha; exact ⟨_, e1⟩⟩, grown_set (grown_refl w (some g)) _ _⟩
 have hj := (List.getElem?_eq_some_iff.1 hx).1
 rw [hl] at hj
 rw [cell_of_row _ _ _ _ _ _ e1, Nat.zero_add, Array.getElem?_setIfInBounds]
 unfold unitL at hx
 rw [List.getElem?_set] at hx
 split at hx
 ·next e =>
  rw [if_pos e, if_pos (by rw [size_madeCells]; omega)]
  rw [if_pos (by rw [List.length_replicate]; omega)] at hx
  cases hx
  rfl
 ·next e =>
  rw [if_neg e, made_getU n j hj]
  rw [List.getElem?_replicate, if_pos hj] at hx
  cases hx
  rfl
theorem ZerosB.cell {w : World} {g n k : Nat} (h : ZerosB w g n) (hk : k < n) : w.cell? ⟨g, k, none⟩ = some (.int .u64 0) ∧ w.frozen? ⟨g, k, none⟩ = false := by
 refine ⟨?_, frozen_of_row w g _ _ _ h⟩
 rw [cell_of_row _ _ _ _ _ _ h]
 exact made_getU n k hk
set_option maxHeartbeats 4000000 in
theorem Size10_any (w : World) (v : Value) (z : ZD) (h : UIs w v z) (hk : ZOk z) :
  Calls Tryz.prog 97 #[v] w fun e w' => e = .returned (.int .i64 (sizeD z)) ∧ Below w.heap.size w w' := by
 obtain ⟨A, B, C, D, kA, kB, kC, kD, rfl, hc⟩ := h
 have hb1 := below_alloc w (.cells #[.int .i64 z.n, .slice A z.c.length kA, .slice B z.ids.length kB, .slice C z.g.length kC, .slice D z.r.length kD, .bool z.bad] 30)
 have hx := heap_alloc_new w (.cells #[.int .i64 z.n, .slice A z.c.length kA, .slice B z.ids.length kB, .slice C z.g.length kC, .slice D z.r.length kD, .bool z.bad] 30)
 have hs1 := World.size_alloc w (.cells #[.int .i64 z.n, .slice A z.c.length kA, .slice B z.ids.length kB, .slice C z.g.length kC, .slice D z.r.length kD, .bool z.bad] 30)
 have hr := Reals_any _ _ z ⟨A, B, C, D, kA, kB, kC, kD, rfl, hc.below hb1⟩ hk
 have hlc := hk.lc
 have hlr := hk.lr
 have hli := hk.li
 have hlg := hk.lg
 unfold MAXF at hlc hlr hli
 unfold MAXG at hlg
 have hem := fun w1 => empty_walk w1 A B C D kA kB kC kD z.c.length z.ids.length z.g.length z.r.length z.n z.bad (by omega) (by omega) (by omega) (by omega)
 have hlost : lostB z.n z.c.length z.ids.length z.g.length z.r.length z.bad = lostD z := rfl
 rw [hlost] at hem
 unfold sizeD
 unfold zval at hr ⊢
 clear hlost hlc hlr hli hlg
 cases hg : goodD z with
 | true =>
  rw [Bool.true_or, if_pos rfl]
  clear hem
  go_enter Tryz.func97, Tryz.ntmps97
  go_wp2_with fail
  refine hr.mono ?_
  rintro e w1 (⟨_, v', rfl, ⟨A', B', C', D', kA', kB', kC', kD', rfl, _⟩, hb⟩ | ⟨hg', rfl, hb⟩)
  ·have hb2 := hb1.trans (hb.mono hb1.size)
   have g0 := (hb.block w.heap.size (by omega)).trans hx
   have hba := below_alloc w1 (.cells #[.int .i64 z.n, .slice A' z.c.length kA', .slice B' z.ids.length kB', .slice C' z.g.length kC', .slice D' z.r.length kD'] 61)
   have k0 := (hba.block _ (Array.getElem?_eq_some_iff.1 g0).1).trans g0
   have HB := Lib.hid (hb2.alloc hb2.size (.cells #[.int .i64 z.n, .slice A' z.c.length kA', .slice B' z.ids.length kB', .slice C' z.g.length kC', .slice D' z.r.length kD'] 61))
   unfold rval
   obtain ⟨x0, x1, x2, x3, x4, x5⟩ := cells6 k0
   clear hr hx hb hb2 hb1 hba g0 k0
   go_wp2_with fail
   go_ret
   exact ⟨rfl, HB.out⟩
  ·rw [hg] at hg'
   cases hg'
 | false =>
  rw [Bool.false_or]
  generalize lostD z = lz at hem ⊢
  go_enter Tryz.func97, Tryz.ntmps97
  go_wp2_with fail
  refine hr.mono ?_
  rintro e w1 (⟨hg', v', rfl, _, hb⟩ | ⟨_, rfl, hb⟩)
  ·rw [hg] at hg'
   cases hg'
  ·have hb2 := hb1.trans (hb.mono hb1.size)
   have hsz := hb.size
   have g0 := (hb.block w.heap.size (by omega)).trans hx
   have hb3 := hb2.alloc hb2.size (.cells #[.int .i64 0, .slice none 0 0, .slice none 0 0, .slice none 0 0, .slice none 0 0] 61)
   have k0 : (w1.alloc (.cells #[.int .i64 0, .slice none 0 0, .slice none 0 0, .slice none 0 0, .slice none 0 0] 61)).heap[w.heap.size]? = _ := (Below.heap_alloc _ _ _ (by omega)).trans g0
   have hem1 := hem (w1.alloc (.cells #[.int .i64 0, .slice none 0 0, .slice none 0 0, .slice none 0 0, .slice none 0 0] 61))
   obtain ⟨x0, x1, x2, x3, x4, x5⟩ := cells6 k0
   unfold noReal
   clear hr hx hb hem g0
   go_wp2_with fail
   refine hem1.mono ?_
   rintro e w3 ⟨rfl, hb4⟩
   have k3 := (hb4.block _ (Array.getElem?_eq_some_iff.1 k0).1).trans k0
   clear hem1 x0 x1 x2 x3 x4 x5 k0
   obtain ⟨x0, x1, x2, x3, x4, x5⟩ := cells6 k3
   have HB := Lib.hid (hb3.trans (hb4.mono hb3.size))
   cases lz with
   | true =>
    go_wp2_with fail
    go_ret
    exact ⟨rfl, HB.out⟩
   | false =>
    go_wp2_with fail
    go_ret
    exact ⟨rfl, HB.out⟩
end Go.Proofs.YtpfbgenefjhcjaaGreatDoor
