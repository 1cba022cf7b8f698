/- ambitref10.column: the numbers that an Id has; noughts, if it is none of them. -/
import Derived.Test.YtpfbgenefjhcjaaGreatDoorZoPlusL
import Derived.Test.YtpfbgenefjhcjaaGreatDoorPZoRct
namespace Go.Proofs.YtpfbgenefjhcjaaGreatDoor
set_option linter.unusedVariables false
set_option linter.unusedSimpArgs false
open Go Go.RowKit
set_option maxRecDepth 100000
theorem made3 (a b c : Value) (n j : Nat) (hj : j < n) : (madeCells #[a, b, c] (n * 3))[j * 3]? = some a ∧ (madeCells #[a, b, c] (n * 3))[j * 3 + 1]? = some b ∧ (madeCells #[a, b, c] (n * 3))[j * 3 + 2]? = some c := by
 have h0 : j * 3 < n * 3 := by omega
 have h1 : j * 3 + 1 < n * 3 := by omega
 have h2 : j * 3 + 2 < n * 3 := by omega
 have m0 : j * 3 % 3 = 0 := by omega
 have m1 : (j * 3 + 1) % 3 = 1 := by omega
 have m2 : (j * 3 + 2) % 3 = 2 := by omega
 unfold madeCells
 refine ⟨?_, ?_, ?_⟩
 ·rw [Array.getElem?_map, Array.getElem?_range, if_pos h0]; show some (#[a, b, c][j * 3 % 3]!) = _; rw [m0]; rfl
 ·rw [Array.getElem?_map, Array.getElem?_range, if_pos h1]; show some (#[a, b, c][(j * 3 + 1) % 3]!) = _; rw [m1]; rfl
 ·rw [Array.getElem?_map, Array.getElem?_range, if_pos h2]; show some (#[a, b, c][(j * 3 + 2) % 3]!) = _; rw [m2]; rfl
theorem make_nums (n : Nat) (hn : n ≤ 1000000) (w : World) : (Instr.makeSlice 58 (.int .i64 (n : Int)) (.int .i64 (n : Int))).run Tryz.prog w = .ok (.slice (some ⟨w.heap.size, 0, none⟩) n n) (w.alloc (.cells (madeCells #[.bool false, .slice none 0 0, .int .i64 0] (n * 3)) 70)) := by
 obtain ⟨i0, hi0, hz0, hz1, hz2⟩ := info_parts infoNum
 have hr := run_make (P := Tryz.prog) w 58 70 i0 _ Tryz.underlying58 hi0 hz0 .i64 .i64 n n (by omega) (Int.le_refl _) (by rw [hz2]; omega) (by omega)
 simp only [Int.toNat_natCast] at hr
 rw [hz1] at hr
 exact hr
theorem NV.zero_any (lo hi : Int) (h1 : lo ≤ 0) (h2 : 0 ≤ hi) (W : World) : NumR lo hi W ⟨false, none, 0, 0, 0⟩ 0 := ⟨(NV.zero_r W).is, h1, h2⟩
theorem nums_zero (lo hi : Int) (hlo : lo ≤ 0) (hhi : 0 ≤ hi) (w : World) (n : Nat) (hn : n ≤ 1000000) : NLt lo hi (w.alloc (.cells (madeCells #[.bool false, .slice none 0 0, .int .i64 0] (n * 3)) 70)) (some ⟨w.heap.size, 0, none⟩) n (List.replicate n 0) := by
 have hx := heap_alloc_new w (.cells (madeCells #[.bool false, .slice none 0 0, .int .i64 0] (n * 3)) 70)
 refine ⟨fun j z hz => ?_, by simp, by unfold maxLen; omega, fun a ha => by cases ha; exact ⟨_, hx⟩⟩
 have hj : j < n := by have := (List.getElem?_eq_some_iff.1 hz).1; rw [List.length_replicate] at this; exact this
 have hz0 : z = 0 := List.eq_of_mem_replicate (List.mem_of_getElem? hz)
 subst hz0
 obtain ⟨h0, h1, h2⟩ := made3 (.bool false) (.slice none 0 0) (.int .i64 0) n j hj
 refine ⟨w.heap.size, 0, ⟨false, none, 0, 0, 0⟩, rfl, by simp, ?_, ?_, ?_, NV.zero_any lo hi hlo hhi _⟩
 ·rw [cell_of_row _ _ _ _ _ _ hx, Nat.zero_add]; exact h0
 ·rw [cell_of_row _ _ _ _ _ _ hx, Nat.zero_add]; exact h1
 ·rw [cell_of_row _ _ _ _ _ _ hx, Nat.zero_add]; exact h2
theorem idx_at {z : ZD} (hz : Good z) {i : Int} {k : Nat} (h : z.ids[k]? = some i) : idxOf z.ids i = some k := by
 cases hi : idxOf z.ids i with
 | none => exact absurd rfl (idx_none hi i (List.mem_of_getElem? h))
 | some m =>
  obtain ⟨_, h2⟩ := idx_some hi
  rcases Nat.lt_trichotomy m k with h1 | h1 | h1
  ·exact absurd (ids_lt hz k i h m i h1 h2) (Int.lt_irrefl _)
  ·rw [h1]
  ·exact absurd (ids_lt hz m i h2 k i h1 h) (Int.lt_irrefl _)
theorem idx_miss {ids : List Int} {i : Int} (h : ∀ (j : Nat) (x : Int), ids[j]? = some x → x ≠ i) : idxOf ids i = none := by
 cases hi : idxOf ids i with
 | none => rfl
 | some m => exact absurd rfl (h m i (idx_some hi).2)
set_option maxHeartbeats 4000000 in
theorem column_any (w : World) (A B C D : Option Addr) (kA kB kC kD : Nat) (z : ZD) (i : Int) (n : Nat) (h : RealC w z A B C D kA kB kC kD) (hz : Good z) (hn : z.n = (n : Int)) :
  Calls Tryz.prog 103 #[rval z A B C D kA kB kC kD, .int .i64 i] w fun e w' => ∃ A' cap', e = .returned (.slice A' n cap') ∧ NLt (-1074) 971 w' A' cap' ((colI z n i).map fz) ∧ Below w.heap.size w w' := by
 have hN2 := hz.n2
 have HL := Lib.hid hz.len
 have hcols := hz.cols
 have hil : z.ids.length ≤ 2147483650 := by have := HL.out; omega
 have hb1 := below_alloc w (.cells #[.int .i64 z.n, .slice A z.c.length kA, .slice B z.ids.length kB, .slice C z.g.length kC, .slice D z.r.length kD] 61)
 have hx := heap_alloc_new w (.cells #[.int .i64 z.n, .slice A z.c.length kA, .slice B z.ids.length kB, .slice C z.g.length kC, .slice D z.r.length kD] 61)
 have h1 := h.below hb1
 unfold rval
 rw [hn] at hx hb1 h1 ⊢
 go_enter Tryz.func103, Tryz.ntmps103
 go_wp2_with fail
 generalize w.alloc (.cells #[.int .i64 (n : Int), .slice A z.c.length kA, .slice B z.ids.length kB, .slice C z.g.length kC, .slice D z.r.length kD] 61) = W1 at *
 go_loopw [5] (fun kk wr => ∃ k : Nat, k ≤ z.ids.length ∧ kk = .int .i64 (k : Nat) ∧ (∀ (j : Nat) (x : Int), j < k → z.ids[j]? = some x → x ≠ i) ∧ Below W1.heap.size W1 wr) (fun kk _ => z.ids.length - (intOf kk).toNat)
 case atStart => exact ⟨0, Nat.zero_le _, rfl, fun j x hj => absurd hj (Nat.not_lt_zero _), Below.refl _ _⟩
 case round =>
  obtain ⟨k, hk, rfl, hne, hB⟩ := hrel
  have hxr := (hB.block _ (Array.getElem?_eq_some_iff.1 hx).1).trans hx
  obtain ⟨x0, x1, x2, x3, x4⟩ := cells5 hxr
  have hBw := hb1.trans (hB.mono hb1.size)
  have HNE := Lib.hid hne
  clear hne
  by_cases hlt : k < z.ids.length
  ·have hlt' : (k : Int) < (z.ids.length : Int) := by omega
   obtain ⟨x, hxk⟩ := get_some z.ids k hlt
   obtain ⟨b, o, rfl, hb, c0⟩ := h1.ids.row.at hB k x hxk
   replace c0 : wr.cell? ⟨b, o + k, none⟩ = some (.int .i64 x) := c0
   have HX := Lib.hid hxk
   clear hxk
   by_cases hxi : x = i
   ·have hxi' : (x == i) = true := beq_iff_eq.2 hxi
    have hgm : (z.g.map fun g => g.map fz)[k]? = some ((colZ z k).map fz) := by
     have : z.g[k]? = some (colZ z k) := by unfold colZ; rw [List.getD_eq_getElem?_getD, List.getElem?_eq_getElem (by have := HL.out; omega), Option.getD_some]
     rw [List.getElem?_map, this]
     rfl
    obtain ⟨bc, oc, rfl, hbc, B', cap', hc', hnl⟩ := (h1.g.below hB) k _ hgm
    have hcl : (colZ z k).length = n := by
     have : z.g[k]? = some (colZ z k) := by unfold colZ; rw [List.getD_eq_getElem?_getD, List.getElem?_eq_getElem (by have := HL.out; omega), Option.getD_some]
     have := (hz.colG k _ this).2
     omega
    rw [List.length_map, hcl] at hc'
    have HC := Lib.hid (show (colI z n i) = colZ z k by unfold colI; rw [idx_at hz (hxi ▸ HX.out)])
    have hlg : (k : Int) < (z.g.length : Int) := by have := HL.out; omega
    clear hgm
    go_wp2_with fail
    go_ret
    exact ⟨_, _, rfl, by rw [HC.out]; exact hnl, hBw⟩
   ·have hxi' : (x == i) = false := beq_eq_false_iff_ne.2 hxi
    go_wp2_with fail
    go_roundw
    case rel => exact ⟨k + 1, by omega, by go_num, fun j y hj hy => by
     rcases Nat.lt_or_ge j k with h2 | h2
     ·exact HNE.out j y h2 hy
     ·obtain rfl : j = k := by omega
      rw [HX.out] at hy
      cases hy
      exact hxi, hB⟩
    case measure => simp [intOf]; omega
  ·obtain rfl : k = z.ids.length := by omega
   have hlt' : decide (((z.ids.length : Nat) : Int) < (z.ids.length : Nat)) = false := by simp
   have hmk := make_nums n (by omega)
   have hnz := nums_zero (-1074) 971 (by decide) (by decide) wr n (by omega)
   have hba := below_alloc wr (.cells (madeCells #[.bool false, .slice none 0 0, .int .i64 0] (n * 3)) 70)
   have HC := Lib.hid (show (colI z n i).map fz = List.replicate n 0 by unfold colI; rw [idx_miss fun j x hjx => HNE.out j x (List.getElem?_eq_some_iff.1 hjx).1 hjx]; rw [List.map_replicate, fz_zero])
   go_wp2_with fail
   go_ret
   exact ⟨_, _, rfl, by rw [HC.out]; exact hnz, hBw.trans (hba.mono hBw.size)⟩
end Go.Proofs.YtpfbgenefjhcjaaGreatDoor
