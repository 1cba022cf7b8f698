/- law10.lists: all lists of numbers of some zonotopes. -/
import Derived.Test.YtpfbgenefjhcjaaGreatDoorZoRefLow
namespace Go.Proofs.YtpfbgenefjhcjaaGreatDoor
set_option linter.unusedVariables false
set_option linter.unusedSimpArgs false
open Go Go.RowKit
set_option maxRecDepth 100000
/-- Of a zonotope in a row: its lists of numbers, as slices. -/
structure ZL where
 Ac : Option Addr
 nc : Nat
 cc : Nat
 Ar : Option Addr
 nr : Nat
 cr : Nat
 Ag : Option Addr
 cg : Nat
 vals : List Value
def ZL.all (x : ZL) : List Value := .slice x.Ac x.nc x.cc :: .slice x.Ar x.nr x.cr :: x.vals
structure ZLAt (w : World) (g o : Nat) (x : ZL) : Prop where
 c : w.cell? ⟨g, o + 1, none⟩ = some (.slice x.Ac x.nc x.cc)
 gs : w.cell? ⟨g, o + 3, none⟩ = some (.slice x.Ag x.vals.length x.cg)
 r : w.cell? ⟨g, o + 4, none⟩ = some (.slice x.Ar x.nr x.cr)
 row : LAt cV w x.Ag x.cg x.vals
 one : ∀ v ∈ x.vals, v.oneCell' = true
def ZLRow (w : World) (A : Option Addr) (xs : List ZL) : Prop := ∀ (j : Nat) (x : ZL), xs[j]? = some x → ∃ g o : Nat, A = some ⟨g, o, none⟩ ∧ g < w.heap.size ∧ ZLAt w g (o + j * 6) x
theorem news_twoV {w : World} {g : Nat} {t : TypeId} {x y : Value} (h : w.heap[g]? = some (.cells #[x, y] t (0, 0))) : ∀ j u, (([x, y] : List Value).flatMap fun x => [cV x])[j]? = some u → w.cell? ((⟨g, 0, none⟩ : Addr).add j) = some u := fun j u hu => by
 rw [addr_add, cell_of_row _ _ _ _ _ _ h]
 match j, hu with
 | 0, hu => cases hu; rfl
 | 1, hu => cases hu; rfl
 | (j + 2), hu => simp at hu
def allZ (xs : List ZL) : List Value := xs.flatMap ZL.all
theorem allZ_more (xs : List ZL) (k : Nat) (x : ZL) (h : xs[k]? = some x) : allZ (xs.take (k + 1)) = allZ (xs.take k) ++ [.slice x.Ac x.nc x.cc, .slice x.Ar x.nr x.cr] ++ x.vals := by
 unfold allZ
 rw [take_more xs k x h, List.flatMap_append, List.append_assoc]
 simp [ZL.all]
theorem allZ_le (xs : List ZL) (k : Nat) : (allZ (xs.take k)).length ≤ (allZ xs).length := by
 conv => rhs; rw [← List.take_append_drop k xs]
 unfold allZ
 rw [List.flatMap_append, List.length_append]
 exact Nat.le_add_right _ _
set_option maxHeartbeats 4000000 in
theorem lists_any (w : World) (A : Option Addr) (n cap : Nat) (xs : List ZL) (h : ZLRow w A xs) (hl : xs.length = n) (hn : n ≤ 1000000) (hm : (allZ xs).length ≤ 5864062014700) :
  Calls Tryz.prog 53 #[.slice A n cap] w fun e w' => ∃ v, e = .returned v ∧ OwnG (fun x => [cV x]) 22 1 w' w.heap.size v (allZ xs) ∧ Below w.heap.size w w' := by
 have HL := Lib.hid hl
 have hn' : n ≤ xs.length := by omega
 clear hl
 go_enter Tryz.func53, Tryz.ntmps53
 go_wp2_with fail
 go_loopw [3, 4] (fun v i wr => ∃ k : Nat, k ≤ n ∧ i = .int .i64 (k : Nat) ∧ AppR (fun x => [cV x]) 22 1 w wr v (allZ (xs.take k))) (fun _ i _ => n - (intOf i).toNat)
 case atStart => exact ⟨0, Nat.zero_le _, rfl, AppR.nil w⟩
 case round =>
  obtain ⟨k, hk, rfl, hr⟩ := hrel
  by_cases hlt : k < n
  ·have hlt' : (k : Int) < (n : Int) := by omega
   obtain ⟨x, hxk⟩ := get_some xs k (by omega)
   obtain ⟨g, o, rfl, hg, hx⟩ := h k x hxk
   have HA := Lib.hid (allZ_more xs k x hxk)
   have hle := allZ_le xs (k + 1)
   rw [allZ_more xs k x hxk, List.length_append, List.length_append] at hle
   have hlen : (allZ (xs.take k)).length + 2 + x.vals.length ≤ 5864062014700 := by
    have e : ([Value.slice x.Ac x.nc x.cc, Value.slice x.Ar x.nr x.cr] : List Value).length = 2 := rfl
    omega
   clear hxk hle
   generalize allZ (xs.take k) = us at *
   go_wp2_with fail
   have hS : ∀ W', Below w.heap.size w W' → (fun w' => w'.cell? ⟨g, o + k * 6 + 1, none⟩ = some (.slice x.Ac x.nc x.cc) ∧ w'.cell? ⟨g, o + k * 6 + 4, none⟩ = some (.slice x.Ar x.nr x.cr)) W' := fun W' hb => ⟨(hb.cell (p := ⟨g, o + k * 6 + 1, none⟩) hg).trans hx.c, (hb.cell (p := ⟨g, o + k * 6 + 4, none⟩) hg).trans hx.r⟩
   have hd := hr.2.drew
   refine late_begin (fun w' => w'.cell? ⟨g, o + k * 6 + 1, none⟩ = some (.slice x.Ac x.nc x.cc) ∧ w'.cell? ⟨g, o + k * 6 + 4, none⟩ = some (.slice x.Ar x.nr x.cr)) [] (by kernel_rfl) ?_
   refine late_take (i := 0) (v := ?_) (some 11) rfl rfl (by kernel_rfl) (by kernel_rfl) (by kernel_rfl) (by kernel_rfl) (fun _ _ _ h => h) (by kernel_rfl) (hS _ hd) ?_ ?_
   rotate_left
   ·(intro w hSw; (try dsimp only at hSw); go_simp; try rfl)
   try simp only [Act.put, List.setIfInBounds_toArray, List.set_cons_zero, List.set_cons_succ]
   refine late_take (i := 1) (v := ?_) (some 12) rfl rfl (by kernel_rfl) (by kernel_rfl) (by kernel_rfl) (by kernel_rfl) (fun _ _ _ h => h) (by kernel_rfl) (hS _ hd) ?_ ?_
   rotate_left
   ·(intro w hSw; (try dsimp only at hSw); go_simp; try rfl)
   try simp only [Act.put, List.setIfInBounds_toArray, List.set_cons_zero, List.set_cons_succ]
   refine late_take (i := 2) (v := ?_) (some 13) rfl rfl (by kernel_rfl) (by kernel_rfl) (by kernel_rfl) (by kernel_rfl) (fun _ _ _ h => h) (by kernel_rfl) (hS _ hd) ?_ ?_
   rotate_left
   ·(intro w hSw; (try dsimp only at hSw); go_simp; try rfl)
   try simp only [Act.put, List.setIfInBounds_toArray, List.set_cons_zero, List.set_cons_succ]
   refine late_take (i := 3) (v := ?_) (some 14) rfl rfl (by kernel_rfl) (by kernel_rfl) (by kernel_rfl) (by kernel_rfl) (fun _ _ _ h => h) (by kernel_rfl) (hS _ hd) ?_ ?_
   rotate_left
   ·(intro w hSw; (try dsimp only at hSw); go_simp; try rfl)
   try simp only [Act.put, List.setIfInBounds_toArray, List.set_cons_zero, List.set_cons_succ]
   refine late_take (i := 4) (v := ?_) (some 15) rfl rfl (by kernel_rfl) (by kernel_rfl) (by kernel_rfl) (by kernel_rfl) (fun _ _ _ h => h) (by kernel_rfl) (hS _ hd) ?_ ?_
   rotate_left
   ·(intro w hSw; (try dsimp only at hSw); go_simp; try rfl)
   try simp only [Act.put, List.setIfInBounds_toArray, List.set_cons_zero, List.set_cons_succ]
   refine late_take (i := 5) (v := ?_) (some 16) rfl rfl (by kernel_rfl) (by kernel_rfl) (by kernel_rfl) (by kernel_rfl) (fun _ _ _ h => h) (by kernel_rfl) (hS _ hd) ?_ ?_
   rotate_left
   ·(intro w hSw; (try dsimp only at hSw); go_simp; try rfl)
   try simp only [Act.put, List.setIfInBounds_toArray, List.set_cons_zero, List.set_cons_succ]
   refine late_take (i := 6) (v := ?_) (some 17) rfl rfl (by kernel_rfl) (by kernel_rfl) (by kernel_rfl) (by kernel_rfl) (fun _ _ _ h => h) (by kernel_rfl) (hS _ hd) ?_ ?_
   rotate_left
   ·(intro w hSw; (try dsimp only at hSw); go_simp; try rfl)
   try simp only [Act.put, List.setIfInBounds_toArray, List.set_cons_zero, List.set_cons_succ]
   refine late_take (i := 7) (v := ?_) (some 18) rfl rfl (by kernel_rfl) (by kernel_rfl) (by kernel_rfl) (by kernel_rfl) (fun _ _ _ h => h) (by kernel_rfl) (hS _ hd) ?_ ?_
   rotate_left
   ·(intro w hSw; (try dsimp only at hSw); go_simp; try rfl)
   try simp only [Act.put, List.setIfInBounds_toArray, List.set_cons_zero, List.set_cons_succ]
   refine late_take (i := 8) (v := ?_) (some 19) rfl rfl (by kernel_rfl) (by kernel_rfl) (by kernel_rfl) (by kernel_rfl) (fun _ _ _ h => h) (by kernel_rfl) (hS _ hd) ?_ ?_
   rotate_left
   ·(intro w hSw; (try dsimp only at hSw); go_simp; try rfl)
   try simp only [Act.put, List.setIfInBounds_toArray, List.set_cons_zero, List.set_cons_succ]
   refine late_take (i := 9) (v := ?_) (some 20) rfl rfl (by kernel_rfl) (by kernel_rfl) (by kernel_rfl) (by kernel_rfl) (fun _ _ _ h => h) (by kernel_rfl) (hS _ hd) ?_ ?_
   rotate_left
   ·(intro w hSw; (try dsimp only at hSw); go_simp; try rfl)
   try simp only [Act.put, List.setIfInBounds_toArray, List.set_cons_zero, List.set_cons_succ]
   refine late_take (i := 10) (v := ?_) (some 21) rfl rfl (by kernel_rfl) (by kernel_rfl) (by kernel_rfl) (by kernel_rfl) (fun _ _ _ h => h) (by kernel_rfl) (hS _ hd) ?_ ?_
   rotate_left
   ·(intro w hSw; (try dsimp only at hSw); go_simp; try rfl)
   try simp only [Act.put, List.setIfInBounds_toArray, List.set_cons_zero, List.set_cons_succ]
   refine late_one (i := 11) rfl (by kernel_rfl) ?_
   intro K hK
   go_simp
   have hA := hr.drew.alloc (.cells #[.slice x.Ac x.nc x.cc, .slice x.Ar x.nr x.cr] 22)
   have hn := World.alloc_heap_new wr.drew (.cells #[.slice x.Ac x.nc x.cc, .slice x.Ar x.nr x.cr] 22)
   have hA2 := hA.2
   try show K _ _
   refine hK.out _ _ (Or.inr (hS _ hA2)) ?_
   clear hK K
   try simp only [Act.put, List.setIfInBounds_toArray, List.set_cons_zero, List.set_cons_succ]
   refine late_one (i := 12) rfl (by kernel_rfl) ?_
   intro K hK
   refine step_append_g (fun x => [cV x]) 1 24 (.slice none 0 0) 24 22 Tryz.underlying24 infoLF rfl (by decide) (fun _ => rfl) rfl _ _ rfl w.heap.size _ _ [.slice x.Ac x.nc x.cc, .slice x.Ar x.nr x.cr] rfl hA.1 ⟨wr.heap.size, 0, none⟩ 2 2 rfl rfl (news_twoV hn) (by unfold maxLen; omega) (by omega) hA.size (fun y hy u hu => by simp at hy; rcases hy with rfl | rfl <;> (simp at hu; subst hu; rfl)) ?_
   intro v4 w4 ho4 hg4 _
   have hl5 : (us ++ [Value.slice x.Ac x.nc x.cc, Value.slice x.Ar x.nr x.cr]).length = us.length + 2 := by rw [List.length_append]; rfl
   obtain ⟨A4, c4, hv4, _⟩ := ho4.lat
   rw [hl5] at hv4
   subst hv4
   have hr4 := hA.add ho4 hg4
   have hr42 := hr4.2
   clear ho4 hg4
   try show K _ _
   refine hK.out _ _ (Or.inr (hS _ hr42)) ?_
   clear hK K
   try simp only [Act.put, List.setIfInBounds_toArray, List.set_cons_zero, List.set_cons_succ]
   refine late_take (i := 13) (v := ?_) (some 3) rfl rfl (by kernel_rfl) (by kernel_rfl) (by kernel_rfl) (by kernel_rfl) (fun _ _ _ h => h) (by kernel_rfl) (hS _ hr42) ?_ ?_
   rotate_left
   ·(intro w hSw; (try dsimp only at hSw); go_simp; try rfl)
   try simp only [Act.put, List.setIfInBounds_toArray, List.set_cons_zero, List.set_cons_succ]
   refine late_done (by kernel_rfl) ?_ _
   have hx3 := (hr4.2.cell (p := ⟨g, o + k * 6 + 3, none⟩) hg).trans hx.gs
   have hrow := hx.row.row.below (Nat.le_refl _) hr4.2
   clear hS hd hA2 hn hr42
   go_wp2_with (at_builtin; refine wpList_append_came (fun x => [cV x]) 1 24 (.slice none 0 0) 24 22 Tryz.underlying24 infoLF rfl (by decide) (fun _ => rfl) rfl (.tmp 24) (.tmp 29) rfl w.heap.size _ (us ++ [Value.slice x.Ac x.nc x.cc, Value.slice x.Ar x.nr x.cr]) x.vals rfl hr4.1 x.Ag x.vals.length x.cg rfl rfl hx.row.nil hrow.news hx.row.len (by rw [hl5]; unfold maxLen; omega) (by rw [hl5]; omega) hr4.size (fun y hy u hu => by rw [List.mem_singleton.1 hu]; exact hx.one y hy) ?_; intro v6 w6 ho6 hg6 _; have hr6 := hr4.add ho6 hg6; clear ho6 hg6)
   go_roundw
   case rel => exact ⟨k + 1, by omega, by go_num, by rw [HA.out]; exact hr6⟩
   case measure => simp [intOf]; omega
  ·obtain rfl : k = n := by omega
   have hlt' : decide ((k : Int) < (k : Nat)) = false := by simp
   have HR : Hid (AppR (fun x => [cV x]) 22 1 w wr u3 (allZ xs)) := Lib.hid (by
    have h1 := hr
    rw [List.take_of_length_le (by have := HL.out; omega)] at h1
    exact h1)
   clear hr
   go_wp2_with fail
   go_ret
   exact ⟨_, rfl, HR.out.1, HR.out.2⟩
end Go.Proofs.YtpfbgenefjhcjaaGreatDoor
