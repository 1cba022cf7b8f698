/- ambitref10.merged: all Ids of two rising lists, rising. -/
import Derived.Test.YtpfbgenefjhcjaaGreatDoorZoUnion
namespace Go.Proofs.YtpfbgenefjhcjaaGreatDoor
set_option linter.unusedVariables false
set_option linter.unusedSimpArgs false
open Go Go.RowKit
set_option maxRecDepth 100000
/-- All Ids, as the document reckons them. -/
def mergeD : List Int → List Int → List Int
 | [], b => b
 | x :: a, [] => x :: mergeD a []
 | x :: a, y :: b => if x < y then x :: mergeD a (y :: b) else if y < x then y :: mergeD (x :: a) b else x :: mergeD a b
termination_by a b => a.length + b.length
theorem merge_nil (b : List Int) : mergeD [] b = b := by rw [mergeD]
theorem merge_left (x : Int) (a : List Int) : mergeD (x :: a) [] = x :: mergeD a [] := by rw [mergeD]
theorem merge_right (y : Int) (b : List Int) : mergeD [] (y :: b) = y :: mergeD [] b := by rw [mergeD, mergeD]
theorem merge_lt {x y : Int} (a b : List Int) (h : x < y) : mergeD (x :: a) (y :: b) = x :: mergeD a (y :: b) := by rw [mergeD, if_pos h]
theorem merge_gt {x y : Int} (a b : List Int) (h : ¬ x < y) (h' : y < x) : mergeD (x :: a) (y :: b) = y :: mergeD (x :: a) b := by rw [mergeD, if_neg h, if_pos h']
theorem merge_eq {x y : Int} (a b : List Int) (h : ¬ x < y) (h' : ¬ y < x) : mergeD (x :: a) (y :: b) = x :: mergeD a b := by rw [mergeD, if_neg h, if_neg h']
/-- Of two rising lists zono reckons the same. -/
theorem union_merge : ∀ (a b : List Int), a.Pairwise (· < ·) → unionD a b = mergeD a b := by
 intro a b
 fun_induction unionD a b with
 | case1 b => intro _; rw [merge_nil]
 | case2 x a ih => intro h; rw [merge_left, ih (List.pairwise_cons.1 h).2]
 | case3 x a y b h1 ih => intro h; rw [merge_lt _ _ h1, ih (List.pairwise_cons.1 h).2]
 | case4 x a y b h1 h2 ih => intro h; rw [merge_gt _ _ h1 h2, ih h]
 | case5 x a y b h1 h2 ih =>
  intro h
  rw [merge_eq _ _ h1 h2]
  have hp := List.pairwise_cons.1 h
  have hxy : x = y := by omega
  subst hxy
  rw [ih hp.2]
  cases a with
  | nil => rw [merge_right]
  | cons z a =>
   have hz := hp.1 z List.mem_cons_self
   rw [merge_gt _ _ (by omega) hz]
theorem drop_some {l : List Int} {i : Nat} {x : Int} (h : l[i]? = some x) : l.drop i = x :: l.drop (i + 1) := by
 obtain ⟨h1, h2⟩ := List.getElem?_eq_some_iff.1 h
 rw [List.drop_eq_getElem_cons h1, h2]
theorem drop_end {l : List Int} {n : Nat} (h : l.length = n) : l.drop n = [] := List.drop_eq_nil_of_le (by omega)
set_option maxHeartbeats 4000000 in
theorem merged_any (w : World) (A B : Option Addr) (ca cb na nb : Nat) (a b : List Int) (ha : IR w A a) (hb : IR w B b) (hna : a.length = na) (hnb : b.length = nb) (hm : na + nb ≤ 4294967296) :
  Calls Tryz.prog 102 #[.slice A na ca, .slice B nb cb] w fun e w' => ∃ A' cap', e = .returned (.slice A' (mergeD a b).length cap') ∧ TAt cI 3 w' A' cap' (mergeD a b) ∧ Below w.heap.size w w' := by
 go_enter Tryz.func102, Tryz.ntmps102
 go_wp2_with fail
 go_loopw [5, 6, 7] (fun v vi vk wr => ∃ (i k : Nat) (us : List Int), i ≤ na ∧ k ≤ nb ∧ vi = .int .i64 (i : Nat) ∧ vk = .int .i64 (k : Nat) ∧ OwnG (fun x => [cI x]) 3 1 wr w.heap.size v us ∧ us ++ mergeD (a.drop i) (b.drop k) = mergeD a b ∧ us.length ≤ i + k ∧ Below w.heap.size w wr) (fun _ vi vk _ => (na - (intOf vi).toNat) + (nb - (intOf vk).toNat))
 case atStart => exact ⟨0, 0, [], Nat.zero_le _, Nat.zero_le _, rfl, rfl, OwnG.nil _ _, rfl, Nat.zero_le _, Below.refl _ _⟩
 case round =>
  obtain ⟨i, k, us, hi, hk, rfl, rfl, hov, hun, hlen, hB⟩ := hrel
  by_cases hia : i < na
  ·have hia' : decide ((i : Int) < (na : Int)) = true := decide_eq_true (by omega)
   have hia0 : (i : Int) < (na : Int) := by omega
   obtain ⟨x, hx⟩ := get_some a i (by omega)
   obtain ⟨b1, o1, rfl, hl1, c1⟩ := R1.at ha hB i x hx
   replace c1 : wr.cell? ⟨b1, o1 + i, none⟩ = some (.int .i64 x) := c1
   replace hl1 := Nat.lt_of_lt_of_le hl1 hB.size
   rw [drop_some hx] at hun
   by_cases hkb : k < nb
   ·have hkb' : decide ((k : Int) < (nb : Int)) = true := decide_eq_true (by omega)
    have hkb0 : (k : Int) < (nb : Int) := by omega
    have hke : decide ((k : Int) = (nb : Int)) = false := decide_eq_false (by omega)
    have hkeN : ((k : Int) == (nb : Int)) = false := beq_eq_false_iff_ne.2 (by omega)
    have hie : decide ((i : Int) = (na : Int)) = false := decide_eq_false (by omega)
    have hieN : ((i : Int) == (na : Int)) = false := beq_eq_false_iff_ne.2 (by omega)
    obtain ⟨y, hy⟩ := get_some b k (by omega)
    obtain ⟨b2, o2, rfl, hl2, c2⟩ := R1.at hb hB k y hy
    replace c2 : wr.cell? ⟨b2, o2 + k, none⟩ = some (.int .i64 y) := c2
    replace hl2 := Nat.lt_of_lt_of_le hl2 hB.size
    rw [drop_some hy] at hun
    by_cases hxy : x < y
    ·have hxy' : decide (x < y) = true := decide_eq_true hxy
     go_wp2_with fail
     go_quiet (fail)
     replace hov := OwnG.drewN hov nq
     replace hB := below_drewN' hB nq
     replace c1 : (wr.drewN nq).cell? ⟨b1, o1 + i, none⟩ = some (.int .i64 x) := c1
     replace c2 : (wr.drewN nq).cell? ⟨b2, o2 + k, none⟩ = some (.int .i64 y) := c2
     generalize wr.drewN nq = Wq at *
     obtain ⟨wr, hwr⟩ : ∃ W, W = Wq := ⟨_, rfl⟩
     subst hwr
     clear nq
     have hov' := OwnG.alloc hov (.cells #[.int .i64 x] 3)
     have hBa := hB.trans ((below_alloc wr (.cells #[.int .i64 x] 3)).mono hB.size)
     have hszv := hBa.size
     clear hov
     go_wp2_with (at_builtin; refine wpList_app1 cI 8 (.int .i64 0) 23 3 Tryz.underlying23 infoInt rfl rfl (.tmp 51) (.tmp 56) rfl w.heap.size _ us x (.int .i64 x) _ rfl rfl hov' rfl rfl (cell_new0 _ _ 3) (by omega) (by omega) hszv ?_; intro v5 w5 ho5 hg5 _; have hbel5 := hBa.trans (below_ownG hov' hg5 hszv); clear hov' hg5)
     go_roundw
     case rel => exact ⟨i + 1, k, us ++ [x], by omega, by omega, by go_num, by go_num, ho5, by rw [List.append_assoc]; rw [merge_lt (x := x) (y := y) _ _ (by omega), ← drop_some hy] at hun; exact hun, by rw [List.length_append, List.length_singleton]; omega, hbel5⟩
     case measure => simp [intOf]; omega
    ·have hxy' : decide (x < y) = false := decide_eq_false hxy
     by_cases hyx : y < x
     ·have hyx' : decide (y < x) = true := decide_eq_true hyx
      go_wp2_with fail
      go_quiet (fail)
      replace hov := OwnG.drewN hov nq
      replace hB := below_drewN' hB nq
      replace c1 : (wr.drewN nq).cell? ⟨b1, o1 + i, none⟩ = some (.int .i64 x) := c1
      replace c2 : (wr.drewN nq).cell? ⟨b2, o2 + k, none⟩ = some (.int .i64 y) := c2
      generalize wr.drewN nq = Wq at *
      obtain ⟨wr, hwr⟩ : ∃ W, W = Wq := ⟨_, rfl⟩
      subst hwr
      clear nq
      go_wp2_with fail
      go_quiet (fail)
      replace hov := OwnG.drewN hov nq
      replace hB := below_drewN' hB nq
      replace c1 : (wr.drewN nq).cell? ⟨b1, o1 + i, none⟩ = some (.int .i64 x) := c1
      replace c2 : (wr.drewN nq).cell? ⟨b2, o2 + k, none⟩ = some (.int .i64 y) := c2
      generalize wr.drewN nq = Wq at *
      obtain ⟨wr, hwr⟩ : ∃ W, W = Wq := ⟨_, rfl⟩
      subst hwr
      clear nq
      have hov' := OwnG.alloc hov (.cells #[.int .i64 y] 3)
      have hBa := hB.trans ((below_alloc wr (.cells #[.int .i64 y] 3)).mono hB.size)
      have hszv := hBa.size
      clear hov
      go_wp2_with (at_builtin; refine wpList_app1 cI 8 (.int .i64 0) 23 3 Tryz.underlying23 infoInt rfl rfl (.tmp 76) (.tmp 81) rfl w.heap.size _ us y (.int .i64 y) _ rfl rfl hov' rfl rfl (cell_new0 _ _ 3) (by omega) (by omega) hszv ?_; intro v5 w5 ho5 hg5 _; have hbel5 := hBa.trans (below_ownG hov' hg5 hszv); clear hov' hg5)
      go_roundw
      case rel => exact ⟨i, k + 1, us ++ [y], by omega, by omega, by go_num, by go_num, ho5, by rw [List.append_assoc]; rw [merge_gt (x := x) (y := y) _ _ (by omega) (by omega), ← drop_some hx] at hun; exact hun, by rw [List.length_append, List.length_singleton]; omega, hbel5⟩
      case measure => simp [intOf]; omega
     ·have hyx' : decide (y < x) = false := decide_eq_false hyx
      go_wp2_with fail
      go_quiet (fail)
      replace hov := OwnG.drewN hov nq
      replace hB := below_drewN' hB nq
      replace c1 : (wr.drewN nq).cell? ⟨b1, o1 + i, none⟩ = some (.int .i64 x) := c1
      replace c2 : (wr.drewN nq).cell? ⟨b2, o2 + k, none⟩ = some (.int .i64 y) := c2
      generalize wr.drewN nq = Wq at *
      obtain ⟨wr, hwr⟩ : ∃ W, W = Wq := ⟨_, rfl⟩
      subst hwr
      clear nq
      go_wp2_with fail
      go_quiet (fail)
      replace hov := OwnG.drewN hov nq
      replace hB := below_drewN' hB nq
      replace c1 : (wr.drewN nq).cell? ⟨b1, o1 + i, none⟩ = some (.int .i64 x) := c1
      replace c2 : (wr.drewN nq).cell? ⟨b2, o2 + k, none⟩ = some (.int .i64 y) := c2
      generalize wr.drewN nq = Wq at *
      obtain ⟨wr, hwr⟩ : ∃ W, W = Wq := ⟨_, rfl⟩
      subst hwr
      clear nq
      have hov' := OwnG.alloc hov (.cells #[.int .i64 x] 3)
      have hBa := hB.trans ((below_alloc wr (.cells #[.int .i64 x] 3)).mono hB.size)
      have hszv := hBa.size
      clear hov
      go_wp2_with (at_builtin; refine wpList_app1 cI 8 (.int .i64 0) 23 3 Tryz.underlying23 infoInt rfl rfl (.tmp 18) (.tmp 23) rfl w.heap.size _ us x (.int .i64 x) _ rfl rfl hov' rfl rfl (cell_new0 _ _ 3) (by omega) (by omega) hszv ?_; intro v5 w5 ho5 hg5 _; have hbel5 := hBa.trans (below_ownG hov' hg5 hszv); clear hov' hg5)
      go_roundw
      case rel => exact ⟨i + 1, k + 1, us ++ [x], by omega, by omega, by go_num, by go_num, ho5, by rw [List.append_assoc]; rw [merge_eq (x := x) (y := y) _ _ (by omega) (by omega)] at hun; exact hun, by rw [List.length_append, List.length_singleton]; omega, hbel5⟩
      case measure => simp [intOf]; omega
   ·obtain rfl : k = nb := by omega
    have hkeN : ((k : Int) == (k : Nat)) = true := beq_self_eq_true _
    rw [drop_end hnb] at hun
    go_wp2_with fail
    go_quiet (fail)
    replace hov := OwnG.drewN hov nq
    replace hB := below_drewN' hB nq
    replace c1 : (wr.drewN nq).cell? ⟨b1, o1 + i, none⟩ = some (.int .i64 x) := c1
    generalize wr.drewN nq = Wq at *
    obtain ⟨wr, hwr⟩ : ∃ W, W = Wq := ⟨_, rfl⟩
    subst hwr
    clear nq
    have hov' := OwnG.alloc hov (.cells #[.int .i64 x] 3)
    have hBa := hB.trans ((below_alloc wr (.cells #[.int .i64 x] 3)).mono hB.size)
    have hszv := hBa.size
    clear hov
    go_wp2_with (at_builtin; refine wpList_app1 cI 8 (.int .i64 0) 23 3 Tryz.underlying23 infoInt rfl rfl (.tmp 51) (.tmp 56) rfl w.heap.size _ us x (.int .i64 x) _ rfl rfl hov' rfl rfl (cell_new0 _ _ 3) (by omega) (by omega) hszv ?_; intro v5 w5 ho5 hg5 _; have hbel5 := hBa.trans (below_ownG hov' hg5 hszv); clear hov' hg5)
    go_roundw
    case rel => exact ⟨i + 1, k, us ++ [x], by omega, by omega, by go_num, by go_num, ho5, by rw [List.append_assoc, drop_end hnb]; rw [merge_left] at hun; exact hun, by rw [List.length_append, List.length_singleton]; omega, hbel5⟩
    case measure => simp [intOf]; omega
  ·obtain rfl : i = na := by omega
   have hia' : decide ((i : Int) < (i : Nat)) = false := decide_eq_false (by omega)
   have hieN : ((i : Int) == (i : Nat)) = true := beq_self_eq_true _
   rw [drop_end hna] at hun
   by_cases hkb : k < nb
   ·have hkb' : decide ((k : Int) < (nb : Int)) = true := decide_eq_true (by omega)
    have hkb0 : (k : Int) < (nb : Int) := by omega
    have hke : decide ((k : Int) = (nb : Int)) = false := decide_eq_false (by omega)
    have hkeN : ((k : Int) == (nb : Int)) = false := beq_eq_false_iff_ne.2 (by omega)
    obtain ⟨y, hy⟩ := get_some b k (by omega)
    obtain ⟨b2, o2, rfl, hl2, c2⟩ := R1.at hb hB k y hy
    replace c2 : wr.cell? ⟨b2, o2 + k, none⟩ = some (.int .i64 y) := c2
    replace hl2 := Nat.lt_of_lt_of_le hl2 hB.size
    rw [drop_some hy] at hun
    go_wp2_with fail
    go_quiet (fail)
    replace hov := OwnG.drewN hov nq
    replace hB := below_drewN' hB nq
    replace c2 : (wr.drewN nq).cell? ⟨b2, o2 + k, none⟩ = some (.int .i64 y) := c2
    generalize wr.drewN nq = Wq at *
    obtain ⟨wr, hwr⟩ : ∃ W, W = Wq := ⟨_, rfl⟩
    subst hwr
    clear nq
    go_wp2_with fail
    go_quiet (fail)
    replace hov := OwnG.drewN hov nq
    replace hB := below_drewN' hB nq
    replace c2 : (wr.drewN nq).cell? ⟨b2, o2 + k, none⟩ = some (.int .i64 y) := c2
    generalize wr.drewN nq = Wq at *
    obtain ⟨wr, hwr⟩ : ∃ W, W = Wq := ⟨_, rfl⟩
    subst hwr
    clear nq
    have hov' := OwnG.alloc hov (.cells #[.int .i64 y] 3)
    have hBa := hB.trans ((below_alloc wr (.cells #[.int .i64 y] 3)).mono hB.size)
    have hszv := hBa.size
    clear hov
    go_wp2_with (at_builtin; refine wpList_app1 cI 8 (.int .i64 0) 23 3 Tryz.underlying23 infoInt rfl rfl (.tmp 76) (.tmp 81) rfl w.heap.size _ us y (.int .i64 y) _ rfl rfl hov' rfl rfl (cell_new0 _ _ 3) (by omega) (by omega) hszv ?_; intro v5 w5 ho5 hg5 _; have hbel5 := hBa.trans (below_ownG hov' hg5 hszv); clear hov' hg5)
    go_roundw
    case rel => exact ⟨i, k + 1, us ++ [y], by omega, by omega, by go_num, by go_num, ho5, by rw [List.append_assoc, drop_end hna]; rw [merge_right] at hun; exact hun, by rw [List.length_append, List.length_singleton]; omega, hbel5⟩
    case measure => simp [intOf]; omega
   ·obtain rfl : k = nb := by omega
    have hkb' : decide ((k : Int) < (k : Nat)) = false := decide_eq_false (by omega)
    rw [drop_end hnb, merge_nil, List.append_nil] at hun
    subst hun
    obtain ⟨A', cap', rfl, hT⟩ := hov.tat
    have HU := Lib.hid hT
    clear hT hov
    go_wp2_with fail
    go_ret
    exact ⟨_, _, rfl, HU.out, hB⟩
end Go.Proofs.YtpfbgenefjhcjaaGreatDoor
