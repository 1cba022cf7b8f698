/- zono.union: the Ids of both, rising. -/
import Derived.Test.YtpfbgenefjhcjaaGreatDoorPZoLst
namespace Go.Proofs.YtpfbgenefjhcjaaGreatDoor
set_option linter.unusedVariables false
set_option linter.unusedSimpArgs false
open Go Go.RowKit
set_option maxRecDepth 100000
/-- The Ids of both, as zono reckons them. -/
def unionD : List Int → List Int → List Int
 | [], b => b
 | x :: a, [] => x :: unionD a []
 | x :: a, y :: b => if x < y then x :: unionD a (y :: b) else if y < x then y :: unionD (x :: a) b else unionD a (y :: b)
termination_by a b => a.length + b.length
theorem union_nil (b : List Int) : unionD [] b = b := by rw [unionD]
theorem union_left (x : Int) (a : List Int) : unionD (x :: a) [] = x :: unionD a [] := by rw [unionD]
theorem union_right (y : Int) (b : List Int) : unionD [] (y :: b) = y :: unionD [] b := by rw [unionD, unionD]
theorem union_lt {x y : Int} (a b : List Int) (h : x < y) : unionD (x :: a) (y :: b) = x :: unionD a (y :: b) := by rw [unionD, if_pos h]
theorem union_gt {x y : Int} (a b : List Int) (h : ¬ x < y) (h' : y < x) : unionD (x :: a) (y :: b) = y :: unionD (x :: a) b := by rw [unionD, if_neg h, if_pos h']
theorem union_eq {x y : Int} (a b : List Int) (h : ¬ x < y) (h' : ¬ y < x) : unionD (x :: a) (y :: b) = unionD a (y :: b) := by rw [unionD, if_neg h, if_neg h']
def lenV : Value → Nat
 | .slice _ n _ => n
 | _ => 0
theorem IR.tail {w : World} {b o : Nat} {x : Int} {l : List Int} (h : IR w (some ⟨b, o, none⟩) (x :: l)) : IR w (some ⟨b, o + 1, none⟩) l := fun j z hz => by
 obtain ⟨b', o', e, h1, h2⟩ := h (j + 1) z hz
 cases e
 exact ⟨_, _, rfl, h1, by rw [Nat.add_assoc, Nat.add_comm 1 j]; exact h2⟩
theorem IR.tailK {w : World} {b o k n : Nat} {x : Int} {l : List Int} (h : IR w (some ⟨b, o, none⟩) (x :: l)) (hn : (x :: l).length = n) (hk : n ≤ k) : IR w (if k = 1 then some ⟨b, o, none⟩ else some ⟨b, o + 1, none⟩) l := by
 by_cases h1 : k = 1
 ·rw [if_pos h1]
  obtain rfl : l = [] := List.eq_nil_of_length_eq_zero (by rw [List.length_cons] at hn; omega)
  exact R1.nil _ _ _
 ·rw [if_neg h1]
  exact h.tail
set_option maxHeartbeats 4000000 in
theorem union_any (w : World) (A B : Option Addr) (ca cb na nb : Nat) (a b : List Int) (ha : IR w A a) (hb : IR w B b) (hna : a.length = na) (hnb : b.length = nb) (hla : na ≤ ca) (hlb : nb ≤ cb) (hca : ca ≤ maxLen) (hcb : cb ≤ maxLen) (hm : na + nb ≤ 4294967296) :
  Calls Tryz.prog 101 #[.slice A na ca, .slice B nb cb] w fun e w' => ∃ A' cap', e = .returned (.slice A' (unionD a b).length cap') ∧ TAt cI 3 w' A' cap' (unionD a b) ∧ Below w.heap.size w w' := by
 go_enter Tryz.func101, Tryz.ntmps101
 go_wp2_with fail
 go_loopw [0, 1, 5] (fun va vb v wr => ∃ (A1 B1 : Option Addr) (k1 k2 n1 n2 : Nat) (l1 l2 us : List Int), va = .slice A1 n1 k1 ∧ vb = .slice B1 n2 k2 ∧ l1.length = n1 ∧ l2.length = n2 ∧ IR w A1 l1 ∧ IR w B1 l2 ∧ n1 ≤ k1 ∧ n2 ≤ k2 ∧ OwnG (fun x => [cI x]) 3 1 wr w.heap.size v us ∧ us ++ unionD l1 l2 = unionD a b ∧ us.length + n1 + n2 ≤ na + nb ∧ Below w.heap.size w wr) (fun va vb _ _ => lenV va + lenV vb)
 case atStart => exact ⟨A, B, ca, cb, na, nb, a, b, [], rfl, rfl, hna, hnb, ha, hb, hla, hlb, OwnG.nil _ _, rfl, by simp, Below.refl _ _⟩
 case round =>
  obtain ⟨A1, B1, k1, k2, n1, n2, l1, l2, us, rfl, rfl, hn1, hn2, hi1, hi2, hk1, hk2, hov, hun, hlen, hB⟩ := hrel
  cases l1 with
  | nil =>
   cases l2 with
   | nil =>
    simp at hn1 hn2
    subst hn1
    subst hn2
    rw [union_nil, List.append_nil] at hun
    subst hun
    obtain ⟨A', cap', rfl, hT⟩ := hov.tat
    have HU := Lib.hid hT
    clear hT hov
    go_wp2_with fail
    go_ret
    exact ⟨_, _, rfl, HU.out, hB⟩
   | cons y l2 =>
    simp at hn1
    subst hn1
    have hp2 : 0 < n2 := by rw [← hn2]; simp
    have hp2' : (0 : Int) < (n2 : Int) := by omega
    have hz2 : n2 ≠ 0 := by omega
    have hd2 : decide ((n2 : Int) = 0) = false := decide_eq_false (by omega)
    obtain ⟨b2, o2, rfl, hl2, c2⟩ := hi2.cell hB 0 y rfl
    rw [Nat.add_zero] at c2
    replace hl2 := Nat.lt_of_lt_of_le hl2 hB.size
    have hb2 : ((n2 : Int) == 0) = false := beq_eq_false_iff_ne.2 (by omega)
    have ht2 := IR.tailK hi2 hn2 hk2
    have hlen2 : l2.length = n2 - 1 := by rw [← hn2]; rfl
    go_wp2_with fail
    go_quiet (fail)
    replace hov := OwnG.drewN hov nq
    replace hB := below_drewN' hB nq
    replace c2 : (wr.drewN nq).cell? ⟨b2, o2, none⟩ = some (.int .i64 y) := c2
    generalize wr.drewN nq = Wq at *
    obtain ⟨wr, hwr⟩ : ∃ W, W = Wq := ⟨_, rfl⟩
    subst hwr
    clear nq
    have hBd := hB
    go_wp2_with fail
    go_quiet (fail)
    replace hov := OwnG.drewN hov nq
    replace hB := below_drewN' hB nq
    replace c2 : (wr.drewN nq).cell? ⟨b2, o2, none⟩ = some (.int .i64 y) := c2
    generalize wr.drewN nq = Wq at *
    obtain ⟨wr, hwr⟩ : ∃ W, W = Wq := ⟨_, rfl⟩
    subst hwr
    clear nq
    have hBd := hB
    have hov' := OwnG.alloc hov (.cells #[.int .i64 y] 3)
    have hBa := hBd.trans ((below_alloc wr (.cells #[.int .i64 y] 3)).mono hBd.size)
    have hszv := hBa.size
    clear hov
    go_wp2_with (at_builtin; refine wpList_app1 cI 8 (.int .i64 0) 23 3 Tryz.underlying23 infoInt rfl rfl (.tmp 55) (.tmp 59) rfl w.heap.size _ us y (.int .i64 y) _ rfl rfl hov' rfl rfl (cell_new0 _ _ 3) (by omega) (by omega) hszv ?_; intro v5 w5 ho5 hg5 _; have hbel5 := hBa.trans (below_ownG hov' hg5 hszv); clear hov' hg5)
    have h12 : 1 ≤ n2 := hp2
    have h12' : (1 : Int) ≤ (n2 : Int) := by omega
    have hk2' : (n2 : Int) ≤ (k2 : Int) := by omega
    go_wp2_with fail
    go_roundw
    case rel => exact ⟨_, _, _, _, _, _, [], l2, us ++ [y], rfl, rfl, by first | rfl | assumption, by first | rfl | assumption, by first | exact ht1 | exact hi1, by first | exact ht2 | exact hi2, by omega, by omega, ho5, by rw [List.append_assoc]; rw [union_right] at hun; exact hun, by (try simp only [List.length_append, List.length_cons, List.length_nil]); omega, hbel5⟩
    case measure => simp [lenV]; omega
  | cons x l1 =>
   have hp1 : 0 < n1 := by rw [← hn1]; simp
   have hp1' : (0 : Int) < (n1 : Int) := by omega
   have hz1 : n1 ≠ 0 := by omega
   have hd1 : decide ((n1 : Int) = 0) = false := decide_eq_false (by omega)
   obtain ⟨b1, o1, rfl, hl1, c1⟩ := hi1.cell hB 0 x rfl
   rw [Nat.add_zero] at c1
   replace hl1 := Nat.lt_of_lt_of_le hl1 hB.size
   have hb1 : ((n1 : Int) == 0) = false := beq_eq_false_iff_ne.2 (by omega)
   have ht1 := IR.tailK hi1 hn1 hk1
   have hlen1 : l1.length = n1 - 1 := by rw [← hn1]; rfl
   cases l2 with
   | nil =>
    simp at hn2
    subst hn2
    go_wp2_with fail
    go_quiet (fail)
    replace hov := OwnG.drewN hov nq
    replace hB := below_drewN' hB nq
    replace c1 : (wr.drewN nq).cell? ⟨b1, o1, none⟩ = some (.int .i64 x) := c1
    generalize wr.drewN nq = Wq at *
    obtain ⟨wr, hwr⟩ : ∃ W, W = Wq := ⟨_, rfl⟩
    subst hwr
    clear nq
    have hBd := hB
    have hov' := OwnG.alloc hov (.cells #[.int .i64 x] 3)
    have hBa := hBd.trans ((below_alloc wr (.cells #[.int .i64 x] 3)).mono hBd.size)
    have hszv := hBa.size
    clear hov
    go_wp2_with (at_builtin; refine wpList_app1 cI 8 (.int .i64 0) 23 3 Tryz.underlying23 infoInt rfl rfl (.tmp 34) (.tmp 38) rfl w.heap.size _ us x (.int .i64 x) _ rfl rfl hov' rfl rfl (cell_new0 _ _ 3) (by omega) (by omega) hszv ?_; intro v5 w5 ho5 hg5 _; have hbel5 := hBa.trans (below_ownG hov' hg5 hszv); clear hov' hg5)
    have h12 : 1 ≤ n1 := hp1
    have h12' : (1 : Int) ≤ (n1 : Int) := by omega
    have hk1' : (n1 : Int) ≤ (k1 : Int) := by omega
    go_wp2_with fail
    go_roundw
    case rel => exact ⟨_, _, _, _, _, _, l1, [], us ++ [x], rfl, rfl, by first | rfl | assumption, by first | rfl | assumption, by first | exact ht1 | exact hi1, by first | exact ht2 | exact hi2, by omega, by omega, ho5, by rw [List.append_assoc]; rw [union_left] at hun; exact hun, by (try simp only [List.length_append, List.length_cons, List.length_nil]); omega, hbel5⟩
    case measure => simp [lenV]; omega
   | cons y l2 =>
    have hp2 : 0 < n2 := by rw [← hn2]; simp
    have hp2' : (0 : Int) < (n2 : Int) := by omega
    have hz2 : n2 ≠ 0 := by omega
    have hd2 : decide ((n2 : Int) = 0) = false := decide_eq_false (by omega)
    obtain ⟨b2, o2, rfl, hl2, c2⟩ := hi2.cell hB 0 y rfl
    rw [Nat.add_zero] at c2
    replace hl2 := Nat.lt_of_lt_of_le hl2 hB.size
    have hb2 : ((n2 : Int) == 0) = false := beq_eq_false_iff_ne.2 (by omega)
    have ht2 := IR.tailK hi2 hn2 hk2
    have hlen2 : l2.length = n2 - 1 := by rw [← hn2]; rfl
    by_cases hxy : x < y
    ·have hxy' : decide (x < y) = true := decide_eq_true hxy
     go_wp2_with fail
     go_quiet (fail)
     replace hov := OwnG.drewN hov nq
     replace hB := below_drewN' hB nq
     replace c1 : (wr.drewN nq).cell? ⟨b1, o1, none⟩ = some (.int .i64 x) := c1
     replace c2 : (wr.drewN nq).cell? ⟨b2, o2, none⟩ = some (.int .i64 y) := c2
     generalize wr.drewN nq = Wq at *
     obtain ⟨wr, hwr⟩ : ∃ W, W = Wq := ⟨_, rfl⟩
     subst hwr
     clear nq
     have hBd := hB
     have hov' := OwnG.alloc hov (.cells #[.int .i64 x] 3)
     have hBa := hBd.trans ((below_alloc wr (.cells #[.int .i64 x] 3)).mono hBd.size)
     have hszv := hBa.size
     clear hov
     go_wp2_with (at_builtin; refine wpList_app1 cI 8 (.int .i64 0) 23 3 Tryz.underlying23 infoInt rfl rfl (.tmp 34) (.tmp 38) rfl w.heap.size _ us x (.int .i64 x) _ rfl rfl hov' rfl rfl (cell_new0 _ _ 3) (by omega) (by omega) hszv ?_; intro v5 w5 ho5 hg5 _; have hbel5 := hBa.trans (below_ownG hov' hg5 hszv); clear hov' hg5)
     have h12 : 1 ≤ n1 := hp1
     have h12' : (1 : Int) ≤ (n1 : Int) := by omega
     have hk1' : (n1 : Int) ≤ (k1 : Int) := by omega
     go_wp2_with fail
     go_roundw
     case rel => exact ⟨_, _, _, _, _, _, l1, y :: l2, us ++ [x], rfl, rfl, by first | rfl | assumption, by first | rfl | assumption, by first | exact ht1 | exact hi1, by first | exact ht2 | exact hi2, by omega, by omega, ho5, by rw [List.append_assoc]; rw [union_lt (x := x) (y := y) _ _ (by omega)] at hun; exact hun, by (try simp only [List.length_append, List.length_cons, List.length_nil]); omega, hbel5⟩
     case measure => simp [lenV]; omega
    ·have hxy' : decide (x < y) = false := decide_eq_false hxy
     by_cases hyx : y < x
     ·have hyx' : decide (y < x) = true := decide_eq_true hyx
      go_wp2_with fail
      go_quiet (fail)
      replace hov := OwnG.drewN hov nq
      replace hB := below_drewN' hB nq
      replace c1 : (wr.drewN nq).cell? ⟨b1, o1, none⟩ = some (.int .i64 x) := c1
      replace c2 : (wr.drewN nq).cell? ⟨b2, o2, none⟩ = some (.int .i64 y) := c2
      generalize wr.drewN nq = Wq at *
      obtain ⟨wr, hwr⟩ : ∃ W, W = Wq := ⟨_, rfl⟩
      subst hwr
      clear nq
      have hBd := hB
      go_wp2_with fail
      go_quiet (fail)
      replace hov := OwnG.drewN hov nq
      replace hB := below_drewN' hB nq
      replace c1 : (wr.drewN nq).cell? ⟨b1, o1, none⟩ = some (.int .i64 x) := c1
      replace c2 : (wr.drewN nq).cell? ⟨b2, o2, none⟩ = some (.int .i64 y) := c2
      generalize wr.drewN nq = Wq at *
      obtain ⟨wr, hwr⟩ : ∃ W, W = Wq := ⟨_, rfl⟩
      subst hwr
      clear nq
      have hBd := hB
      have hov' := OwnG.alloc hov (.cells #[.int .i64 y] 3)
      have hBa := hBd.trans ((below_alloc wr (.cells #[.int .i64 y] 3)).mono hBd.size)
      have hszv := hBa.size
      clear hov
      go_wp2_with (at_builtin; refine wpList_app1 cI 8 (.int .i64 0) 23 3 Tryz.underlying23 infoInt rfl rfl (.tmp 55) (.tmp 59) rfl w.heap.size _ us y (.int .i64 y) _ rfl rfl hov' rfl rfl (cell_new0 _ _ 3) (by omega) (by omega) hszv ?_; intro v5 w5 ho5 hg5 _; have hbel5 := hBa.trans (below_ownG hov' hg5 hszv); clear hov' hg5)
      have h12 : 1 ≤ n2 := hp2
      have h12' : (1 : Int) ≤ (n2 : Int) := by omega
      have hk2' : (n2 : Int) ≤ (k2 : Int) := by omega
      go_wp2_with fail
      go_roundw
      case rel => exact ⟨_, _, _, _, _, _, x :: l1, l2, us ++ [y], rfl, rfl, by first | rfl | assumption, by first | rfl | assumption, by first | exact ht1 | exact hi1, by first | exact ht2 | exact hi2, by omega, by omega, ho5, by rw [List.append_assoc]; rw [union_gt (x := x) (y := y) _ _ (by omega) (by omega)] at hun; exact hun, by (try simp only [List.length_append, List.length_cons, List.length_nil]); omega, hbel5⟩
      case measure => simp [lenV]; omega
     ·have hyx' : decide (y < x) = false := decide_eq_false hyx
      go_wp2_with fail
      go_quiet (fail)
      replace hov := OwnG.drewN hov nq
      replace hB := below_drewN' hB nq
      replace c1 : (wr.drewN nq).cell? ⟨b1, o1, none⟩ = some (.int .i64 x) := c1
      replace c2 : (wr.drewN nq).cell? ⟨b2, o2, none⟩ = some (.int .i64 y) := c2
      generalize wr.drewN nq = Wq at *
      obtain ⟨wr, hwr⟩ : ∃ W, W = Wq := ⟨_, rfl⟩
      subst hwr
      clear nq
      have hBd := hB
      go_wp2_with fail
      go_quiet (fail)
      replace hov := OwnG.drewN hov nq
      replace hB := below_drewN' hB nq
      replace c1 : (wr.drewN nq).cell? ⟨b1, o1, none⟩ = some (.int .i64 x) := c1
      replace c2 : (wr.drewN nq).cell? ⟨b2, o2, none⟩ = some (.int .i64 y) := c2
      generalize wr.drewN nq = Wq at *
      obtain ⟨wr, hwr⟩ : ∃ W, W = Wq := ⟨_, rfl⟩
      subst hwr
      clear nq
      have hBd := hB
      have h12 : 1 ≤ n1 := hp1
      have h12' : (1 : Int) ≤ (n1 : Int) := by omega
      have hk1' : (n1 : Int) ≤ (k1 : Int) := by omega
      go_wp2_with fail
      go_roundw
      case rel => exact ⟨_, _, _, _, _, _, l1, y :: l2, us, rfl, rfl, by first | rfl | assumption, by first | rfl | assumption, by first | exact ht1 | exact hi1, by first | exact ht2 | exact hi2, by omega, by omega, hov, by rw [union_eq (x := x) (y := y) _ _ (by omega) (by omega)] at hun; exact hun, by (try simp only [List.length_append, List.length_cons, List.length_nil]); omega, hBd⟩
      case measure => simp [lenV]; omega
end Go.Proofs.YtpfbgenefjhcjaaGreatDoor
