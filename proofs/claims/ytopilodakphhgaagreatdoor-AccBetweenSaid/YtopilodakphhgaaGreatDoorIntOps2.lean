/- math/big's Int: Sign, Sub, Cmp, Bit 0, NewInt 1, Uint64, SetUint64. -/
import Derived.Test.YtopilodakphhgaaGreatDoorIntLow
import Derived.LaidEqlPtr
namespace Go.Proofs.YtopilodakphhgaaGreatDoor
set_option linter.unusedVariables false
set_option linter.unusedSimpArgs false
open Go Go.RowKit
set_option maxRecDepth 100000
theorem int_sign (w : World) (p M : Nat) (h : IntIs w p M) :
    Calls Tryz.prog 52 #[.pointer (Option.some ⟨p, 0, none⟩)] w fun e w' => e = .returned (.int .i64 ((M : Int).sign)) ∧ w' = w := by
  obtain ⟨A, n, cap, hq, hn⟩ := h
  obtain ⟨d0, d1, _, _⟩ := int_cells hq
  by_cases h0 : M = 0
  · subst h0
    obtain rfl := hn.len_zero
    go_enter Tryz.func52, Tryz.ntmps52
    go_wp2_with fail
    go_ret
    exact ⟨rfl, rfl⟩
  · have hl := hn.len_pos (by omega)
    have hn0 : ((n : Int) == 0) = false := by rw [beq_eq_false_iff_ne]; omega
    have HS := Lib.hid (show (M : Int).sign = 1 from Int.sign_eq_one_of_pos (by omega))
    clear hn
    go_enter Tryz.func52, Tryz.ntmps52
    go_wp2_with fail
    go_ret
    exact ⟨by rw [HS.out]; rfl, rfl⟩
theorem quiet_of2 {P : Program} {f : FuncId} {args : Array Value} {w : World} {n0 n : Nat} {v : Value}
    (h : Calls P f args (w.drewN (n0 + n)) fun e w' => e = .returned v ∧ ∃ m, w' = (w.drewN (n0 + n)).drewN m) : Calls P f args (w.drewN (n0 + n)) fun e w'' => e = .returned v ∧ ∃ m, w'' = w.drewN (n0 + m) :=
  h.mono fun _ _ ⟨he, m, hm⟩ => ⟨he, n + m, by rw [hm, World.drewN_drewN, Nat.add_assoc]⟩
theorem info_Int : (Tryz.prog.info? 94).map (·.size) = some 2 := by kernel_rfl
theorem run_int_ne {w : World} {p q : Nat} {cp cq : Array Value} (hp : w.heap[p]? = Option.some (.cells cp 94 (0, 0))) (hq : w.heap[q]? = Option.some (.cells cq 94 (0, 0))) (hne : p ≠ q) :
    (binOp .eql 74 (.pointer (Option.some ⟨p, 0, none⟩)) (.pointer (Option.some ⟨q, 0, none⟩))).run Tryz.prog w = .ok (.bool false) w := by
  obtain ⟨i, hi, hs⟩ := Option.map_eq_some_iff.1 info_Int
  exact run_eql_ptr_other w Tryz.underlying74 hi (by rw [hs]; decide) (fun e => hne (by injection e)) hp hq
set_option maxHeartbeats 1000000 in
theorem int_cmp (w : World) (p q X Y : Nat) (h : IntIs w p X) (h' : IntIs w q Y) (hne : p ≠ q) :
    Calls Tryz.prog 58 #[.pointer (Option.some ⟨p, 0, none⟩), .pointer (Option.some ⟨q, 0, none⟩)] w fun e w' => e = .returned (.int .i64 (cmpN X Y)) ∧ ∃ k, w' = w.drewN k := by
  obtain ⟨A, n, cap, hp, hn⟩ := h
  obtain ⟨B, m, cap', hq, hn'⟩ := h'
  obtain ⟨c0, c1, _, _⟩ := int_cells hp
  obtain ⟨d0, d1, _, _⟩ := int_cells hq
  have hpq := run_int_ne hp hq hne
  go_enter Tryz.func58, Tryz.ntmps58
  go_wp2_with fail
  go_quiet (fail)
  go_wp2_with fail
  go_quiet ((go_at_call 84; refine quiet_of2 (natCmp_any _ A B n cap m cap' X Y ?_ ?_); exact hn.below ⟨rfl, rfl, rfl, Nat.le_refl _, fun _ _ => rfl⟩; exact hn'.below ⟨rfl, rfl, rfl, Nat.le_refl _, fun _ _ => rfl⟩))
  go_wp2_with fail
  go_ret
  exact ⟨rfl, _, rfl⟩
theorem IntRet.cells2 {w w2 : World} {p k c M : Nat} {B : Option Addr} (h : IntRet w w2 p B k c M) (hp : IntNew w p) (x : Value) : (w2.setCell ⟨p, 1, none⟩ x).cell? ⟨p, 1, none⟩ = Option.some x := by
  have hh := (h.1.block p (Array.getElem?_eq_some_iff.1 hp).1).trans hp
  have h1 := heap_setCell_same w2 p 1 _ _ x hh
  rw [cell_of_row _ p 1 _ _ _ h1]
  rfl
/-- X is as long as Y, if Y is not 0. -/
theorem same_len {w : World} {A B : Option Addr} {m cx n cy X Y : Nat} (h : NatIs w A m cx X) (h' : NatIs w B n cy Y) (hY : Y ≤ X) (hs : 0 < Y → ∀ k, Y < B64 ^ k → X < B64 ^ k) : n = m ∨ n = 0 := by
  by_cases h0 : Y = 0
  · subst h0
    exact Or.inr h'.len_zero
  · have h1 := hs (by omega) n h'.1.1
    have h2 := natIs_len h h1
    have h3 := natIs_len h' (Nat.lt_of_le_of_lt hY h.1.1)
    exact Or.inl (by omega)
set_option maxHeartbeats 2000000 in
theorem int_sub (w : World) (p q r X Y K : Nat) (hp : IntNew w p) (h : IntIs w q X) (h' : IntIs w r Y) (hY : Y ≤ X) (h0 : 0 < X) (hs : 0 < Y → ∀ k, Y < B64 ^ k → X < B64 ^ k) (hM : X < B64 ^ K) (hK : K ≤ 50000) :
    Calls Tryz.prog 55 #[.pointer (Option.some ⟨p, 0, none⟩), .pointer (Option.some ⟨q, 0, none⟩), .pointer (Option.some ⟨r, 0, none⟩)] w fun e w' => e = .returned (.pointer (Option.some ⟨p, 0, none⟩)) ∧ IntIs w' p (X - Y) ∧ w.grownBy w' (Option.some p) := by
  obtain ⟨A, n, cap, hq, hn⟩ := h
  obtain ⟨B, m, cap', hr, hn'⟩ := h'
  obtain ⟨a0, a1, f0, f1⟩ := int_cells hp
  obtain ⟨c0, c1, _, _⟩ := int_cells hq
  obtain ⟨d0, d1, _, _⟩ := int_cells hr
  have hlen := natIs_len hn hM
  have hsl := same_len hn hn' hY hs
  have hln := hn.len_pos h0
  have hge : (0 : Int) ≤ cmpN X Y := by
    rcases Nat.lt_or_ge Y X with hl | hl
    · rw [cmpN_gt hl]; decide
    · rw [cmpN_eq (by omega)]; exact Int.le_refl _
  have HR : ∀ w2 : World, Below w.heap.size w w2 → Calls Tryz.prog 81 #[.slice none 0 0, .slice A n cap, .slice B m cap'] w2 fun e w' => ∃ C k c, e = .returned (.slice C k c) ∧ IntRet w w' p C k c (X - Y) := fun w2 hb => by
    refine (sub_nil w2 A B n cap m cap' X Y (hn.below hb) (hn'.below hb) hY hln hsl (by omega)).mono ?_
    rintro e w' ⟨⟨C, k, c, he, hk⟩, hb'⟩
    exact ⟨C, k, c, he, hb.trans (hb'.mono hb.size), hk⟩
  have hcq : ∀ j, Calls Tryz.prog 84 #[.slice A n cap, .slice B m cap'] (w.drewN j) fun e w' => e = .returned (.int .i64 (cmpN X Y)) ∧ ∃ k, w' = (w.drewN j).drewN k := fun j => natCmp_any _ A B n cap m cap' X Y (hn.below (below_drewN _ _)) (hn'.below (below_drewN _ _))
  generalize cmpN X Y = cc at *
  go_enter Tryz.func55, Tryz.ntmps55
  go_wp2_with fail
  go_quiet (fail)
  go_wp2_with fail
  go_quiet ((go_at_call 84; exact quiet_of2 (hcq _)))
  go_wp2_with fail
  have H1 := fun j => HR (w.drewN j) (below_drewN _ _)
  clear HR hn hn' hcq hs hsl hM
  go_region_with (go_at_call 81; refine (H1 _).mono ?_; rintro e w2 ⟨C, k, c, rfl, hR⟩; obtain ⟨e0, e1, g0, g1⟩ := hR.cells hp; have ec := hR.cells2 hp (.slice C k c); have fin := Lib.hid (hR.set hp); clear hR)
  all_goals rcases Nat.eq_zero_or_pos k with rfl | hk
  all_goals go_wp2_with fail
  all_goals go_ret
  all_goals exact ⟨rfl, fin.out⟩
end Go.Proofs.YtopilodakphhgaaGreatDoor
