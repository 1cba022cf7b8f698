/- (*Int).Add(x, x, 1), SetUint64. -/
import Derived.Test.YtopilodakphhgaaGreatDoorNatAdd
namespace Go.Proofs.YtopilodakphhgaaGreatDoor
set_option linter.unusedVariables false
set_option linter.unusedSimpArgs false
open Go Go.RowKit
set_option maxRecDepth 100000
/-- Behind (nat).add in (*Int).Add, ahead of its stores. -/
structure AddRet (w w2 : World) (p lo : Nat) (C : Option Addr) (n c M : Nat) : Prop where
  nat : NatIs w2 C n c M
  int : w2.heap[p]? = w.heap[p]?
  below : ∀ B, B ≤ lo → B ≤ w.heap.size → Below B w w2
theorem AddRet.of {w w0 w2 : World} {p lo n c M n0 c0 M0 : Nat} {A C : Option Addr} {cs : Array Value} (hb0 : w0.heap = w.heap ∧ w0.os = w.os ∧ w0.tape = w.tape ∧ w0.output = w.output) (hp : w.heap[p]? = Option.some (.cells cs 94 (0, 0))) (hA : NatIs w A n0 c0 M0) (hnew : ∀ a, A = Option.some a → lo ≤ a.block) (h : NatIs w2 C n c M) (hbut : ButRow w0 w2 A) : AddRet w w2 p lo C n c M := by
  obtain ⟨r, hg, hr⟩ := hbut
  obtain ⟨e1, e2, e3, e4⟩ := hb0
  have hpl := (Array.getElem?_eq_some_iff.1 hp).1
  refine ⟨h, ?_, fun B h1 h2 => ⟨hg.os.trans e2, hg.tape.trans e3, hg.output.trans e4, by have := hg.size; rw [e1] at this; omega, fun k hk => ?_⟩⟩
  · rw [← e1]
    refine hg.block p (by rw [e1]; exact hpl) fun hpr => ?_
    rcases hr p hpr.symm with h1 | h1
    · obtain ⟨_, h2, _⟩ | ⟨g, h2, _, _, hv⟩ := hA.2
      · rw [h1] at h2; cases h2
      · rw [h1] at h2
        injection h2 with h2
        injection h2 with h2
        subst h2
        exact hv.ne_int hp rfl
    · rw [e1] at h1; omega
  · rw [← e1]
    refine hg.block k (by rw [e1]; omega) fun hpr => ?_
    rcases hr k hpr.symm with h3 | h3
    · have := hnew _ h3
      simp only at this
      omega
    · rw [e1] at h3; omega
theorem AddRet.cells {w w2 : World} {p lo n c M : Nat} {C : Option Addr} {v : Value} (h : AddRet w w2 p lo C n c M) (hp : w.heap[p]? = Option.some (.cells #[.bool false, v] 94 (0, 0))) (x : Value) :
    w2.cell? ⟨p, 0, none⟩ = Option.some (.bool false) ∧ w2.cell? ⟨p, 1, none⟩ = Option.some v ∧ w2.frozen? ⟨p, 0, none⟩ = false ∧ w2.frozen? ⟨p, 1, none⟩ = false ∧ (w2.setCell ⟨p, 1, none⟩ x).cell? ⟨p, 1, none⟩ = Option.some x := by
  obtain ⟨a, b, c, d⟩ := int_cells (h.int.trans hp)
  refine ⟨a, b, c, d, ?_⟩
  have h1 := heap_setCell_same w2 p 1 _ _ x (h.int.trans hp)
  rw [cell_of_row _ p 1 _ _ _ h1]
  rfl
theorem AddRet.set {w w2 : World} {p lo n c M : Nat} {C : Option Addr} {v : Value} (h : AddRet w w2 p lo C n c M) (hp : w.heap[p]? = Option.some (.cells #[.bool false, v] 94 (0, 0))) :
    IntIs ((w2.setCell ⟨p, 1, none⟩ (.slice C n c)).setCell ⟨p, 0, none⟩ (.bool false)) p M ∧ ∀ B, B ≤ lo → B ≤ p → Below B w ((w2.setCell ⟨p, 1, none⟩ (.slice C n c)).setCell ⟨p, 0, none⟩ (.bool false)) := by
  have hp2 := h.int.trans hp
  have hpl := (Array.getElem?_eq_some_iff.1 hp).1
  have h1 := heap_setCell_same w2 p 1 _ _ (.slice C n c) hp2
  have h2 := heap_setCell_same _ p 0 _ _ (.bool false) h1
  refine ⟨⟨C, n, c, h2, h.nat.other hp2 (fun k hk hne => ?_)⟩, fun B h3 h4 => ?_⟩
  · rw [heap_setCell_other _ ⟨p, 0, none⟩ k _ hne, heap_setCell_other _ ⟨p, 1, none⟩ k _ hne]
  · have hb := h.below B h3 (by omega)
    refine ⟨hb.os, hb.tape, hb.output, ?_, fun k hk => ?_⟩
    · rw [show ((w2.setCell ⟨p, 1, none⟩ (.slice C n c)).setCell ⟨p, 0, none⟩ (.bool false)).heap.size = w2.heap.size by simp [World.setCell]]
      exact hb.size
    · rw [heap_setCell_other _ ⟨p, 0, none⟩ k _ (show k ≠ p by omega), heap_setCell_other _ ⟨p, 1, none⟩ k _ (show k ≠ p by omega)]
      exact hb.block k hk
set_option maxHeartbeats 2000000 in
theorem int_add_one (w : World) (p r lo Q : Nat) (h : IntIsN lo w p Q) (h' : IntIs w r 1) (hQ : Q + 1 < B64) :
    Calls Tryz.prog 60 #[.pointer (Option.some ⟨p, 0, none⟩), .pointer (Option.some ⟨p, 0, none⟩), .pointer (Option.some ⟨r, 0, none⟩)] w fun e w' => e = .returned (.pointer (Option.some ⟨p, 0, none⟩)) ∧ IntIs w' p (Q + 1) ∧ ∀ B, B ≤ lo → B ≤ p → Below B w w' := by
  obtain ⟨A, n0, c0, hp, hn, hnew⟩ := h
  obtain ⟨B, m, cap', hr, hn'⟩ := h'
  obtain ⟨a0, a1, f0, f1⟩ := int_cells hp
  obtain ⟨d0, d1, _, _⟩ := int_cells hr
  have hm1 := hn'.len_pos (by omega)
  have hm2 := natIs_len hn' (K := 1) (by decide)
  obtain rfl : m = 1 := by omega
  obtain ⟨k, rfl, _, _, _⟩ := natIs_row hn' (by omega)
  have H1 : ∀ j, Calls Tryz.prog 83 #[.slice A n0 c0, .slice A n0 c0, .slice (Option.some ⟨k, 0, none⟩) 1 cap'] (w.drewN j) fun e w' => ∃ C n c, e = .returned (.slice C n c) ∧ AddRet w w' p lo C n c (Q + 1) := fun j => by
    refine (add_one (w.drewN j) A n0 c0 k cap' Q (hn.below (below_drewN _ _)) (hn'.below (below_drewN _ _)) hQ).mono ?_
    rintro e w' ⟨⟨C, n, c, he, hk⟩, hbut⟩
    exact ⟨C, n, c, he, AddRet.of (w0 := w.drewN j) ⟨rfl, rfl, rfl, rfl⟩ hp hn hnew hk hbut⟩
  clear hn hn' hnew hQ
  go_enter Tryz.func60, Tryz.ntmps60
  go_wp2_with fail
  go_quiet (fail)
  go_wp2_with fail
  go_region_with (go_at_call 83; refine (H1 _).mono ?_; rintro e w2 ⟨C, k, c, rfl, hR⟩; obtain ⟨e0, e1, g0, g1, ec⟩ := hR.cells hp (.slice C k c); have fin := Lib.hid (hR.set hp); clear hR)
  all_goals rcases Nat.eq_zero_or_pos k with rfl | hk
  all_goals go_wp2_with fail
  all_goals go_ret
  all_goals exact ⟨rfl, fin.out⟩
theorem setWord_nil (w : World) (u : Nat) (h0 : 0 < u) (hu : u < B64) :
    Calls Tryz.prog 106 #[.slice none 0 0, .int .u64 (u : Nat)] w fun e w' => (∃ C n cap, e = .returned (.slice C n cap) ∧ NatIs w' C n cap u) ∧ Below w.heap.size w w' := by
  have hu0 : ((u : Int) == 0) = false := by rw [beq_eq_false_iff_ne]; omega
  have hw0 := wd_self u hu
  have HN := Lib.hid (norm_one u h0 hu)
  clear hu
  go_enter Tryz.func106, Tryz.ntmps106
  go_wp2_with fail
  refine (make_nil 1 (by omega) (by omega) _).mono ?_
  rintro e w1 ⟨cap, hc1, hc2, rfl, rfl⟩
  have hz1 := Vec.made w cap
  have hb1 : Below w.heap.size w (w.alloc (Obj.cells (zeroWords cap) 114)) := (Below.refl _ _).alloc (Nat.le_refl _) _
  generalize w.alloc (Obj.cells (zeroWords cap) 114) = W at *
  obtain ⟨v, hv⟩ := hz1.some 0 (by omega)
  have hf := hz1.free 0
  have hz2 : Vec (W.setCell ⟨w.heap.size, 0, none⟩ (.int .u64 (u : Nat))) w.heap.size cap 0 1 (wd u) := hz1.set 0 u (by omega) hw0.symm (fun i _ hi hne => absurd (by omega) hne)
  have hg2 := below_of_grown (grown_set (grown_of_below hb1) 0 (.int .u64 (u : Nat))) (Nat.le_refl w.heap.size)
  have HZ := Lib.hid hz2
  have HG := Lib.hid hg2
  clear hz2 hg2 hz1 hb1
  go_wp2_with fail
  go_ret
  exact ⟨⟨_, 1, cap, rfl, HN.out, Or.inr ⟨w.heap.size, rfl, by omega, by omega, HZ.out⟩⟩, HG.out⟩
theorem int_setUint64 (w : World) (p u : Nat) (hp : IntNew w p) (h0 : 0 < u) (hu : u < B64) :
    Calls Tryz.prog 61 #[.pointer (Option.some ⟨p, 0, none⟩), .int .u64 (u : Nat)] w fun e w' => e = .returned (.pointer (Option.some ⟨p, 0, none⟩)) ∧ IntIs w' p u ∧ w.grownBy w' (Option.some p) := by
  obtain ⟨c0, c1, f0, f1⟩ := int_cells hp
  have hul : (u : Int) ≤ 18446744073709551615 := by unfold B64 at hu; omega
  have hnat : Calls Tryz.prog 87 #[.slice none 0 0, .int .u64 (u : Nat)] w fun e w' => (∃ C n cap, e = .returned (.slice C n cap) ∧ NatIs w' C n cap u) ∧ Below w.heap.size w w' := by
    go_enter Tryz.func87, Tryz.ntmps87
    go_wp2_with fail
    refine (setWord_nil _ u h0 hu).mono ?_
    rintro e w' ⟨⟨C, n, cap, rfl, hC⟩, hb⟩
    go_wp2_with fail
    go_ret
    exact ⟨⟨C, n, cap, rfl, hC⟩, hb⟩
  clear hu
  go_enter Tryz.func61, Tryz.ntmps61
  go_wp2_with fail
  refine hnat.mono ?_
  rintro e w2 ⟨⟨B, k, c, rfl, hk⟩, hb⟩
  have hR : IntRet w w2 p B k c u := ⟨hb, hk⟩
  obtain ⟨e0, e1, g0, g1⟩ := hR.cells hp
  have fin := Lib.hid (hR.set hp)
  clear hR hk hb
  go_wp2_with fail
  go_ret
  exact ⟨rfl, fin.out⟩
end Go.Proofs.YtopilodakphhgaaGreatDoor
