/-
 ambitref2: Turned, Minus, Sign, Cmp of reals; value; Next up.
-/
import Derived.Test.YtpfbgenefjhcjaaGreatDoorPRefPl
import Derived.Test.YtpfbgenefjhcjaaGreatDoorPFltPl
namespace Go.Proofs.YtpfbgenefjhcjaaGreatDoor
set_option linter.unusedVariables false
set_option linter.unusedSimpArgs false
open Go Go.RowKit
set_option maxRecDepth 100000
theorem sgn_not (neg : Bool) (m : Nat) : sgn (!neg) m = -sgn neg m := by unfold sgn; cases neg <;> simp
theorem NumIs.turned {w : World} {neg : Bool} {v : Value} {E z : Int} (h : NumIs w neg v E z) : NumIs w (!neg) v E (-z) := by
 obtain ⟨M, h1, h2, h3, h4, h5, h6⟩ := NumIs.def'.1 h
 exact NumIs.def'.2 ⟨M, h1, h2, h3, h4, h5, by rw [sgn_not, h6]⟩
theorem NumIs.turned_zero {w : World} {neg : Bool} {A : Option Addr} {cap : Nat} {E z : Int} (h : NumIs w neg (.slice A 0 cap) E z) : NumIs w neg (.slice A 0 cap) E (-z) := by
 obtain ⟨M, h1, h2, h3, h4, h5, h6⟩ := NumIs.def'.1 h
 obtain ⟨A', n', cap', hv, _, h0⟩ := h1.form
 injection hv with _ hn _
 have hM : M = 0 := h0.1 hn.symm
 refine NumIs.def'.2 ⟨M, h1, h2, h3, h4, h5, ?_⟩
 rw [h6, hM, Nat.zero_mul]
 cases neg <;> rfl
def TurnedNum (w : World) (v : Value) (E z : Int) (e : Ending) (w' : World) : Prop := ∃ ng : Bool, e = .returned (.agg #[.bool ng, v, .int .i64 E]) ∧ NumIs w' ng v E (-z) ∧ Below w.heap.size w w'
theorem Turned_num (w : World) (neg : Bool) (v : Value) (E z : Int) (h : NumIs w neg v E z) :
  Calls Tryz.prog 98 #[.agg #[.bool neg, v, .int .i64 E]] w fun e w' => TurnedNum w v E z e w' := by
 obtain ⟨A, n, cap, rfl, hn⟩ := h.form
 by_cases h0 : n = 0
 ·subst h0
  have H := Lib.hid (fun (w' : World) hb => (h.turned_zero).below (w1 := w') hb)
  clear h
  go_enter Tryz.func98, Tryz.ntmps98
  go_wp2_with fail
  go_returns
  have hb := (below_alloc w (.cells #[.bool neg, .slice A 0 cap, .int .i64 E] 70)).trans ((below_alloc (w.alloc (.cells #[.bool neg, .slice A 0 cap, .int .i64 E] 70)) (.cells #[.bool neg, .slice A 0 cap, .int .i64 E] 70)).mono (by simp))
  exact ⟨_, rfl, H.out _ hb, hb⟩
 ·have hz' : (0 : Int) < (n : Int) := by omega
  have H := Lib.hid (fun (w' : World) hb => (h.turned).below (w1 := w') hb)
  clear h
  go_enter Tryz.func98, Tryz.ntmps98
  go_wp2_with fail
  go_returns
  have hb := (below_alloc w (.cells #[.bool (!neg), .slice A n cap, .int .i64 E] 70)).trans ((below_alloc (w.alloc (.cells #[.bool (!neg), .slice A n cap, .int .i64 E] 70)) (.cells #[.bool (!neg), .slice A n cap, .int .i64 E] 70)).mono (by simp))
  exact ⟨_, rfl, H.out _ hb, hb⟩
def TellsNum (w : World) (z : Int) (e : Ending) (w' : World) : Prop := ∃ (ng : Bool) (A : Option Addr) (n cap : Nat) (E : Int), e = .returned (.agg #[.bool ng, .slice A n cap, .int .i64 E]) ∧ NumIs w' ng (.slice A n cap) E z ∧ Below w.heap.size w w'
set_option maxHeartbeats 8000000 in
theorem Minus_num (w : World) (n1 n2 : Bool) (v1 v2 : Value) (E1 E2 z1 z2 : Int) (h1 : NumIs w n1 v1 E1 z1) (h2 : NumIs w n2 v2 E2 z2) (hcap : (z1 + -z2).natAbs < W32 ^ 400) :
  Calls Tryz.prog 52 #[.agg #[.bool n1, v1, .int .i64 E1], .agg #[.bool n2, v2, .int .i64 E2]] w fun e w' => TellsNum w (z1 + -z2) e w' := by
 obtain ⟨A1, c1, k1, rfl, hc1⟩ := h1.form
 obtain ⟨A2, c2, k2, rfl, hc2⟩ := h2.form
 have hb1 := below_alloc w (.cells #[.bool n1, .slice A1 c1 k1, .int .i64 E1] 70)
 have hb2 := hb1.trans ((below_alloc (w.alloc (.cells #[.bool n1, .slice A1 c1 k1, .int .i64 E1] 70)) (.cells #[.bool n2, .slice A2 c2 k2, .int .i64 E2] 70)).mono (by simp))
 have hb3 := hb2.trans ((below_alloc ((w.alloc (.cells #[.bool n1, .slice A1 c1 k1, .int .i64 E1] 70)).alloc (.cells #[.bool n2, .slice A2 c2 k2, .int .i64 E2] 70)) (.cells #[.bool false, .slice none 0 0, .int .i64 0] 70)).mono (by simp; omega))
 have hg1 := heap_alloc_new w (.cells #[.bool n1, .slice A1 c1 k1, .int .i64 E1] 70)
 have hg2 := heap_alloc_new (w.alloc (.cells #[.bool n1, .slice A1 c1 k1, .int .i64 E1] 70)) (.cells #[.bool n2, .slice A2 c2 k2, .int .i64 E2] 70)
 have hg3 := heap_alloc_new ((w.alloc (.cells #[.bool n1, .slice A1 c1 k1, .int .i64 E1] 70)).alloc (.cells #[.bool n2, .slice A2 c2 k2, .int .i64 E2] 70)) (.cells #[.bool false, .slice none 0 0, .int .i64 0] 70)
 have s1 : (w.alloc (.cells #[.bool n1, .slice A1 c1 k1, .int .i64 E1] 70)).heap.size = w.heap.size + 1 := by simp
 have s2 : ((w.alloc (.cells #[.bool n1, .slice A1 c1 k1, .int .i64 E1] 70)).alloc (.cells #[.bool n2, .slice A2 c2 k2, .int .i64 E2] 70)).heap.size = w.heap.size + 1 + 1 := by simp
 rw [s1] at hg2
 rw [s2] at hg3
 have hg1' := ((below_alloc ((w.alloc (.cells #[.bool n1, .slice A1 c1 k1, .int .i64 E1] 70)).alloc (.cells #[.bool n2, .slice A2 c2 k2, .int .i64 E2] 70)) (.cells #[.bool false, .slice none 0 0, .int .i64 0] 70)).block w.heap.size (by rw [s2]; omega)).trans (((below_alloc (w.alloc (.cells #[.bool n1, .slice A1 c1 k1, .int .i64 E1] 70)) (.cells #[.bool n2, .slice A2 c2 k2, .int .i64 E2] 70)).block w.heap.size (by rw [s1]; omega)).trans hg1)
 have hg2' := ((below_alloc ((w.alloc (.cells #[.bool n1, .slice A1 c1 k1, .int .i64 E1] 70)).alloc (.cells #[.bool n2, .slice A2 c2 k2, .int .i64 E2] 70)) (.cells #[.bool false, .slice none 0 0, .int .i64 0] 70)).block (w.heap.size + 1) (by rw [s2]; omega)).trans hg2
 have s3 : (((w.alloc (.cells #[.bool n1, .slice A1 c1 k1, .int .i64 E1] 70)).alloc (.cells #[.bool n2, .slice A2 c2 k2, .int .i64 E2] 70)).alloc (.cells #[.bool false, .slice none 0 0, .int .i64 0] 70)).heap.size = w.heap.size + 3 := by simp
 clear hg1 hg2 s1 s2 hb1 hb2
 go_enter Tryz.func52, Tryz.ntmps52
 go_wp2_with fail
 generalize ((w.alloc (.cells #[.bool n1, .slice A1 c1 k1, .int .i64 E1] 70)).alloc (.cells #[.bool n2, .slice A2 c2 k2, .int .i64 E2] 70)).alloc (.cells #[.bool false, .slice none 0 0, .int .i64 0] 70) = W3 at *
 have t0 : w.heap.size < W3.drew.heap.size := by show w.heap.size < W3.heap.size; omega
 have t1 : w.heap.size + 1 < W3.drew.heap.size := by show w.heap.size + 1 < W3.heap.size; omega
 have t2 : w.heap.size + 1 + 1 < W3.drew.heap.size := by show w.heap.size + 1 + 1 < W3.heap.size; omega
 obtain ⟨x10d, x11d, x12d⟩ := cells3 (w := W3.drew) hg1'
 obtain ⟨x20d, x21d, x22d⟩ := cells3 (w := W3.drew) hg2'
 have hb3d : Below w.heap.size w W3.drew := hb3.drew
 have hg3d : W3.drew.heap[w.heap.size + 1 + 1]? = some (.cells #[.bool false, .slice none 0 0, .int .i64 0] 70 (0, 0)) := hg3
 have h1d := h1.below hb3d
 have h2d := h2.below hb3d
 clear hb3 hg1' hg2' hg3 h1 h2
 have hne0 : some w.heap.size ≠ some (w.heap.size + 1 + 1) := by simp; omega
 have hne1 : some (w.heap.size + 1) ≠ some (w.heap.size + 1 + 1) := by simp
 go_region_held3 (fun w' => w'.cell? ⟨w.heap.size, 0, none⟩ = some (.bool n1) ∧ w'.cell? ⟨w.heap.size, 1, none⟩ = some (.slice A1 c1 k1) ∧ w'.cell? ⟨w.heap.size, 2, none⟩ = some (.int .i64 E1) ∧ w'.cell? ⟨w.heap.size + 1, 0, none⟩ = some (.bool n2) ∧ w'.cell? ⟨w.heap.size + 1, 1, none⟩ = some (.slice A2 c2 k2) ∧ w'.cell? ⟨w.heap.size + 1, 2, none⟩ = some (.int .i64 E2))
  (first | (with_reducible exact ⟨(set3 q3 _ _ _).2.cell ((c7.cell (p := ⟨w.heap.size, 0, none⟩) t0).trans x10d) hne0, (set3 q3 _ _ _).2.cell ((c7.cell (p := ⟨w.heap.size, 1, none⟩) t0).trans x11d) hne0, (set3 q3 _ _ _).2.cell ((c7.cell (p := ⟨w.heap.size, 2, none⟩) t0).trans x12d) hne0, (set3 q3 _ _ _).2.cell ((c7.cell (p := ⟨w.heap.size + 1, 0, none⟩) t1).trans x20d) hne1, (set3 q3 _ _ _).2.cell ((c7.cell (p := ⟨w.heap.size + 1, 1, none⟩) t1).trans x21d) hne1, (set3 q3 _ _ _).2.cell ((c7.cell (p := ⟨w.heap.size + 1, 2, none⟩) t1).trans x22d) hne1⟩) | (with_reducible exact ⟨(c7.cell (p := ⟨w.heap.size, 0, none⟩) t0).trans x10d, (c7.cell (p := ⟨w.heap.size, 1, none⟩) t0).trans x11d, (c7.cell (p := ⟨w.heap.size, 2, none⟩) t0).trans x12d, (c7.cell (p := ⟨w.heap.size + 1, 0, none⟩) t1).trans x20d, (c7.cell (p := ⟨w.heap.size + 1, 1, none⟩) t1).trans x21d, (c7.cell (p := ⟨w.heap.size + 1, 2, none⟩) t1).trans x22d⟩) | (with_reducible exact ⟨(c6.cell (p := ⟨w.heap.size, 0, none⟩) t0).trans x10d, (c6.cell (p := ⟨w.heap.size, 1, none⟩) t0).trans x11d, (c6.cell (p := ⟨w.heap.size, 2, none⟩) t0).trans x12d, (c6.cell (p := ⟨w.heap.size + 1, 0, none⟩) t1).trans x20d, (c6.cell (p := ⟨w.heap.size + 1, 1, none⟩) t1).trans x21d, (c6.cell (p := ⟨w.heap.size + 1, 2, none⟩) t1).trans x22d⟩) | (with_reducible exact ⟨x10d, x11d, x12d, x20d, x21d, x22d⟩))
  (first | (go_at_call 98; refine (Turned_num _ _ _ _ _ h2d).mono ?_; rintro e w6 ⟨ng, rfl, hm6, c6⟩) | (go_at_call 58; refine (plus_num _ _ _ _ _ _ _ z1 (-z2) (h1d.below c6) hm6 hcap).mono ?_; rintro e w7 ⟨ns, vs, Es, rfl, hm7, b7⟩; obtain ⟨As, cs, ks, rfl, hcs⟩ := hm7.form; have c7 := c6.trans (b7.mono c6.size); have q3 := (c7.block _ t2).trans hg3d; obtain ⟨y30, y31, y32⟩ := cells3 q3; have hfr3 : (∀ j, w7.frozen? ⟨w.heap.size + 1 + 1, j, none⟩ = false) := (fun j => frozen_of_row w7 _ j _ _ q3)))
 go_wp2_with fail
 have q3 := (c7.block _ t2).trans hg3d
 obtain ⟨hg9, hgr9⟩ := set3 q3 (.bool ns) (.slice As cs ks) (.int .i64 Es)
 have hm9 : NumIs ((w7.setCell ⟨w.heap.size + 1 + 1, 0, none⟩ (.bool ns)).setCell ⟨w.heap.size + 1 + 1, 1, none⟩ (.slice As cs ks) |>.setCell ⟨w.heap.size + 1 + 1, 2, none⟩ (.int .i64 Es)) ns (.slice As cs ks) Es (z1 + -z2) := by
  obtain ⟨M, hm, hr⟩ := hm7
  exact ⟨M, hm.other q3 hgr9, hr⟩
 have hb9 := (hb3d.trans (c7.mono hb3d.size)).trans (below_of_grown' hgr9 (hb3d.trans (c7.mono hb3d.size)).size (by omega))
 generalize ((w7.setCell ⟨w.heap.size + 1 + 1, 0, none⟩ (.bool ns)).setCell ⟨w.heap.size + 1 + 1, 1, none⟩ (.slice As cs ks)).setCell ⟨w.heap.size + 1 + 1, 2, none⟩ (.int .i64 Es) = W9 at *
 obtain ⟨j0, j1, j2⟩ := cells3 hg9
 refine bodyPost_ret (v := .agg #[.bool ns, .slice As cs ks, .int .i64 Es]) (by simp [results, Tryz.results52, go_sem, j0, j1, j2]) rfl ?_
 exact ⟨_, _, _, _, _, rfl, hm9, hb9⟩
theorem sign_num (w : World) (neg : Bool) (v : Value) (E z : Int) (h : NumIs w neg v E z) :
  Calls Tryz.prog 40 #[.agg #[.bool neg, v, .int .i64 E]] w fun e w' => e = .returned (.int .i64 z.sign) ∧ Below w.heap.size w w' := by
 obtain ⟨M, h1, h2, h3, h4, h5, h6⟩ := NumIs.def'.1 h
 have e : signM neg M = z.sign := by
  unfold signM
  rw [h6]
  by_cases h0 : M = 0
  ·rw [if_pos h0, h0, Nat.zero_mul]
   cases neg <;> rfl
  ·have hp : 0 < M * 2 ^ (E + 2212).toNat := Nat.mul_pos (by omega) (Nat.two_pow_pos _)
   rw [if_neg h0]
   generalize M * 2 ^ (E + 2212).toNat = T at hp
   unfold sgn
   cases neg
   ·rw [if_neg (by decide), if_neg (by decide), Int.sign_eq_one_of_pos (by omega)]
   ·rw [if_pos rfl, if_pos rfl, Int.sign_eq_neg_one_of_neg (by omega)]
 rw [← e]
 exact refSign_any w neg v M E h1
set_option maxHeartbeats 4000000 in
theorem Cmp_num (w : World) (n1 n2 : Bool) (v1 v2 : Value) (E1 E2 z1 z2 : Int) (h1 : NumIs w n1 v1 E1 z1) (h2 : NumIs w n2 v2 E2 z2) (hcap : (z1 + -z2).natAbs < W32 ^ 400) :
  Calls Tryz.prog 38 #[.agg #[.bool n1, v1, .int .i64 E1], .agg #[.bool n2, v2, .int .i64 E2]] w fun e w' => e = .returned (.int .i64 (z1 + -z2).sign) ∧ Below w.heap.size w w' := by
 obtain ⟨A1, c1, k1, rfl, hc1⟩ := h1.form
 obtain ⟨A2, c2, k2, rfl, hc2⟩ := h2.form
 have hb1 := below_alloc w (.cells #[.bool n1, .slice A1 c1 k1, .int .i64 E1] 70)
 have hb2 := hb1.trans ((below_alloc (w.alloc (.cells #[.bool n1, .slice A1 c1 k1, .int .i64 E1] 70)) (.cells #[.bool n2, .slice A2 c2 k2, .int .i64 E2] 70)).mono (by simp))
 have hmn := Minus_num _ n1 n2 _ _ E1 E2 z1 z2 (h1.below hb2) (h2.below hb2) hcap
 generalize (z1 + -z2) = z at *
 clear h1 h2
 go_enter Tryz.func38, Tryz.ntmps38
 go_wp2_with fail
 refine hmn.mono ?_
 rintro e w3 ⟨ng, A, n, cap, E, rfl, h3, b3⟩
 have hb3 := hb2.trans (b3.mono hb2.size)
 have hsg := sign_num w3 ng _ E z h3
 clear hmn
 go_wp2_with fail
 refine hsg.mono ?_
 rintro e w4 ⟨rfl, b4⟩
 have hb4 := hb3.trans (b4.mono hb3.size)
 go_wp2_with fail
 go_ret
 exact ⟨rfl, hb4⟩
theorem OfIs.num {w : World} {neg : Bool} {v : Value} {E : Int} {u : Nat} (h : OfIs w neg v E u) (he : fexp u ≠ 2047) : NumIs w neg v E (fz u) := by
 rw [NumIs.def']
 rcases h with ⟨h1, rfl, rfl, rfl⟩ | ⟨h1, rfl, rfl, h4⟩
 ·refine ⟨0, Or.inl ⟨rfl, rfl⟩, fun _ => rfl, by decide, by decide, ?_, ?_⟩
  ·generalize (400 : Nat) = k
   exact W32_pow k
  ·unfold fz
   rw [h1, Nat.zero_mul, Nat.zero_mul]
   cases fneg u <;> rfl
 ·have p1 := pwr_ge u
  have p2 := pwr_le u he
  refine ⟨sig u, h4, fun h => absurd h h1, by omega, by omega, ?_, rfl⟩
  have hs := sig_lt u
  have hk : ∀ k : Nat, 2 ≤ k → sig u < W32 ^ k := fun k hk => by
   have h1 : W32 ^ 2 ≤ W32 ^ k := Nat.pow_le_pow_right W32_pos hk
   have h2 : 9007199254740992 < W32 ^ 2 := by decide
   omega
  exact hk 400 (by decide)
end Go.Proofs.YtpfbgenefjhcjaaGreatDoor
