/- ambitref3.held: a real, or none if it is too great. ambitref3.Round. ambitref3.Prod: a product added to the document's Acc. ambitref3.Prod: a product added to the document's Acc, where it is good. -/
import Derived.Test.YtopilodakphhgaaGreatDoorRefTerms
import Derived.Deep.CutRange
import Derived.Deep.RegionWith
import Derived.Deep.RegionHeld3
namespace Go.Proofs.YtopilodakphhgaaGreatDoor
set_option linter.unusedVariables false
set_option linter.unusedSimpArgs false
open Go Go.RowKit
set_option maxRecDepth 100000
/-- The document's Acc: its real in the lowest bit's units; none: bad. -/
def RefAccIs (w : World) (neg : Bool) (v : Value) (E : Int) (bad : Bool) (s : Option Int) : Prop :=
  (∃ A n cap, v = .slice A n cap) ∧ match s with
  | none => bad = true
  | some z => bad = false ∧ NumIs w neg v E z ∧ z.natAbs < LIM
/-- What a call tells that hands back a document's Acc. -/
def TellsAcc (w : World) (e : Ending) (w' : World) (s : Option Int) : Prop := ∃ (ng : Bool) (v' : Value) (E' : Int) (bad : Bool), e = .returned (.agg #[.bool ng, v', .int .i64 E', .bool bad]) ∧ RefAccIs w' ng v' E' bad s ∧ Below w.heap.size w w'
theorem set4 {w : World} {g : Nat} {t : TypeId} {a0 a1 a2 a3 : Value} (h : w.heap[g]? = some (.cells #[a0, a1, a2, a3] t (0, 0))) (b0 b1 b2 b3 : Value) :
    ((((w.setCell ⟨g, 0, none⟩ b0).setCell ⟨g, 1, none⟩ b1).setCell ⟨g, 2, none⟩ b2).setCell ⟨g, 3, none⟩ b3).heap[g]? = some (.cells #[b0, b1, b2, b3] t (0, 0)) ∧ w.grownBy ((((w.setCell ⟨g, 0, none⟩ b0).setCell ⟨g, 1, none⟩ b1).setCell ⟨g, 2, none⟩ b2).setCell ⟨g, 3, none⟩ b3) (some g) := by
  have h0 : (w.setCell ⟨g, 0, none⟩ b0).heap[g]? = some (.cells #[b0, a1, a2, a3] t (0, 0)) := heap_setCell_same w g 0 _ _ _ h
  have h1 : ((w.setCell ⟨g, 0, none⟩ b0).setCell ⟨g, 1, none⟩ b1).heap[g]? = some (.cells #[b0, b1, a2, a3] t (0, 0)) := heap_setCell_same _ g 1 _ _ _ h0
  have h2 : (((w.setCell ⟨g, 0, none⟩ b0).setCell ⟨g, 1, none⟩ b1).setCell ⟨g, 2, none⟩ b2).heap[g]? = some (.cells #[b0, b1, b2, a3] t (0, 0)) := heap_setCell_same _ g 2 _ _ _ h1
  have h3 : ((((w.setCell ⟨g, 0, none⟩ b0).setCell ⟨g, 1, none⟩ b1).setCell ⟨g, 2, none⟩ b2).setCell ⟨g, 3, none⟩ b3).heap[g]? = some (.cells #[b0, b1, b2, b3] t (0, 0)) := heap_setCell_same _ g 3 _ _ _ h2
  exact ⟨h3, grown_set (grown_set (grown_set (grown_set (grown_refl w _) 0 b0) 1 b1) 2 b2) 3 b3⟩
theorem cells4 {w : World} {g : Nat} {t : TypeId} {b0 b1 b2 b3 : Value} (h : w.heap[g]? = some (.cells #[b0, b1, b2, b3] t (0, 0))) :
    w.cell? ⟨g, 0, none⟩ = some b0 ∧ w.cell? ⟨g, 1, none⟩ = some b1 ∧ w.cell? ⟨g, 2, none⟩ = some b2 ∧ w.cell? ⟨g, 3, none⟩ = some b3 := by
  refine ⟨?_, ?_, ?_, ?_⟩ <;> (rw [cell_of_row _ _ _ _ _ _ h]; rfl)
/-- A block of an Acc's type is written: the number stands. -/
theorem NumIs.racc {w w' : World} {neg : Bool} {v : Value} {E z : Int} {g : Nat} {c : Array Value} (h : NumIs w neg v E z) (hc : w.heap[g]? = some (.cells c 80 (0, 0))) (hg : w.grownBy w' (some g)) : NumIs w' neg v E z := by
  obtain ⟨M, hm, hr⟩ := h
  refine ⟨M, ?_, hr⟩
  rcases hm with h | ⟨gh, n, cap, h1, h2, h3, h4, h5⟩
  · exact Or.inl h
  · refine Or.inr ⟨gh, n, cap, h1, h2, h3, h4, h5.grown hg fun e => ?_⟩
    injection e with e
    subst e
    obtain ⟨cur, hcur, _, _⟩ := h5
    rw [hc] at hcur
    injection hcur with hcur
    injection hcur with _ ht _
    exact absurd ht (by decide)
theorem blen_W (M k : Nat) (h : M < W32 ^ k) : blen M ≤ 32 * k := blen_le M (32 * k) (by rw [← W32_two]; exact h)
theorem held_plain (neg : Bool) (M : Nat) (E z : Int) (hM0 : M = 0 → E = 0) (hE : -2212 ≤ E) (hz : z = sgn neg (M * 2 ^ (E + 2212).toNat)) : z.natAbs < LIM ↔ (blen M : Int) + E ≤ 2560 := by
  obtain ⟨k, hk, hL⟩ := LIM_pow
  rw [hz, sgn_natAbs, hL]
  by_cases h0 : M = 0
  · rw [h0, Nat.zero_mul, hM0 h0]
    have : blen 0 = 0 := (isLen_blen 0).unique IsLen.zero
    rw [this]
    exact ⟨fun _ => by decide, fun _ => Nat.two_pow_pos k⟩
  · have hb := blen_shift M (E + 2212).toNat (by omega)
    constructor
    · intro h
      have := blen_le _ k h
      omega
    · intro h
      exact Nat.lt_of_lt_of_le (isLen_blen _).1 (Nat.pow_le_pow_right (by decide) (by omega))
set_option maxHeartbeats 4000000 in
theorem held_any (w : World) (neg : Bool) (v : Value) (E z : Int) (h : NumIs w neg v E z) :
    Calls Tryz.prog 70 #[.agg #[.bool neg, v, .int .i64 E]] w fun e w' => TellsAcc w e w' (clip z) := by
  obtain ⟨M, hm, hM0, hE1, hE2, hM, hz⟩ := NumIs.def'.1 h
  have hpl := held_plain neg M E z hM0 hE1 hz
  have hbl : blen M ≤ 32 * 400 := blen_W M 400 hM
  obtain ⟨A, c, cap, rfl, hc, hc0⟩ := hm.form
  have hb1 := below_alloc w (.cells #[.bool neg, .slice A c cap, .int .i64 E] 29)
  have hb2 := hb1.trans ((below_alloc (w.alloc (.cells #[.bool neg, .slice A c cap, .int .i64 E] 29)) (.cells #[.bool false, .slice none 0 0, .int .i64 0, .bool false] 80)).mono (by simp))
  have hln := Length_any _ neg (.slice A c cap) M E (hm.below hb2.drew)
  have hg1 := heap_alloc_new w (.cells #[.bool neg, .slice A c cap, .int .i64 E] 29)
  have hg2 := heap_alloc_new (w.alloc (.cells #[.bool neg, .slice A c cap, .int .i64 E] 29)) (.cells #[.bool false, .slice none 0 0, .int .i64 0, .bool false] 80)
  have s1 : (w.alloc (.cells #[.bool neg, .slice A c cap, .int .i64 E] 29)).heap.size = w.heap.size + 1 := by simp
  have s2 : ((w.alloc (.cells #[.bool neg, .slice A c cap, .int .i64 E] 29)).alloc (.cells #[.bool false, .slice none 0 0, .int .i64 0, .bool false] 80)).heap.size = w.heap.size + 2 := by simp
  rw [s1] at hg2
  have hg1' := ((below_alloc (w.alloc (.cells #[.bool neg, .slice A c cap, .int .i64 E] 29)) (.cells #[.bool false, .slice none 0 0, .int .i64 0, .bool false] 80)).block w.heap.size (by rw [s1]; omega)).trans hg1
  obtain ⟨x0, x1, x2⟩ := cells3 hg1'
  have hnum := fun (w' : World) hb => h.below (w1 := w') hb
  clear hg1 s1 hb1 hm hc0
  go_enter Tryz.func70, Tryz.ntmps70
  go_wp2_with fail
  generalize (w.alloc (.cells #[.bool neg, .slice A c cap, .int .i64 E] 29)).alloc (.cells #[.bool false, .slice none 0 0, .int .i64 0, .bool false] 80) = W2 at *
  obtain ⟨T, hT⟩ : ∃ T, T = (blen M : Int) + E := ⟨_, rfl⟩
  have hw1 : IntKind.i64.wrap ((blen M : Int) + E) = T := by rw [IntKind.wrap_i64]; omega
  rw [← hT] at hpl
  have t0 : w.heap.size < W2.drew.heap.size := by show w.heap.size < W2.heap.size; omega
  have t1 : w.heap.size + 1 < W2.drew.heap.size := by show w.heap.size + 1 < W2.heap.size; omega
  have hg1d : W2.drew.heap[w.heap.size]? = some (.cells #[.bool neg, .slice A c cap, .int .i64 E] 29 (0, 0)) := hg1'
  have hg2d : W2.drew.heap[w.heap.size + 1]? = some (.cells #[.bool false, .slice none 0 0, .int .i64 0, .bool false] 80 (0, 0)) := hg2
  have hb2d := hb2.drew
  go_cut [8] from 3 to 7 (fun cv wx => cv = .bool (decide ((2560 : Int) < T)) ∧ Below W2.drew.heap.size W2.drew wx)
  case first =>
    have HT := Lib.hid hT
    clear hT hnum hpl hz hM hM0 h
    generalize blen M = L at *
    go_region_with ((go_at_call 91; refine hln.mono ?_; rintro e w6 ⟨rfl, hb6⟩; have q1 := (hb6.block _ t0).trans hg1d; obtain ⟨y0, y1, y2⟩ := cells3 q1))
    all_goals go_wp2_with fail
    all_goals go_meet
    all_goals exact ⟨rfl, hb6⟩
  case rest =>
    obtain ⟨hcv, hb6⟩ := hcut
    subst hcv
    have q1 := (hb6.block _ t0).trans hg1d
    have q2 := (hb6.block _ t1).trans hg2d
    have hbel := hb2d.trans (hb6.mono hb2d.size)
    obtain ⟨y0, y1, y2⟩ := cells3 q1
    obtain ⟨k0, k1, k2⟩ : wc.cell? ⟨w.heap.size + 1, 0, none⟩ = some (.bool false) ∧ wc.cell? ⟨w.heap.size + 1, 1, none⟩ = some (.slice none 0 0) ∧ wc.cell? ⟨w.heap.size + 1, 2, none⟩ = some (.int .i64 0) := by
      refine ⟨?_, ?_, ?_⟩ <;> (rw [cell_of_row _ _ _ _ _ _ q2]; rfl)
    have k3 : wc.cell? ⟨w.heap.size + 1, 3, none⟩ = some (.bool false) := by rw [cell_of_row _ _ _ _ _ _ q2]; rfl
    have hfr : ∀ j, wc.frozen? ⟨w.heap.size + 1, j, none⟩ = false := fun j => frozen_of_row wc _ j _ _ q2
    have hnw := hnum wc hbel
    clear hln hw1 hT x0 x1 x2 hg1' hg2 hg1d hg2d hnum h hM hM0 hz
    by_cases hbig : 2560 < T
    · have hc0 : clip z = none := by unfold clip; rw [if_neg]; intro h; have := hpl.1 h; omega
      have HC := Lib.hid hc0
      clear hc0 hpl
      go_wp2_with fail
      obtain ⟨hg9, hgr9⟩ := set4 q2 (.bool false) (.slice none 0 0) (.int .i64 0) (.bool true)
      have hn9 := hnw.racc q2 hgr9
      have hb9 := hbel.trans (below_of_grown' hgr9 hbel.size (by omega))
      generalize (((wc.setCell ⟨w.heap.size + 1, 0, none⟩ (.bool false)).setCell ⟨w.heap.size + 1, 1, none⟩ (.slice none 0 0)).setCell ⟨w.heap.size + 1, 2, none⟩ (.int .i64 0)).setCell ⟨w.heap.size + 1, 3, none⟩ (.bool true) = W9 at *
      obtain ⟨j0, j1, j2, j3⟩ := cells4 hg9
      refine bodyPost_ret (v := .agg #[.bool false, .slice none 0 0, .int .i64 0, .bool true]) (by simp [results, Tryz.results70, go_sem, j0, j1, j2, j3]) rfl ?_
      rw [HC.out]
      exact ⟨_, _, _, _, rfl, ⟨⟨_, _, _, rfl⟩, rfl⟩, hb9⟩
    · have hb0 : decide ((2560 : Int) < T) = false := by simp; omega
      have hlt := hpl.2 (by omega)
      have hc0 : clip z = some z := by unfold clip; rw [if_pos hlt]
      have HC := Lib.hid hc0
      clear hc0 hpl
      go_wp2_with fail
      obtain ⟨hg9, hgr9⟩ := set4 q2 (.bool neg) (.slice A c cap) (.int .i64 E) (.bool false)
      have hn9 := hnw.racc q2 hgr9
      have hb9 := hbel.trans (below_of_grown' hgr9 hbel.size (by omega))
      generalize (((wc.setCell ⟨w.heap.size + 1, 0, none⟩ (.bool neg)).setCell ⟨w.heap.size + 1, 1, none⟩ (.slice A c cap)).setCell ⟨w.heap.size + 1, 2, none⟩ (.int .i64 E)).setCell ⟨w.heap.size + 1, 3, none⟩ (.bool false) = W9 at *
      obtain ⟨j0, j1, j2, j3⟩ := cells4 hg9
      refine bodyPost_ret (v := .agg #[.bool neg, .slice A c cap, .int .i64 E, .bool false]) (by simp [results, Tryz.results70, go_sem, j0, j1, j2, j3]) rfl ?_
      rw [HC.out]
      exact ⟨_, _, _, _, rfl, ⟨⟨_, _, _, rfl⟩, rfl, hn9, hlt⟩, hb9⟩
set_option linter.unusedVariables false
set_option linter.unusedSimpArgs false
open Go Go.RowKit
set_option maxRecDepth 100000
theorem ref3Round_any (w : World) (ng : Bool) (v : Value) (E : Int) (bad : Bool) (s : Option Int) (d : Int) (h : RefAccIs w ng v E bad s) (hd1 : -9223372036854775808 ≤ d) (hd2 : d ≤ 9223372036854775807) :
    Calls Tryz.prog 46 #[.agg #[.bool ng, v, .int .i64 E, .bool bad], .int .i64 d] w fun e w' => e = .returned (.tuple #[.int .u64 ((roundS d s).1 : Nat), .bool (roundS d s).2]) ∧ Below w.heap.size w w' := by
  obtain ⟨⟨A, n, cap, rfl⟩, hs⟩ := h
  have hb := below_alloc w (.cells #[.bool ng, .slice A n cap, .int .i64 E, .bool bad] 80)
  cases s with
  | none =>
    have hbad : bad = true := hs
    subst hbad
    clear hs
    go_enter Tryz.func46, Tryz.ntmps46
    go_wp2_with fail
    go_ret2
    exact ⟨rfl, hb⟩
  | some z =>
    obtain ⟨hbad, hn, _⟩ : bad = false ∧ NumIs w ng (.slice A n cap) E z ∧ z.natAbs < LIM := hs
    subst hbad
    have hr := refRound_any _ d ng (.slice A n cap) E z (hn.below hb) hd1 hd2
    generalize roundS d (some z) = R at *
    clear hn
    go_enter Tryz.func46, Tryz.ntmps46
    go_wp2_with fail
    refine hr.mono ?_
    rintro e w1 ⟨rfl, hb1⟩
    go_wp2_with fail
    go_ret2
    exact ⟨rfl, hb.trans (hb1.mono hb.size)⟩
set_option linter.unusedVariables false
set_option linter.unusedSimpArgs false
open Go Go.RowKit
set_option maxRecDepth 100000
theorem prodS_cap (z : Int) (a b : Nat) (n : Int) (hz : z.natAbs < LIM) (ea : fexp a ≠ 2047) (eb : fexp b ≠ 2047) (hn : n ≤ 64) : (z + prodZ a b n).natAbs < W32 ^ 400 := by
  have h1 := prodQ_lt a b n ea eb hn
  have h2 : (prodZ a b n).natAbs = prodQ a b n := by unfold prodZ; split <;> omega
  have h3 : (z + prodZ a b n).natAbs ≤ z.natAbs + (prodZ a b n).natAbs := Int.natAbs_add_le _ _
  obtain ⟨k, hk, hL⟩ := LIM_pow
  have h4 : ∀ m : Nat, k + 1 ≤ 32 * m → 2 * LIM ≤ W32 ^ m := fun m hm => by
    rw [hL, W32_two, Nat.mul_comm, ← Nat.pow_succ]
    exact Nat.pow_le_pow_right (by decide) (by omega)
  have h5 := h4 400 (by omega)
  generalize W32 ^ 400 = T at h5 ⊢
  omega
set_option maxHeartbeats 4000000 in
theorem ref3Prod_bad (w : World) (ng : Bool) (A : Option Addr) (n cap : Nat) (E : Int) (bad : Bool) (a b : Nat) (m : Int) (ha : a < B64) (hb : b < B64) (hm : -9223372036854775808 ≤ m ∧ m ≤ 9223372036854775807) (h : bad = true ∨ fexp a = 2047 ∨ fexp b = 2047 ∨ m < -64 ∨ 64 < m) :
    Calls Tryz.prog 47 #[.agg #[.bool ng, .slice A n cap, .int .i64 E, .bool bad], .int .u64 (a : Nat), .int .u64 (b : Nat), .int .i64 m] w fun e w' => TellsAcc w e w' none := by
  have hbl := below_alloc w (.cells #[.bool ng, .slice A n cap, .int .i64 E, .bool bad] 80)
  have hal : (a : Int) ≤ 18446744073709551615 := by unfold B64 at ha; omega
  have hbl2 : (b : Int) ≤ 18446744073709551615 := by unfold B64 at hb; omega
  have hr0 := heap_alloc_new (w.alloc (.cells #[.bool ng, .slice A n cap, .int .i64 E, .bool bad] 80)) (.cells #[.bool false, .slice none 0 0, .int .i64 0, .bool false] 80)
  have hx0 := heap_alloc_new w (.cells #[.bool ng, .slice A n cap, .int .i64 E, .bool bad] 80)
  have s1 : (w.alloc (.cells #[.bool ng, .slice A n cap, .int .i64 E, .bool bad] 80)).heap.size = w.heap.size + 1 := by simp
  have hbl3 := hbl.trans ((below_alloc (w.alloc (.cells #[.bool ng, .slice A n cap, .int .i64 E, .bool bad] 80)) (.cells #[.bool false, .slice none 0 0, .int .i64 0, .bool false] 80)).mono (by rw [s1]; omega))
  have s2 : ((w.alloc (.cells #[.bool ng, .slice A n cap, .int .i64 E, .bool bad] 80)).alloc (.cells #[.bool false, .slice none 0 0, .int .i64 0, .bool false] 80)).heap.size = w.heap.size + 2 := by simp
  have hx1 := ((below_alloc (w.alloc (.cells #[.bool ng, .slice A n cap, .int .i64 E, .bool bad] 80)) (.cells #[.bool false, .slice none 0 0, .int .i64 0, .bool false] 80)).block w.heap.size (by rw [s1]; omega)).trans hx0
  rw [s1] at hr0
  clear hx0 s1 hbl
  go_enter Tryz.func47, Tryz.ntmps47
  go_wp2_with fail
  generalize (w.alloc (.cells #[.bool ng, .slice A n cap, .int .i64 E, .bool bad] 80)).alloc (.cells #[.bool false, .slice none 0 0, .int .i64 0, .bool false] 80) = W2 at *
  refine (Of_any W2 a ha).mono ?_
  rintro e w3 ⟨na, va, Ea, rfl, _, hb3, Aa, ca, ka, rfl, _⟩
  have hx3 := (hb3.block w.heap.size (by rw [s2]; omega)).trans hx1
  have hr3 := (hb3.block (w.heap.size + 1) (by rw [s2]; omega)).trans hr0
  have hbl4 := hbl3.trans (hb3.mono hbl3.size)
  have hs3 : w.heap.size + 2 ≤ w3.heap.size := by rw [← s2]; exact hb3.size
  go_wp2_with fail
  have hb4 := below_alloc w3 (.cells #[.bool na, .slice Aa ca ka, .int .i64 Ea] 29)
  have hx4 := (hb4.block w.heap.size (by omega)).trans hx3
  have hr4 := (hb4.block (w.heap.size + 1) (by omega)).trans hr3
  have hbl5 := hbl4.trans (hb4.mono hbl4.size)
  have hs4 := hb4.size
  clear hx3 hr3 hbl4 hbl3 hb3 hx1 hr0
  generalize w3.alloc (.cells #[.bool na, .slice Aa ca ka, .int .i64 Ea] 29) = W4 at *
  refine (Of_any W4 b hb).mono ?_
  rintro e w5 ⟨nb, vb, Eb, rfl, _, hb5, Ab, cb, kb, rfl, _⟩
  have hx5 := (hb5.block w.heap.size (by omega)).trans hx4
  have hr5 := (hb5.block (w.heap.size + 1) (by omega)).trans hr4
  have hbl6 := hbl5.trans (hb5.mono hbl5.size)
  have hs5 := hb5.size
  obtain ⟨x0, x1, x2, x3⟩ := cells4 hx5
  have hb6 := below_alloc w5 (.cells #[.bool nb, .slice Ab cb kb, .int .i64 Eb] 29)
  have hx6 := (hb6.block w.heap.size (by omega)).trans hx5
  have hr6 := (hb6.block (w.heap.size + 1) (by omega)).trans hr5
  have hbl7 := hbl6.trans (hb6.mono hbl6.size)
  go_upto_region 3 with fail
  clear x0 x1 x2 x3 hx5 hr5 hbl6 hx4 hr4 hbl5 hb5
  generalize w5.alloc (.cells #[.bool nb, .slice Ab cb kb, .int .i64 Eb] 29) = W6 at *
  obtain ⟨x0, x1, x2, x3⟩ := cells4 hx6
  obtain ⟨r0, r1, r2, r3⟩ := cells4 hr6
  have hfr : ∀ j, W6.frozen? ⟨w.heap.size + 1, j, none⟩ = false := fun j => frozen_of_row W6 _ j _ _ hr6
  obtain ⟨ba, hba⟩ : ∃ ba, ba = (fexp a != 2047) := ⟨_, rfl⟩
  obtain ⟨bb, hbb⟩ : ∃ bb, bb = (fexp b != 2047) := ⟨_, rfl⟩
  rw [← hba, ← hbb]
  have hcase : bad = true ∨ ba = false ∨ bb = false ∨ m < -64 ∨ 64 < m := by
    rcases h with h | h | h | h | h
    · exact Or.inl h
    · exact Or.inr (Or.inl (by rw [hba, h]; rfl))
    · exact Or.inr (Or.inr (Or.inl (by rw [hbb, h]; rfl)))
    · exact Or.inr (Or.inr (Or.inr (Or.inl h)))
    · exact Or.inr (Or.inr (Or.inr (Or.inr h)))
  clear h hba hbb ha hb
  go_cut [40] from 23 to 39 (fun c wx => c = .bool true ∧ W6 = wx)
  case first =>
    by_cases h1 : m < -64
    · cases bad <;> cases ba <;> cases bb
      all_goals go_wp2_with fail
      all_goals go_meet
      all_goals exact ⟨rfl, rfl⟩
    · have h1d : decide (m < -64) = false := by simp; omega
      by_cases h2 : 64 < m
      · cases bad <;> cases ba <;> cases bb
        all_goals go_wp2_with fail
        all_goals go_meet
        all_goals exact ⟨rfl, rfl⟩
      · have h3 : bad = true ∨ ba = false ∨ bb = false := by
          rcases hcase with h | h | h | h | h
          · exact Or.inl h
          · exact Or.inr (Or.inl h)
          · exact Or.inr (Or.inr h)
          · exact absurd h h1
          · exact absurd h h2
        clear hcase
        cases bad <;> cases ba <;> cases bb
        all_goals first | (exfalso; simp at h3; done) | skip
        all_goals clear h3
        all_goals go_wp2_with fail
        all_goals go_meet
        all_goals exact ⟨rfl, rfl⟩
  case rest =>
    obtain ⟨hcv, rfl⟩ := hcut
    subst hcv
    go_wp2_with fail
    obtain ⟨hg9, hgr9⟩ := set4 hr6 (.bool false) (.slice none 0 0) (.int .i64 0) (.bool true)
    have hb9 := hbl7.trans (below_of_grown' hgr9 hbl7.size (by omega))
    generalize (((W6.setCell ⟨w.heap.size + 1, 0, none⟩ (.bool false)).setCell ⟨w.heap.size + 1, 1, none⟩ (.slice none 0 0)).setCell ⟨w.heap.size + 1, 2, none⟩ (.int .i64 0)).setCell ⟨w.heap.size + 1, 3, none⟩ (.bool true) = W9 at *
    obtain ⟨j0, j1, j2, j3⟩ := cells4 hg9
    refine bodyPost_ret (v := .agg #[.bool false, .slice none 0 0, .int .i64 0, .bool true]) (by simp [results, Tryz.results47, go_sem, j0, j1, j2, j3]) rfl ?_
    exact ⟨_, _, _, _, rfl, ⟨⟨_, _, _, rfl⟩, rfl⟩, hb9⟩
set_option linter.unusedVariables false
set_option linter.unusedSimpArgs false
open Go Go.RowKit
set_option maxRecDepth 100000
theorem NumIs.form {w : World} {neg : Bool} {v : Value} {E z : Int} (h : NumIs w neg v E z) : ∃ A n cap, v = .slice A n cap ∧ n ≤ 1000000 := by
  obtain ⟨M, hm, _⟩ := NumIs.def'.1 h
  obtain ⟨A, n, cap, hv, hn, _⟩ := hm.form
  exact ⟨A, n, cap, hv, hn⟩
theorem TimesIs.form {w : World} {neg : Bool} {v : Value} {E : Int} {a b : Nat} (h : TimesIs w neg v E a b) : ∃ A n cap, v = .slice A n cap ∧ n ≤ 1000000 := by
  rcases h with ⟨_, _, rfl, _⟩ | ⟨_, _, _, h⟩
  · exact ⟨none, 0, 0, rfl, by omega⟩
  · obtain ⟨A, n, cap, hv, hn, _⟩ := h.form
    exact ⟨A, n, cap, hv, hn⟩
set_option maxHeartbeats 8000000 in
theorem ref3Prod_good (w : World) (ng : Bool) (A : Option Addr) (n cap : Nat) (E z : Int) (a b : Nat) (m : Int) (ha : a < B64) (hb : b < B64) (hx : NumIs w ng (.slice A n cap) E z) (hzl : z.natAbs < LIM) (ea : fexp a ≠ 2047) (eb : fexp b ≠ 2047) (hm1 : -64 ≤ m) (hm2 : m ≤ 64) :
    Calls Tryz.prog 47 #[.agg #[.bool ng, .slice A n cap, .int .i64 E, .bool false], .int .u64 (a : Nat), .int .u64 (b : Nat), .int .i64 m] w fun e w' => TellsAcc w e w' (clip (z + prodZ a b m)) := by
  have hbl := below_alloc w (.cells #[.bool ng, .slice A n cap, .int .i64 E, .bool false] 80)
  have hal : (a : Int) ≤ 18446744073709551615 := by unfold B64 at ha; omega
  have hbl2 : (b : Int) ≤ 18446744073709551615 := by unfold B64 at hb; omega
  have hr0 := heap_alloc_new (w.alloc (.cells #[.bool ng, .slice A n cap, .int .i64 E, .bool false] 80)) (.cells #[.bool false, .slice none 0 0, .int .i64 0, .bool false] 80)
  have hx0 := heap_alloc_new w (.cells #[.bool ng, .slice A n cap, .int .i64 E, .bool false] 80)
  have s1 : (w.alloc (.cells #[.bool ng, .slice A n cap, .int .i64 E, .bool false] 80)).heap.size = w.heap.size + 1 := by simp
  have hbl3 := hbl.trans ((below_alloc (w.alloc (.cells #[.bool ng, .slice A n cap, .int .i64 E, .bool false] 80)) (.cells #[.bool false, .slice none 0 0, .int .i64 0, .bool false] 80)).mono (by rw [s1]; omega))
  have s2 : ((w.alloc (.cells #[.bool ng, .slice A n cap, .int .i64 E, .bool false] 80)).alloc (.cells #[.bool false, .slice none 0 0, .int .i64 0, .bool false] 80)).heap.size = w.heap.size + 2 := by simp
  have hx1 := ((below_alloc (w.alloc (.cells #[.bool ng, .slice A n cap, .int .i64 E, .bool false] 80)) (.cells #[.bool false, .slice none 0 0, .int .i64 0, .bool false] 80)).block w.heap.size (by rw [s1]; omega)).trans hx0
  rw [s1] at hr0
  clear hx0 s1 hbl
  have hba : (fexp a != 2047) = true := by rw [bne_iff_ne]; exact ea
  have hbb : (fexp b != 2047) = true := by rw [bne_iff_ne]; exact eb
  have hcap := prodS_cap z a b m hzl ea eb hm2
  go_enter Tryz.func47, Tryz.ntmps47
  go_wp2_with fail
  generalize (w.alloc (.cells #[.bool ng, .slice A n cap, .int .i64 E, .bool false] 80)).alloc (.cells #[.bool false, .slice none 0 0, .int .i64 0, .bool false] 80) = W2 at *
  refine (Of_any W2 a ha).mono ?_
  rintro e w3 ⟨na, va, Ea, rfl, ho3, hb3, Aa, ca, ka, rfl, _⟩
  have hx3 := (hb3.block w.heap.size (by rw [s2]; omega)).trans hx1
  have hr3 := (hb3.block (w.heap.size + 1) (by rw [s2]; omega)).trans hr0
  have hbl4 := hbl3.trans (hb3.mono hbl3.size)
  have ho3' := ho3 ea
  clear ho3
  have hs3 : w.heap.size + 2 ≤ w3.heap.size := by rw [← s2]; exact hb3.size
  go_wp2_with fail
  have hb4 := below_alloc w3 (.cells #[.bool na, .slice Aa ca ka, .int .i64 Ea] 29)
  have hx4 := (hb4.block w.heap.size (by omega)).trans hx3
  have hr4 := (hb4.block (w.heap.size + 1) (by omega)).trans hr3
  have hbl5 := hbl4.trans (hb4.mono hbl4.size)
  have hs4 := hb4.size
  have hp4 := heap_alloc_new w3 (.cells #[.bool na, .slice Aa ca ka, .int .i64 Ea] 29)
  have hz4 : w3.heap.size + 1 ≤ (w3.alloc (.cells #[.bool na, .slice Aa ca ka, .int .i64 Ea] 29)).heap.size := by simp
  have ho4 := ho3'.below hb4
  clear ho3'
  clear hx3 hr3 hbl4 hbl3 hb3 hx1 hr0
  generalize w3.alloc (.cells #[.bool na, .slice Aa ca ka, .int .i64 Ea] 29) = W4 at *
  refine (Of_any W4 b hb).mono ?_
  rintro e w5 ⟨nb, vb, Eb, rfl, ho5, hb5, Ab, cb, kb, rfl, _⟩
  have hx5 := (hb5.block w.heap.size (by omega)).trans hx4
  have hr5 := (hb5.block (w.heap.size + 1) (by omega)).trans hr4
  have hbl6 := hbl5.trans (hb5.mono hbl5.size)
  have hs5 := hb5.size
  have hp5 := (hb5.block w3.heap.size (by omega)).trans hp4
  have ho5' := ho5 eb
  have ho4' := ho4.below hb5
  clear ho5 ho4
  obtain ⟨x0, x1, x2, x3⟩ := cells4 hx5
  have hb6 := below_alloc w5 (.cells #[.bool nb, .slice Ab cb kb, .int .i64 Eb] 29)
  have hx6 := (hb6.block w.heap.size (by omega)).trans hx5
  have hr6 := (hb6.block (w.heap.size + 1) (by omega)).trans hr5
  have hbl7 := hbl6.trans (hb6.mono hbl6.size)
  have hp6 := (hb6.block w3.heap.size (by omega)).trans hp5
  have hq6 := heap_alloc_new w5 (.cells #[.bool nb, .slice Ab cb kb, .int .i64 Eb] 29)
  have hz6 : w5.heap.size + 1 ≤ (w5.alloc (.cells #[.bool nb, .slice Ab cb kb, .int .i64 Eb] 29)).heap.size := by simp
  have hs6 := hb6.size
  have hoA := ho4'.below hb6
  have hoB := ho5'.below hb6
  have hxn := hx.below hbl7
  clear ho4' ho5' hp5 hp4
  go_upto_region 3 with fail
  clear x0 x1 x2 x3 hx5 hr5 hbl6 hx4 hr4 hbl5 hb5
  generalize w5.alloc (.cells #[.bool nb, .slice Ab cb kb, .int .i64 Eb] 29) = W6 at *
  obtain ⟨x0, x1, x2, x3⟩ := cells4 hx6
  obtain ⟨r0, r1, r2, r3⟩ := cells4 hr6
  obtain ⟨p0, p1, p2⟩ := cells3 hp6
  obtain ⟨q0, q1, q2⟩ := cells3 hq6
  have hfr : ∀ j, W6.frozen? ⟨w.heap.size + 1, j, none⟩ = false := fun j => frozen_of_row W6 _ j _ _ hr6
  clear ha hb
  go_wp2_with fail
  have hd6 := hbl7.drew
  have tx : w.heap.size < W6.drew.heap.size := by show _ < W6.heap.size; omega
  have tr : w.heap.size + 1 < W6.drew.heap.size := by show _ < W6.heap.size; omega
  have tp : w3.heap.size < W6.drew.heap.size := by show _ < W6.heap.size; omega
  have tq : w5.heap.size < W6.drew.heap.size := by show _ < W6.heap.size; omega
  have hr6d : W6.drew.heap[w.heap.size + 1]? = some (.cells #[.bool false, .slice none 0 0, .int .i64 0, .bool false] 80 (0, 0)) := hr6
  have x0d : W6.drew.cell? ⟨w.heap.size, 0, none⟩ = some (.bool ng) := x0
  have x1d : W6.drew.cell? ⟨w.heap.size, 1, none⟩ = some (.slice A n cap) := x1
  have x2d : W6.drew.cell? ⟨w.heap.size, 2, none⟩ = some (.int .i64 E) := x2
  have p0d : W6.drew.cell? ⟨w3.heap.size, 0, none⟩ = some (.bool na) := p0
  have p1d : W6.drew.cell? ⟨w3.heap.size, 1, none⟩ = some (.slice Aa ca ka) := p1
  have p2d : W6.drew.cell? ⟨w3.heap.size, 2, none⟩ = some (.int .i64 Ea) := p2
  have q0d : W6.drew.cell? ⟨w5.heap.size, 0, none⟩ = some (.bool nb) := q0
  have q1d : W6.drew.cell? ⟨w5.heap.size, 1, none⟩ = some (.slice Ab cb kb) := q1
  have q2d : W6.drew.cell? ⟨w5.heap.size, 2, none⟩ = some (.int .i64 Eb) := q2
  have hxd : NumIs W6.drew ng (.slice A n cap) E z := hxn.below (Below.refl _ _).drew
  have hAd := hoA.below (Below.refl _ W6).drew
  have hBd := hoB.below (Below.refl _ W6).drew
  have hnx : some w.heap.size ≠ some (w.heap.size + 1) := by simp
  have hnp : some w3.heap.size ≠ some (w.heap.size + 1) := by simp; omega
  have hnq : some w5.heap.size ≠ some (w.heap.size + 1) := by simp; omega
  clear x0 x1 x2 x3 r0 r1 r2 r3 p0 p1 p2 q0 q1 q2 hx6 hr6 hp6 hq6 hxn hoA hoB hbl7 hfr
  go_region_held3 (fun w' => w'.cell? ⟨w.heap.size, 0, none⟩ = some (.bool ng) ∧ w'.cell? ⟨w.heap.size, 1, none⟩ = some (.slice A n cap) ∧ w'.cell? ⟨w.heap.size, 2, none⟩ = some (.int .i64 E) ∧ w'.cell? ⟨w3.heap.size, 0, none⟩ = some (.bool na) ∧ w'.cell? ⟨w3.heap.size, 1, none⟩ = some (.slice Aa ca ka) ∧ w'.cell? ⟨w3.heap.size, 2, none⟩ = some (.int .i64 Ea) ∧ w'.cell? ⟨w5.heap.size, 0, none⟩ = some (.bool nb) ∧ w'.cell? ⟨w5.heap.size, 1, none⟩ = some (.slice Ab cb kb) ∧ w'.cell? ⟨w5.heap.size, 2, none⟩ = some (.int .i64 Eb))
    (first | (with_reducible exact ⟨(set4 q10 _ _ _ _).2.cell ((c10.cell (p := ⟨w.heap.size, 0, none⟩) tx).trans x0d) hnx, (set4 q10 _ _ _ _).2.cell ((c10.cell (p := ⟨w.heap.size, 1, none⟩) tx).trans x1d) hnx, (set4 q10 _ _ _ _).2.cell ((c10.cell (p := ⟨w.heap.size, 2, none⟩) tx).trans x2d) hnx, (set4 q10 _ _ _ _).2.cell ((c10.cell (p := ⟨w3.heap.size, 0, none⟩) tp).trans p0d) hnp, (set4 q10 _ _ _ _).2.cell ((c10.cell (p := ⟨w3.heap.size, 1, none⟩) tp).trans p1d) hnp, (set4 q10 _ _ _ _).2.cell ((c10.cell (p := ⟨w3.heap.size, 2, none⟩) tp).trans p2d) hnp, (set4 q10 _ _ _ _).2.cell ((c10.cell (p := ⟨w5.heap.size, 0, none⟩) tq).trans q0d) hnq, (set4 q10 _ _ _ _).2.cell ((c10.cell (p := ⟨w5.heap.size, 1, none⟩) tq).trans q1d) hnq, (set4 q10 _ _ _ _).2.cell ((c10.cell (p := ⟨w5.heap.size, 2, none⟩) tq).trans q2d) hnq⟩) | (with_reducible exact ⟨(c10.cell (p := ⟨w.heap.size, 0, none⟩) tx).trans x0d, (c10.cell (p := ⟨w.heap.size, 1, none⟩) tx).trans x1d, (c10.cell (p := ⟨w.heap.size, 2, none⟩) tx).trans x2d, (c10.cell (p := ⟨w3.heap.size, 0, none⟩) tp).trans p0d, (c10.cell (p := ⟨w3.heap.size, 1, none⟩) tp).trans p1d, (c10.cell (p := ⟨w3.heap.size, 2, none⟩) tp).trans p2d, (c10.cell (p := ⟨w5.heap.size, 0, none⟩) tq).trans q0d, (c10.cell (p := ⟨w5.heap.size, 1, none⟩) tq).trans q1d, (c10.cell (p := ⟨w5.heap.size, 2, none⟩) tq).trans q2d⟩) | (with_reducible exact ⟨(c9.cell (p := ⟨w.heap.size, 0, none⟩) tx).trans x0d, (c9.cell (p := ⟨w.heap.size, 1, none⟩) tx).trans x1d, (c9.cell (p := ⟨w.heap.size, 2, none⟩) tx).trans x2d, (c9.cell (p := ⟨w3.heap.size, 0, none⟩) tp).trans p0d, (c9.cell (p := ⟨w3.heap.size, 1, none⟩) tp).trans p1d, (c9.cell (p := ⟨w3.heap.size, 2, none⟩) tp).trans p2d, (c9.cell (p := ⟨w5.heap.size, 0, none⟩) tq).trans q0d, (c9.cell (p := ⟨w5.heap.size, 1, none⟩) tq).trans q1d, (c9.cell (p := ⟨w5.heap.size, 2, none⟩) tq).trans q2d⟩) | (with_reducible exact ⟨(c8.cell (p := ⟨w.heap.size, 0, none⟩) tx).trans x0d, (c8.cell (p := ⟨w.heap.size, 1, none⟩) tx).trans x1d, (c8.cell (p := ⟨w.heap.size, 2, none⟩) tx).trans x2d, (c8.cell (p := ⟨w3.heap.size, 0, none⟩) tp).trans p0d, (c8.cell (p := ⟨w3.heap.size, 1, none⟩) tp).trans p1d, (c8.cell (p := ⟨w3.heap.size, 2, none⟩) tp).trans p2d, (c8.cell (p := ⟨w5.heap.size, 0, none⟩) tq).trans q0d, (c8.cell (p := ⟨w5.heap.size, 1, none⟩) tq).trans q1d, (c8.cell (p := ⟨w5.heap.size, 2, none⟩) tq).trans q2d⟩) | (with_reducible exact ⟨(c7.cell (p := ⟨w.heap.size, 0, none⟩) tx).trans x0d, (c7.cell (p := ⟨w.heap.size, 1, none⟩) tx).trans x1d, (c7.cell (p := ⟨w.heap.size, 2, none⟩) tx).trans x2d, (c7.cell (p := ⟨w3.heap.size, 0, none⟩) tp).trans p0d, (c7.cell (p := ⟨w3.heap.size, 1, none⟩) tp).trans p1d, (c7.cell (p := ⟨w3.heap.size, 2, none⟩) tp).trans p2d, (c7.cell (p := ⟨w5.heap.size, 0, none⟩) tq).trans q0d, (c7.cell (p := ⟨w5.heap.size, 1, none⟩) tq).trans q1d, (c7.cell (p := ⟨w5.heap.size, 2, none⟩) tq).trans q2d⟩) | (with_reducible exact ⟨x0d, x1d, x2d, p0d, p1d, p2d, q0d, q1d, q2d⟩))
    (first | (go_at_call 12; refine (Times_any _ _ _ _ _ _ _ a b hAd hBd ea eb).mono ?_; rintro e w7 ⟨nt, vt, Et, rfl, ht7, c7⟩; obtain ⟨At, ct, kt, rfl, hct⟩ := ht7.form) | (go_at_call 11; refine (moved_num _ _ _ _ a b m ht7 ea eb hm1 hm2).mono ?_; rintro e w8 ⟨Em, rfl, hm8, b8⟩; have c8 := c7.trans (b8.mono c7.size)) | (go_at_call 10; refine (plus_num _ _ _ _ _ _ _ z (prodZ a b m) (hxd.below c8) hm8 hcap).mono ?_; rintro e w9 ⟨ns, vs, Es, rfl, hn9, b9⟩; obtain ⟨As, cs, ks, rfl, hcs⟩ := hn9.form; have c9 := c8.trans (b9.mono c8.size)) | (go_at_call 70; refine (held_any _ _ _ _ _ hn9).mono ?_; rintro e w10 ⟨nh, vh, Eh, bh, rfl, ⟨⟨Ah, ch, kh, rfl⟩, hh10⟩, b10⟩; have c10 := c9.trans (b10.mono c9.size); have q10 := (c10.block _ tr).trans hr6d; obtain ⟨y0, y1, y2, y3⟩ := cells4 q10; have hfr3 : (∀ j, w10.frozen? ⟨w.heap.size + 1, j, none⟩ = false) := (fun j => frozen_of_row w10 _ j _ _ q10)))
  go_wp2_with fail
  have q10 := (c10.block _ tr).trans hr6d
  obtain ⟨hg11, hgr11⟩ := set4 q10 (.bool nh) (.slice Ah ch kh) (.int .i64 Eh) (.bool bh)
  have hb11 := (hd6.trans (c10.mono hd6.size)).trans (below_of_grown' hgr11 (hd6.trans (c10.mono hd6.size)).size (by omega))
  have hh11 : RefAccIs ((((w10.setCell ⟨w.heap.size + 1, 0, none⟩ (.bool nh)).setCell ⟨w.heap.size + 1, 1, none⟩ (.slice Ah ch kh)).setCell ⟨w.heap.size + 1, 2, none⟩ (.int .i64 Eh)).setCell ⟨w.heap.size + 1, 3, none⟩ (.bool bh)) nh (.slice Ah ch kh) Eh bh (clip (z + prodZ a b m)) := by
    refine ⟨⟨_, _, _, rfl⟩, ?_⟩
    revert hh10
    generalize clip (z + prodZ a b m) = s
    intro hh10
    cases s with
    | none => exact hh10
    | some y => exact ⟨hh10.1, hh10.2.1.racc q10 hgr11, hh10.2.2⟩
  generalize (((w10.setCell ⟨w.heap.size + 1, 0, none⟩ (.bool nh)).setCell ⟨w.heap.size + 1, 1, none⟩ (.slice Ah ch kh)).setCell ⟨w.heap.size + 1, 2, none⟩ (.int .i64 Eh)).setCell ⟨w.heap.size + 1, 3, none⟩ (.bool bh) = W11 at *
  obtain ⟨j0, j1, j2, j3⟩ := cells4 hg11
  refine bodyPost_ret (v := .agg #[.bool nh, .slice Ah ch kh, .int .i64 Eh, .bool bh]) (by simp [results, Tryz.results47, go_sem, j0, j1, j2, j3]) rfl ?_
  exact ⟨_, _, _, _, rfl, hh11, hb11⟩
end Go.Proofs.YtopilodakphhgaaGreatDoor
