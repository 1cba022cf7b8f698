/- Whole numbers of the document; the law's parts. -/
import Derived.Test.YtpfbgenefjhcjaaGreatDoorPZoRct
import Derived.Test.YtpfbgenefjhcjaaGreatDoorZoAgn0
import Derived.IntWalk
namespace Go.Proofs.YtpfbgenefjhcjaaGreatDoor
set_option linter.unusedVariables false
set_option linter.unusedSimpArgs false
open Go Go.RowKit
set_option maxRecDepth 100000
theorem NV.zero0 (w : World) : NumR 0 0 w ⟨false, none, 0, 0, 0⟩ 0 := ⟨(NV.zero_r w).is, Int.le_refl _, Int.le_refl _⟩
theorem mag_two {w : World} {g M : Nat} (hM : M < 4294967296) (h : w.heap[g]? = some (.cells #[.int .u32 (M : Int), .int .u32 ((M : Int) / 4294967296)] 136 (0, 0))) : V32 w g 2 0 2 (dg M) := by
  refine ⟨_, h, rfl, fun j _ hj => ?_⟩
  match j, hj with
  | 0, _ =>
    have e : dg M 0 = M := by unfold dg; rw [Nat.pow_zero, Nat.div_one]; exact Nat.mod_eq_of_lt hM
    rw [e]
    rfl
  | 1, _ =>
    have e : dg M 1 = 0 := by unfold dg; rw [Nat.pow_one, show M / W32 = 0 from Nat.div_eq_of_lt hM]; rfl
    have e2 : (M : Int) / 4294967296 = 0 := by omega
    rw [e, e2]
    rfl
theorem small_W (a M : Nat) (ha : 1 ≤ a) (h : M < 4294967296) : M < W32 ^ a := by
  have h1 : W32 ^ 1 ≤ W32 ^ a := Nat.pow_le_pow_right W32_pos ha
  rw [Nat.pow_one] at h1
  have : W32 = 4294967296 := rfl
  omega
def oneZ : Int := (UN : Nat)
theorem whole_real (neg : Bool) (M : Nat) : sgn neg M * oneZ = sgn neg (M * 2 ^ ((0 : Int) + 2212).toNat) := by
  unfold oneZ UN
  rw [show ((0 : Int) + 2212).toNat = expU from rfl]
  unfold sgn
  cases neg
  · rw [if_neg (by decide), if_neg (by decide), Int.natCast_mul]
  · rw [if_pos rfl, if_pos rfl, Int.natCast_mul, Int.neg_mul]
set_option maxHeartbeats 2000000 in
theorem Whole_any (w : World) (neg : Bool) (M : Nat) (hM : M ≤ 1048576) (h0 : M ≠ 0) : Calls Tryz.prog 39 #[.int .i64 (sgn neg M)] w fun e w' => ∃ x : NV, e = .returned (.agg #[.bool x.neg, .slice x.A x.n x.cap, .int .i64 x.E]) ∧ NumR 0 0 w' x (sgn neg M * oneZ) ∧ Below w.heap.size w w' := by
  rw [whole_real]
  cases neg with
  | true =>
      have hs : sgn true M = -(M : Int) := rfl
      rw [hs]
      have hw : IntKind.u64.wrap (-IntKind.u64.wrap (-(M : Int))) = (M : Int) := by
        rw [IntKind.wrap_u64, IntKind.wrap_u64]
        omega
      have hneg : -(M : Int) < 0 := by omega
      have hne : (-(M : Int) == 0) = false := by rw [beq_eq_false_iff_ne]; omega
      have hi : (M : Int) % 4294967296 = (M : Int) := by omega
      have hj : (M : Int) / 4294967296 % 4294967296 = (M : Int) / 4294967296 := by omega
      clear hs
      go_enter Tryz.func39, Tryz.ntmps39
      obtain ⟨f0, f1, f2, f3⟩ := two_blocks w (.cells #[.bool false, .slice none 0 0, .int .i64 0] 70) (.cells #[.int .u32 (M : Int), .int .u32 ((M : Int) / 4294967296)] 136)
      have htr := trim_row _ _ 2 2 M (mag_two (by omega) f1) (by unfold W32; omega) (Nat.le_refl _) (by decide)
      go_wp2_with fail
      refine htr.mono ?_
      rintro e w' ⟨⟨k, hk, hnl, rfl⟩, rfl⟩
      clear htr
      generalize hWd : (w.alloc (.cells #[.bool false, .slice none 0 0, .int .i64 0] 70)).alloc (.cells #[.int .u32 (M : Int), .int .u32 ((M : Int) / 4294967296)] 136) = W at *
      have hB : NumB W w.heap.size ⟨false, none, 0, 0, 0⟩ := f0
      obtain ⟨q0, q1, q2⟩ := hB.cells
      have hfr := fun j => frozen_of_row W _ j _ _ f0
      have hput := hB.put ⟨true, some ⟨w.heap.size + 1, 0, none⟩, k, 2, 0⟩
      have hV := mag_two (by omega) f1
      have hN := Lib.hid hnl
      clear hnl hWd
      go_wp2_with fail
      obtain ⟨c0, c1, c2⟩ := hput.1.cells
      refine bodyPost_ret (v := .agg #[.bool true, .slice (some ⟨w.heap.size + 1, 0, none⟩) k 2, .int .i64 0]) (by simp [results, Tryz.results39, go_sem, c0, c1, c2]) rfl ?_
      have hIs : NumIs (((W.setCell ⟨w.heap.size, 0, none⟩ (.bool true)).setCell ⟨w.heap.size, 1, none⟩ (.slice (some ⟨w.heap.size + 1, 0, none⟩) k 2)).setCell ⟨w.heap.size, 2, none⟩ (.int .i64 0)) true (.slice (some ⟨w.heap.size + 1, 0, none⟩) k 2) 0 (sgn true (M * 2 ^ ((0 : Int) + 2212).toNat)) := NumIs.def'.2 ⟨M, Or.inr ⟨w.heap.size + 1, k, 2, rfl, hk, by decide, hN.out, (hV.grown hput.2 (by simp)).weaken (fun j a b => ⟨a, by omega, rfl⟩)⟩, fun _ => rfl, by omega, by omega, (by obtain ⟨n, hn⟩ : ∃ n, n = 400 := ⟨400, rfl⟩; rw [← hn]; exact small_W n M (by omega) (by omega)), rfl⟩
      exact ⟨⟨true, some ⟨w.heap.size + 1, 0, none⟩, k, 2, 0⟩, rfl, ⟨hIs, Int.le_refl _, Int.le_refl _⟩, f3.trans (below_row hput.2 (Nat.le_refl _) f3.size)⟩
  | false =>
      have hs : sgn false M = (M : Int) := rfl
      rw [hs]
      have hneg : decide ((M : Int) < 0) = false := decide_eq_false (by omega)
      have hne : ((M : Int) == 0) = false := by rw [beq_eq_false_iff_ne]; omega
      clear hs
      go_enter Tryz.func39, Tryz.ntmps39
      obtain ⟨f0, f1, f2, f3⟩ := two_blocks w (.cells #[.bool false, .slice none 0 0, .int .i64 0] 70) (.cells #[.int .u32 (M : Int), .int .u32 ((M : Int) / 4294967296)] 136)
      have htr := trim_row _ _ 2 2 M (mag_two (by omega) f1) (by unfold W32; omega) (Nat.le_refl _) (by decide)
      go_wp2_with fail
      refine htr.mono ?_
      rintro e w' ⟨⟨k, hk, hnl, rfl⟩, rfl⟩
      clear htr
      generalize hWd : (w.alloc (.cells #[.bool false, .slice none 0 0, .int .i64 0] 70)).alloc (.cells #[.int .u32 (M : Int), .int .u32 ((M : Int) / 4294967296)] 136) = W at *
      have hB : NumB W w.heap.size ⟨false, none, 0, 0, 0⟩ := f0
      obtain ⟨q0, q1, q2⟩ := hB.cells
      have hfr := fun j => frozen_of_row W _ j _ _ f0
      have hput := hB.put ⟨false, some ⟨w.heap.size + 1, 0, none⟩, k, 2, 0⟩
      have hV := mag_two (by omega) f1
      have hN := Lib.hid hnl
      clear hnl hWd
      go_wp2_with fail
      obtain ⟨c0, c1, c2⟩ := hput.1.cells
      refine bodyPost_ret (v := .agg #[.bool false, .slice (some ⟨w.heap.size + 1, 0, none⟩) k 2, .int .i64 0]) (by simp [results, Tryz.results39, go_sem, c0, c1, c2]) rfl ?_
      have hIs : NumIs (((W.setCell ⟨w.heap.size, 0, none⟩ (.bool false)).setCell ⟨w.heap.size, 1, none⟩ (.slice (some ⟨w.heap.size + 1, 0, none⟩) k 2)).setCell ⟨w.heap.size, 2, none⟩ (.int .i64 0)) false (.slice (some ⟨w.heap.size + 1, 0, none⟩) k 2) 0 (sgn false (M * 2 ^ ((0 : Int) + 2212).toNat)) := NumIs.def'.2 ⟨M, Or.inr ⟨w.heap.size + 1, k, 2, rfl, hk, by decide, hN.out, (hV.grown hput.2 (by simp)).weaken (fun j a b => ⟨a, by omega, rfl⟩)⟩, fun _ => rfl, by omega, by omega, (by obtain ⟨n, hn⟩ : ∃ n, n = 400 := ⟨400, rfl⟩; rw [← hn]; exact small_W n M (by omega) (by omega)), rfl⟩
      exact ⟨⟨false, some ⟨w.heap.size + 1, 0, none⟩, k, 2, 0⟩, rfl, ⟨hIs, Int.le_refl _, Int.le_refl _⟩, f3.trans (below_row hput.2 (Nat.le_refl _) f3.size)⟩
theorem Whole_zero (w : World) : Calls Tryz.prog 39 #[.int .i64 0] w fun e w' => e = .returned (.agg #[.bool false, .slice none 0 0, .int .i64 0]) ∧ Below w.heap.size w w' := by
  go_enter Tryz.func39, Tryz.ntmps39
  go_wp2_with fail
  go_returns
  exact ⟨rfl, below_alloc w _⟩
theorem WholeI (w : World) (n : Int) (h1 : -1048576 ≤ n) (h2 : n ≤ 1048576) : Calls Tryz.prog 39 #[.int .i64 n] w fun e w' => ∃ x : NV, e = .returned (.agg #[.bool x.neg, .slice x.A x.n x.cap, .int .i64 x.E]) ∧ NumR 0 0 w' x (n * oneZ) ∧ Below w.heap.size w w' := by
  by_cases h0 : n = 0
  · subst h0
    refine (Whole_zero w).mono fun e w' h => ?_
    refine ⟨⟨false, none, 0, 0, 0⟩, h.1, ?_, h.2⟩
    rw [Int.zero_mul]
    exact NV.zero0 w'
  · by_cases hn : n < 0
    · have h := Whole_any w true n.natAbs (by omega) (by omega)
      rw [show sgn true n.natAbs = n by show -(n.natAbs : Int) = n; omega] at h
      exact h
    · have h := Whole_any w false n.natAbs (by omega) (by omega)
      rw [show sgn false n.natAbs = n by show (n.natAbs : Int) = n; omega] at h
      exact h
set_option maxHeartbeats 1000000 in
theorem Moved_nought (w : World) (neg : Bool) (A : Option Addr) (cap : Nat) (E k : Int) :
    Calls Tryz.prog 124 #[.agg #[.bool neg, .slice A 0 cap, .int .i64 E], .int .i64 k] w fun e w' => e = .returned (.agg #[.bool neg, .slice A 0 cap, .int .i64 E]) ∧ Below w.heap.size w w' := by
  go_enter Tryz.func124, Tryz.ntmps124
  go_wp2_with fail
  go_returns
  exact ⟨rfl, (below_alloc w _).trans ((below_alloc _ _).mono (by simp))⟩
/-- A number moved down. -/
theorem Moved_r (w : World) (x : NV) (n : Int) (q : Nat) (hq : q ≤ 16) (h : NumR 0 0 w x (n * oneZ)) : Calls Tryz.prog 124 #[.agg #[.bool x.neg, .slice x.A x.n x.cap, .int .i64 x.E], .int .i64 (-(q : Int))] w fun e w' => ∃ y : NV, e = .returned (.agg #[.bool y.neg, .slice y.A y.n y.cap, .int .i64 y.E]) ∧ NumR (-16) 0 w' y (n * (2 ^ (expU - q) : Nat)) ∧ Below w.heap.size w w' := by
  have hlo := h.lo
  have hhi := h.hi
  have hE : x.E = 0 := by omega
  obtain ⟨M, hm, h0, _, _, hW, hz⟩ := NumIs.def'.1 h.is
  rw [hE] at hz
  by_cases hM : M = 0
  · subst hM
    obtain ⟨A, k, cap, e1, _, hk⟩ := hm.form
    injection e1 with e1 e2 e3
    have hn0 : x.n = 0 := by rw [e2]; exact hk.2 rfl
    have hn : n = 0 := by
      rw [Nat.zero_mul] at hz
      have e : sgn x.neg 0 = 0 := by unfold sgn; split <;> rfl
      rw [e] at hz
      have hu := UN_pos
      unfold oneZ at hz
      rcases Int.mul_eq_zero.1 hz with h | h
      · exact h
      · omega
    rw [hn0]
    refine (Moved_nought w x.neg x.A x.cap x.E (-(q : Int))).mono fun e w' hh => ?_
    refine ⟨⟨x.neg, x.A, 0, x.cap, x.E⟩, hh.1, ?_, hh.2⟩
    have hr := (h.below hh.2)
    rw [hn, Int.zero_mul] at hr ⊢
    refine ⟨?_, by show (-16 : Int) ≤ x.E; omega, by show x.E ≤ 0; omega⟩
    have := hr.is
    rw [hn0] at this
    exact this
  · refine (Moved_any w x.neg _ M x.E (-(q : Int)) hm ⟨by omega, by omega⟩ ⟨by omega, by omega⟩ hM).mono fun e w' hh => ?_
    refine ⟨⟨x.neg, x.A, x.n, x.cap, x.E + -(q : Int)⟩, hh.1, ⟨NumIs.def'.2 ⟨M, hm.below hh.2, fun h => absurd h hM, (by show (-2212 : Int) ≤ x.E + -(q : Int); omega), (by show x.E + -(q : Int) ≤ 5000; omega), hW, ?_⟩, (by show (-16 : Int) ≤ x.E + -(q : Int); omega), (by show x.E + -(q : Int) ≤ 0; omega)⟩, hh.2⟩
    show n * ((2 ^ (expU - q) : Nat) : Int) = sgn x.neg (M * 2 ^ (x.E + -(q : Int) + 2212).toNat)
    rw [hE, show ((0 : Int) + -(q : Int) + 2212).toNat = expU - q by unfold expU; omega]
    have hz2 : n * oneZ = sgn x.neg M * oneZ := by rw [hz, ← whole_real]
    have hu := UN_pos
    have hn : n = sgn x.neg M := Int.eq_of_mul_eq_mul_right (by unfold oneZ; omega) hz2
    rw [hn]
    generalize 2 ^ (expU - q) = T
    unfold sgn
    cases x.neg
    · rw [if_neg (by decide), if_neg (by decide), Int.natCast_mul]
    · rw [if_pos rfl, if_pos rfl, Int.natCast_mul, Int.neg_mul]
/-- How a number of bits is cut to 0 to 16. -/
def bitsQ (nb : Int) : Nat := ((nb.tmod 17 + 17).tmod 17).toNat
theorem bitsQ_lt (nb : Int) : bitsQ nb < 17 := by
  obtain ⟨t, ht, h1, h2, q, hq, hl⟩ := idx_tmod nb 17 (by decide)
  unfold bitsQ
  rw [show ((17 : Nat) : Int) = 17 from rfl] at *
  rw [ht, hq]
  omega
/-- A real from -1 to 1. -/
def partZ (l : List Int) (k : Nat) (nb : Int) : Int := match l[k]? with
  | none => oneZ
  | some li => (((li.tmod (2 * (2 ^ bitsQ nb : Nat) + 1) + (2 * (2 ^ bitsQ nb : Nat) + 1)).tmod (2 * (2 ^ bitsQ nb : Nat) + 1)) - (2 ^ bitsQ nb : Nat)) * (2 ^ (expU - bitsQ nb) : Nat)
set_option maxHeartbeats 4000000 in
theorem part_any (w : World) (A : Option Addr) (cap : Nat) (l : List Int) (k : Nat) (nb : Int) (h : IR w A l) :
    Calls Tryz.prog 84 #[.slice A l.length cap, .int .i64 (k : Int), .int .i64 nb] w fun e w' => ∃ y : NV, e = .returned (.agg #[.bool y.neg, .slice y.A y.n y.cap, .int .i64 y.E]) ∧ NumR (-16) 0 w' y (partZ l k nb) ∧ Below w.heap.size w w' := by
  obtain ⟨t, ht, ht1, ht2, q0, hq0, hl0⟩ := idx_tmod nb 17 (by decide)
  rw [show ((17 : Nat) : Int) = 17 from rfl] at *
  have hq : bitsQ nb = q0 := by unfold bitsQ; rw [ht, hq0]; rfl
  have hwt : IntKind.i64.wrap (t + 17) = t + 17 := by
    rw [IntKind.wrap_i64]
    omega
  have hb0 := below_alloc w (.cells #[.bool false, .slice none 0 0, .int .i64 0] 70)
  have hB : NumB (w.alloc (.cells #[.bool false, .slice none 0 0, .int .i64 0] 70)) w.heap.size ⟨false, none, 0, 0, 0⟩ := heap_alloc_new w _
  by_cases hlt : k < l.length
  · obtain ⟨li, hli⟩ := get_some l k hlt
    obtain ⟨b, o, rfl, hb, hc0⟩ := h k li hli
    have hc := (hb0.cell (p := ⟨b, o + k, none⟩) hb).trans hc0
    have hc' : (w.alloc (.cells #[.bool false, .slice none 0 0, .int .i64 0] 70)).cell? ⟨b, o + k, none⟩ = some (.int .i64 li) := hc
    have hge : decide ((l.length : Int) ≤ (k : Int)) = false := decide_eq_false (by omega)
    have hge' : decide (l.length ≤ k) = false := decide_eq_false (by omega)
    have hP16 : 2 ^ q0 ≤ 2 ^ 16 := Nat.pow_le_pow_right (by decide) (by omega)
    have hP1 := Nat.two_pow_pos q0
    have hPI : (2 : Int) ^ q0 = ((2 ^ q0 : Nat) : Int) := by rw [Int.natCast_pow]; rfl
    have hpz : partZ l k nb = (((li.tmod (2 * (2 ^ q0 : Nat) + 1) + (2 * (2 ^ q0 : Nat) + 1)).tmod (2 * (2 ^ q0 : Nat) + 1)) - (2 ^ q0 : Nat)) * (2 ^ (expU - q0) : Nat) := by
      unfold partZ
      rw [hli, hq]
    obtain ⟨s, hs, hs1, hs2, i, hi, hil⟩ := idx_tmod li (2 * 2 ^ q0 + 1) (by omega)
    rw [show ((2 * 2 ^ q0 + 1 : Nat) : Int) = 2 * ((2 ^ q0 : Nat) : Int) + 1 by omega] at *
    rw [hs, hi] at hpz
    rw [hpz]
    generalize 2 ^ q0 = P at *
    have hws : IntKind.i64.wrap (s + (2 * (P : Int) + 1)) = s + (2 * (P : Int) + 1) := by
      rw [IntKind.wrap_i64]
      omega
    have hP16' : P ≤ 65536 := hP16
    have hWh := fun w1 => WholeI w1 ((i : Int) - (P : Int)) (by omega) (by omega)
    have hq17 : q0 < 17 := hl0
    have hwi : IntKind.i64.wrap ((i : Int) - (P : Int)) = (i : Int) - (P : Int) := by
      rw [IntKind.wrap_i64]
      omega
    have hwq : IntKind.i64.wrap (-(q0 : Int)) = -(q0 : Int) := by
      rw [IntKind.wrap_i64]
      omega
    have hq0' : (0 : Int) ≤ (q0 : Int) := by omega
    have hnz : 2 * (P : Int) + 1 ≠ 0 := by omega
    have hB0 := Lib.hid hb0
    clear hpz hc hc0 hli hl0 hil hP16 hq hb0 h
    go_enter Tryz.func84, Tryz.ntmps84
    go_wp2_with fail
    refine (hWh _).mono ?_
    rintro e w1 ⟨x, rfl, hx, hb1⟩
    have hmv := Moved_r w1 x _ q0 (by omega) hx
    go_wp2_with fail
    refine hmv.mono ?_
    rintro e w2 ⟨y, rfl, hy, hb2⟩
    have hB2 := (hB.below hb1).below hb2
    obtain ⟨q0', q1', q2'⟩ := hB2.cells
    have hfr := fun j => frozen_of_row w2 _ j _ _ hB2
    have hput := hB2.put y
    have HX := Lib.hid (And.intro hy ((hB0.out.trans (hb1.mono hB0.out.size)).trans (hb2.mono (hB0.out.trans (hb1.mono hB0.out.size)).size)))
    clear hmv hx hb1 hb2 hB hc' hWh hy
    go_wp2_with fail
    obtain ⟨c0, c1, c2⟩ := hput.1.cells
    refine bodyPost_ret (v := .agg #[.bool y.neg, .slice y.A y.n y.cap, .int .i64 y.E]) (by simp [results, Tryz.results84, go_sem, c0, c1, c2]) rfl ?_
    exact ⟨y, rfl, HX.out.1.far hput.2 (fun g e => by cases e; exact hB2.typed) (by decide), HX.out.2.trans (below_row hput.2 (Nat.le_refl _) HX.out.2.size)⟩
  · have hli : l[k]? = none := List.getElem?_eq_none (by omega)
    have hpz : partZ l k nb = oneZ := by unfold partZ; rw [hli]
    have hge : (l.length : Int) ≤ (k : Int) := by omega
    rw [hpz]
    have hW := fun w1 => WholeI w1 1 (by decide) (by decide)
    rw [Int.one_mul] at hW
    clear hpz hli h
    go_enter Tryz.func84, Tryz.ntmps84
    go_wp2_with fail
    refine (hW _).mono ?_
    rintro e w1 ⟨x, rfl, hx, hb1⟩
    have hB2 := hB.below hb1
    obtain ⟨q0', q1', q2'⟩ := hB2.cells
    have hfr := fun j => frozen_of_row w1 _ j _ _ hB2
    have hput := hB2.put x
    have HX := Lib.hid (And.intro (hx.wide (lo' := -16) (hi' := 0) (by omega) (by omega)) (hb0.trans (hb1.mono hb0.size)))
    clear hW hx hb1 hB hb0
    go_wp2_with fail
    obtain ⟨c0, c1, c2⟩ := hput.1.cells
    refine bodyPost_ret (v := .agg #[.bool x.neg, .slice x.A x.n x.cap, .int .i64 x.E]) (by simp [results, Tryz.results84, go_sem, c0, c1, c2]) rfl ?_
    exact ⟨x, rfl, HX.out.1.far hput.2 (fun g e => by cases e; exact hB2.typed) (by decide), HX.out.2.trans (below_row hput.2 (Nat.le_refl _) HX.out.2.size)⟩
end Go.Proofs.YtpfbgenefjhcjaaGreatDoor
