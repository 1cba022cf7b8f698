/-
 x + 0.0; zono.plain; zono.bad.
 Lists of floats of the call's own, each in a block of its own; zonotopes made of them.
-/
import Derived.Test.YtpfbgenefjhcjaaGreatDoorPZoSup
import Derived.Test.YtpfbgenefjhcjaaGreatDoorPZoLst
import Derived.Laws.FloatArith
namespace Go.Proofs.YtpfbgenefjhcjaaGreatDoor
set_option linter.unusedVariables false
set_option linter.unusedSimpArgs false
open Go Go.RowKit
set_option maxRecDepth 100000
attribute [local go_sem] run_store_flt
def plainU (u : Nat) : Nat := if sig u = 0 then 0 else u
theorem cut_exact (s : Bool) (m k : Nat) : Ieee.Toward.even.cut s (m * 2 ^ k) k = m := by
 unfold Ieee.Toward.cut
 rcases Nat.eq_zero_or_pos m with rfl | hm
 ·rw [Nat.zero_mul]
  simp
 ·have hl : k ≤ (m * 2 ^ k).log2 := (Nat.le_log2 (by have := Nat.mul_pos hm (Nat.two_pow_pos k); omega)).2 (Nat.le_mul_of_pos_left _ hm)
  rw [Nat.min_eq_left (by omega), Nat.one_shiftLeft]
  dsimp only
  rw [Nat.mul_div_cancel _ (Nat.two_pow_pos k), Nat.mul_mod_left]
  have := Nat.two_pow_pos k
  have e : (decide (2 ^ k < 2 * 0) || (2 ^ k == 2 * 0 && m % 2 == 1)) = false := by
   rw [decide_eq_false (by omega), show (2 ^ k == 2 * 0) = false from beq_eq_false_iff_ne.2 (by omega)]
   rfl
  rw [e]
  rfl
theorem nearest_exact (s : Bool) (m k : Nat) (hm : m ≠ 0) (hm2 : m < 9007199254740992) (hk : k = 0 ∨ 4503599627370496 ≤ m) (hr : k * 4503599627370496 + m ≤ 9218868437227405312) :
  Ieee.double.nearest s (m * 2 ^ k) (-1074) = Ieee.double.word s (k * 4503599627370496 + m) := by
 have h3 : Ieee.double.binade = 4503599627370496 := by decide
 have h2 : Ieee.double.infRung = 9218868437227405312 := by decide
 have h4 : Ieee.double.leastPlace = -1074 := by decide
 have hp := Nat.two_pow_pos k
 have hpos := Nat.mul_pos (Nat.pos_of_ne_zero hm) hp
 unfold Ieee.Format.nearest
 rw [if_neg (by omega)]
 have hlog : (m * 2 ^ k).log2 = m.log2 + k := by
  refine (Nat.log2_eq_iff (by omega)).2 ⟨?_, ?_⟩
  ·rw [Nat.pow_add]; exact Nat.mul_le_mul_right _ ((Nat.log2_self_le hm))
  ·rw [show m.log2 + k + 1 = (m.log2 + 1) + k by omega, Nat.pow_add]
   exact Nat.mul_lt_mul_of_pos_right (Nat.lt_log2_self) hp
 have hml : m.log2 ≤ 52 := by
  have := (Nat.log2_lt hm).2 (show m < 2 ^ 53 from hm2)
  omega
 have hmg : k = 0 ∨ m.log2 = 52 := by
  rcases hk with h | h
  ·exact Or.inl h
  ·have := (Nat.le_log2 hm).2 (show 2 ^ 52 ≤ m from h)
   exact Or.inr (by omega)
 have hlast : max ((-1074 : Int) + ((m * 2 ^ k).log2 : Nat) - (Ieee.double.fractionBits : Nat)) Ieee.double.leastPlace = -1074 + (k : Int) := by
  rw [hlog, h4, show (Ieee.double.fractionBits : Nat) = 52 from rfl]
  omega
 dsimp only
 rw [hlast, h4, h3, h2, show ((-1074 : Int) - (-1074 + (k : Int))).toNat = 0 by omega, Nat.shiftLeft_zero, show ((-1074 : Int) + (k : Int) - (-1074)).toNat = k by omega, cut_exact, Nat.min_eq_left hr]
theorem word_of (u : Nat) (hu : u < B64) (he : fexp u ≠ 2047) : Ieee.double.word (fneg u) ((pwr u + 1074).toNat * 4503599627370496 + sig u) = u := by
 have h1 : Ieee.double.signWeight = 9223372036854775808 := by decide
 unfold Ieee.Format.word
 rw [h1]
 have hw : (pwr u + 1074).toNat * 4503599627370496 + sig u = u % 9223372036854775808 := by
  unfold pwr sig
  have h2 : u % 9223372036854775808 = fexp u * 4503599627370496 + fman u := by unfold fexp fman; omega
  rw [h2]
  split
  ·next h => rw [h]; simp
  ·next h =>
   have : ((fexp u : Int) - 1075 + 1074).toNat = fexp u - 1 := by omega
   rw [this]
   generalize fexp u = e at *
   obtain ⟨e', rfl⟩ : ∃ e', e = e' + 1 := ⟨e - 1, by omega⟩
   rw [Nat.add_sub_cancel, Nat.add_mul, Nat.one_mul]
   omega
 rw [hw]
 unfold fneg B64 at *
 split
 ·next h => rw [beq_iff_eq] at h; omega
 ·next h => rw [beq_iff_eq] at h; omega
theorem add_zero_num (u : Nat) (hu : u < B64) (he : fexp u ≠ 2047) : FloatKind.f64.format.add u 0 = some (plainU u) := by
 have h0 : Ieee.double.read 0 = .number false 0 (-1074) := read_num 0 (by decide) (by decide)
 have h1 := read_num u hu he
 have hp := pwr_ge u
 have hw := word_of u hu he
 show ((Ieee.double.read u).sum (Ieee.double.read 0)).map Ieee.double.write = _
 rw [h0, h1]
 unfold plainU
 show some (Ieee.double.write (.number (if Ieee.signed (fneg u) (sig u) (pwr u - min (pwr u) (-1074)).toNat + Ieee.signed false 0 (-1074 - min (pwr u) (-1074)).toNat = 0 then fneg u && false else decide (Ieee.signed (fneg u) (sig u) (pwr u - min (pwr u) (-1074)).toNat + Ieee.signed false 0 (-1074 - min (pwr u) (-1074)).toNat < 0)) (Ieee.signed (fneg u) (sig u) (pwr u - min (pwr u) (-1074)).toNat + Ieee.signed false 0 (-1074 - min (pwr u) (-1074)).toNat).natAbs (min (pwr u) (-1074)))) = _
 rw [Int.min_eq_right hp, signed_sgn, signed_sgn, Nat.zero_mul, show sgn false 0 = 0 from rfl, Int.add_zero]
 obtain ⟨k, hk⟩ : ∃ k, (pwr u + 1074).toNat = k := ⟨_, rfl⟩
 rw [show (pwr u - (-1074)).toNat = k by omega, sgn_natAbs]
 rw [hk] at hw
 by_cases hz : sig u = 0
 ·rw [if_pos hz, hz, Nat.zero_mul]
  rw [show sgn (fneg u) 0 = 0 by cases fneg u <;> rfl, if_pos rfl, Bool.and_false]
  rfl
 ·rw [if_neg hz]
  have hpos : 0 < sig u * 2 ^ k := Nat.mul_pos (Nat.pos_of_ne_zero hz) (Nat.two_pow_pos k)
  have hs : (if sgn (fneg u) (sig u * 2 ^ k) = 0 then fneg u && false else decide (sgn (fneg u) (sig u * 2 ^ k) < 0)) = fneg u := by
   generalize sig u * 2 ^ k = x at *
   cases fneg u with
   | false =>
    show (if ((x : Nat) : Int) = 0 then false else decide (((x : Nat) : Int) < 0)) = false
    rw [if_neg (by omega), decide_eq_false (by omega)]
   | true =>
    show (if -((x : Nat) : Int) = 0 then true && false else decide (-((x : Nat) : Int) < 0)) = true
    rw [if_neg (by omega), decide_eq_true (by omega)]
  rw [hs]
  show some (Ieee.double.nearest (fneg u) (sig u * 2 ^ k) (-1074)) = some u
  have hlt := sig_lt u
  have hle := pwr_le u he
  rw [nearest_exact (fneg u) (sig u) k hz hlt ?_ ?_, hw]
  ·by_cases h0 : fexp u = 0
   ·exact Or.inl (by unfold pwr at hk; rw [if_pos h0] at hk; omega)
   ·exact Or.inr (by unfold sig; rw [if_neg h0]; omega)
  ·have hx := fexp_lt u
   have hm := fman_lt u
   unfold pwr at hk
   unfold sig
   split
   ·next h => rw [if_pos h] at hk; omega
   ·next h => rw [if_neg h] at hk; omega
theorem make_flts (n : Nat) (hn : n ≤ 1000000) (w : World) : (Instr.makeSlice 22 (.int .i64 (n : Int)) (.int .i64 (n : Int))).run Tryz.prog w = .ok (.slice (some ⟨w.heap.size, 0, none⟩) n n) (w.alloc (.cells (madeCells #[.float .f64 0] n) 43)) := by
 obtain ⟨i0, hi0, hz0, hz1, hz2⟩ := info_parts infoF64
 have hr := run_make (P := Tryz.prog) w 22 43 i0 _ Tryz.underlying22 hi0 hz0 .i64 .i64 n n (by omega) (Int.le_refl _) (by rw [hz2]; omega) (by omega)
 simp only [Int.toNat_natCast] at hr
 rw [hz1, Nat.mul_one] at hr
 exact hr
theorem made_get (n j : Nat) (h : j < n) : (madeCells #[.float .f64 0] n)[j]? = some (.float .f64 0) := by
 unfold madeCells
 simp [h, Nat.mod_one]
/-- A row of floats under way. -/
def FlB (w : World) (g n : Nat) (us : List Nat) : Prop := ∃ cs : Array Value, w.heap[g]? = some (.cells cs 43 (0, 0)) ∧ cs.size = n ∧ ∀ (j : Nat) (u : Nat), us[j]? = some u → cs[j]? = some (.float .f64 u)
theorem FlB.below {w w1 : World} {g n : Nat} {us : List Nat} (h : FlB w g n us) (hb : Below w.heap.size w w1) : FlB w1 g n us := by
 obtain ⟨cs, h1, h2, h3⟩ := h
 exact ⟨cs, (hb.block g (Array.getElem?_eq_some_iff.1 h1).1).trans h1, h2, h3⟩
theorem FlB.at {w : World} {g n k : Nat} {us : List Nat} (h : FlB w g n us) (hk : k < n) : (∃ v, w.cell? ⟨g, k, none⟩ = some v) ∧ w.frozen? ⟨g, k, none⟩ = false := by
 obtain ⟨cs, h1, h2, h3⟩ := h
 refine ⟨⟨cs[k]'(by omega), ?_⟩, frozen_of_row w g _ _ _ h1⟩
 rw [cell_of_row _ _ _ _ _ _ h1]
 exact Array.getElem?_eq_getElem _
theorem FlB.set {w : World} {g n k : Nat} {us : List Nat} (h : FlB w g n us) (hk : k < n) (hl : us.length = k) (u : Nat) :
  FlB (w.setCell ⟨g, k, none⟩ (.float .f64 u)) g n (us ++ [u]) ∧ w.grownBy (w.setCell ⟨g, k, none⟩ (.float .f64 u)) (some g) := by
 obtain ⟨cs, h1, h2, h3⟩ := h
 have e1 : (w.setCell ⟨g, k, none⟩ (.float .f64 u)).heap[g]? = _ := heap_setCell_same w g _ _ _ _ h1
 refine ⟨⟨_, e1, by simp [h2], fun j t ht => ?_⟩, grown_set (grown_refl w (some g)) _ _⟩
 rcases Nat.lt_or_ge j k with hj | hj
 ·rw [List.getElem?_append_left (by omega)] at ht
  rw [Array.getElem?_setIfInBounds, if_neg (by omega)]
  exact h3 j t ht
 ·have hj' : j = k := by
   have := (List.getElem?_eq_some_iff.1 ht).1
   rw [List.length_append, List.length_singleton] at this
   omega
  subst hj'
  rw [List.getElem?_append_right (by omega), hl, Nat.sub_self] at ht
  cases ht
  rw [Array.getElem?_setIfInBounds, if_pos rfl, if_pos (by omega)]
theorem FlB.row {w : World} {g n : Nat} {us : List Nat} (h : FlB w g n us) : FR w (some ⟨g, 0, none⟩) us := fun j u hu => by
 obtain ⟨cs, h1, h2, h3⟩ := h
 refine ⟨g, 0, rfl, (Array.getElem?_eq_some_iff.1 h1).1, ?_⟩
 rw [cell_of_row _ _ _ _ _ _ h1, Nat.zero_add]
 exact h3 j u hu
set_option maxHeartbeats 4000000 in
theorem plain_any (w : World) (A : Option Addr) (n cap : Nat) (us : List Nat) (h : FR w A us) (hl : us.length = n) (hn : n ≤ 1000000) (su : Small us) (nu : ∀ u ∈ us, fexp u ≠ 2047) :
  Calls Tryz.prog 91 #[.slice A n cap] w fun e w' => ∃ g, e = .returned (.slice (some ⟨g, 0, none⟩) n n) ∧ w.heap.size ≤ g ∧ FlB w' g n (us.map plainU) ∧ Below w.heap.size w w' := by
 have hmk := make_flts n hn
 have HL := Lib.hid hl
 clear hl
 go_enter Tryz.func91, Tryz.ntmps91
 go_wp2_with fail
 have ks : FlB (w.alloc (.cells (madeCells #[.float .f64 0] n) 43)) w.heap.size n ((us.take 0).map plainU) := ⟨_, World.alloc_heap_new _ _, size_madeCells _ _, fun j s hs => by simp at hs⟩
 have kb : Below w.heap.size w (w.alloc (.cells (madeCells #[.float .f64 0] n) 43)) := below_alloc _ _
 generalize w.alloc (.cells (madeCells #[.float .f64 0] n) 43) = W2 at *
 clear hmk
 go_loopw [11] (fun kk wr => ∃ k : Nat, k ≤ n ∧ kk = .int .i64 (k : Nat) ∧ FlB wr w.heap.size n ((us.take k).map plainU) ∧ Below w.heap.size w wr) (fun kk _ => n - (intOf kk).toNat)
 case atStart => exact ⟨0, by omega, rfl, ks, kb⟩
 case round =>
  obtain ⟨k, hk, rfl, hs, hb⟩ := hrel
  clear ks kb
  by_cases hlt : k < n
  ·have hlt' : (k : Int) < n := by omega
   obtain ⟨u, hu⟩ := get_some us k (by rw [HL.out]; exact hlt)
   obtain ⟨b, o, rfl, hbb, hc⟩ := h.at hb k u hu
   have hc' : wr.cell? ⟨b, o + k, none⟩ = some (.float .f64 u) := hc
   have hadd : ∀ w, (binOp .add 43 (.float .f64 u) (.float .f64 0)).run Tryz.prog w = .ok (.float .f64 (plainU u)) w := fun w => run_float_arith w .add _ .f64 u 0 _ (add_zero_num u (su.at k u hu) (nu u (List.mem_of_getElem? hu)))
   obtain ⟨⟨v, c0⟩, z0⟩ := hs.at hlt
   obtain ⟨s1, g1⟩ := hs.set hlt (by rw [List.length_map, List.length_take, HL.out]; omega) (plainU u)
   have e1 : (us.take k).map plainU ++ [plainU u] = (us.take (k + 1)).map plainU := by rw [List.take_add_one, hu, List.map_append]; rfl
   rw [e1] at s1
   clear hc e1 hu
   go_wp2_with fail
   refine ⟨⟨k + 1, by omega, by go_num, s1, hb.trans (below_row g1 (Nat.le_refl _) hb.size)⟩, by simp [intOf]; omega⟩
  ·obtain rfl : k = n := by omega
   have hlt' : decide ((k : Int) < (k : Nat)) = false := by simp
   rw [List.take_of_length_le (by rw [HL.out]; exact Nat.le_refl _)] at hs
   go_wp2_with fail
   go_ret
   exact ⟨_, rfl, Nat.le_refl _, hs, hb⟩
/-- Which is lost: no number in it. -/
def lostV (n : Int) : Value := .agg #[.int .i64 n, .slice none 0 0, .slice none 0 0, .slice none 0 0, .slice none 0 0, .bool true]
set_option maxHeartbeats 4000000 in
theorem bad_any (w : World) (v : Value) (z : ZD) (h : ZIs w v z) (hk : ZOk z) :
  Calls Tryz.prog 90 #[v] w fun e w' => e = .returned (lostV (sizeD z)) ∧ Below w.heap.size w w' := by
 obtain ⟨A, B, C, D, kA, kB, kC, kD, rfl, hc⟩ := h
 obtain ⟨f0, f1, f2, f3⟩ := two_blocks w (.cells #[.int .i64 z.n, .slice A z.c.length kA, .slice B z.ids.length kB, .slice C z.g.length kC, .slice D z.r.length kD, .bool z.bad] 26) (.cells #[.int .i64 0, .slice none 0 0, .slice none 0 0, .slice none 0 0, .slice none 0 0, .bool false] 26)
 have hgd := good_any _ _ z ⟨A, B, C, D, kA, kB, kC, kD, rfl, hc.below f3⟩ hk
 have hlo := fun w1 (hb : Below w.heap.size w w1) => lost_any w1 _ z ⟨A, B, C, D, kA, kB, kC, kD, rfl, hc.below hb⟩
 unfold sizeD lostV
 unfold zval at hgd hlo ⊢
 cases hg : goodD z with
 | true =>
  rw [hg] at hgd
  rw [Bool.true_or, if_pos rfl]
  go_enter Tryz.func90, Tryz.ntmps90
  go_wp2_with fail
  refine hgd.mono ?_
  rintro e w1 ⟨rfl, hb⟩
  have hb1 := f3.trans (hb.mono f3.size)
  rw [f2] at hb
  have g0 := (hb.block _ (by omega)).trans f0
  have g1 := (hb.block _ (by omega)).trans f1
  obtain ⟨x0, x1, x2, x3, x4, x5⟩ := cells6 g0
  obtain ⟨y0, y1, y2, y3, y4, y5⟩ := cells6 g1
  have hfr := fun j => frozen_of_row w1 _ j _ _ g1
  clear x1 x2 x3 x4 x5
  go_wp2_with fail
  obtain ⟨q1, q2⟩ := set6 g1 (.int .i64 z.n) (.slice none 0 0) (.slice none 0 0) (.slice none 0 0) (.slice none 0 0) (.bool true)
  obtain ⟨c0, c1, c2, c3, c4, c5⟩ := cells6 q1
  refine bodyPost_ret (v := .agg #[.int .i64 z.n, .slice none 0 0, .slice none 0 0, .slice none 0 0, .slice none 0 0, .bool true]) (by simp [results, Tryz.results90, go_sem, c0, c1, c2, c3, c4, c5]) rfl ?_

  exact ⟨rfl, hb1.trans (below_row q2 (by omega) hb1.size)⟩
 | false =>
  rw [hg] at hgd
  rw [Bool.false_or]
  generalize lostD z = lz at hlo ⊢
  cases lz with
  | true =>
   rw [if_pos rfl]
   go_enter Tryz.func90, Tryz.ntmps90
   go_wp2_with fail
   refine hgd.mono ?_
   rintro e w1 ⟨rfl, hb⟩
   have hb1 := f3.trans (hb.mono f3.size)
   rw [f2] at hb
   have g0 := (hb.block _ (by omega)).trans f0
   have g1 := (hb.block _ (by omega)).trans f1
   have hsz := hb.size
   rw [f2] at hsz
   obtain ⟨x0, x1, x2, x3, x4, x5⟩ := cells6 g0
   have hlo1 := hlo w1 hb1
   clear hb f0 f1 f2 f3 hlo hgd
   go_wp2_with fail
   refine hlo1.mono ?_
   rintro e w2 ⟨rfl, hb'⟩
   have hb2 := hb1.trans (hb'.mono hb1.size)
   have k0 := (hb'.block _ (by omega)).trans g0
   have k1 := (hb'.block _ (by omega)).trans g1
   clear x0 x1 x2 x3 x4 x5 hlo1 hb' g0 g1
   obtain ⟨x0, x1, x2, x3, x4, x5⟩ := cells6 k0
   obtain ⟨y0, y1, y2, y3, y4, y5⟩ := cells6 k1
   have hfr := fun j => frozen_of_row w2 _ j _ _ k1
   clear x1 x2 x3 x4 x5 hc hk
   go_wp2_with fail
   obtain ⟨q1, q2⟩ := set6 k1 (.int .i64 z.n) (.slice none 0 0) (.slice none 0 0) (.slice none 0 0) (.slice none 0 0) (.bool true)
   obtain ⟨c0, c1, c2, c3, c4, c5⟩ := cells6 q1
   refine bodyPost_ret (v := .agg #[.int .i64 z.n, .slice none 0 0, .slice none 0 0, .slice none 0 0, .slice none 0 0, .bool true]) (by simp [results, Tryz.results90, go_sem, c0, c1, c2, c3, c4, c5]) rfl ?_

   exact ⟨rfl, hb2.trans (below_row q2 (by omega) hb2.size)⟩
  | false =>
   rw [if_neg (by decide)]
   go_enter Tryz.func90, Tryz.ntmps90
   go_wp2_with fail
   refine hgd.mono ?_
   rintro e w1 ⟨rfl, hb⟩
   have hb1 := f3.trans (hb.mono f3.size)
   rw [f2] at hb
   have g0 := (hb.block _ (by omega)).trans f0
   have g1 := (hb.block _ (by omega)).trans f1
   have hsz := hb.size
   rw [f2] at hsz
   obtain ⟨x0, x1, x2, x3, x4, x5⟩ := cells6 g0
   have hlo1 := hlo w1 hb1
   clear hb f0 f1 f2 f3 hlo hgd
   go_wp2_with fail
   refine hlo1.mono ?_
   rintro e w2 ⟨rfl, hb'⟩
   have hb2 := hb1.trans (hb'.mono hb1.size)
   have k0 := (hb'.block _ (by omega)).trans g0
   have k1 := (hb'.block _ (by omega)).trans g1
   clear x0 x1 x2 x3 x4 x5 hlo1 hb' g0 g1
   obtain ⟨x0, x1, x2, x3, x4, x5⟩ := cells6 k0
   obtain ⟨y0, y1, y2, y3, y4, y5⟩ := cells6 k1
   have hfr := fun j => frozen_of_row w2 _ j _ _ k1
   clear x1 x2 x3 x4 x5 hc hk
   go_wp2_with fail
   obtain ⟨q1, q2⟩ := set6 k1 (.int .i64 0) (.slice none 0 0) (.slice none 0 0) (.slice none 0 0) (.slice none 0 0) (.bool true)
   obtain ⟨c0, c1, c2, c3, c4, c5⟩ := cells6 q1
   refine bodyPost_ret (v := .agg #[.int .i64 0, .slice none 0 0, .slice none 0 0, .slice none 0 0, .slice none 0 0, .bool true]) (by simp [results, Tryz.results90, go_sem, c0, c1, c2, c3, c4, c5]) rfl ?_

   exact ⟨rfl, hb2.trans (below_row q2 (by omega) hb2.size)⟩
end Go.Proofs.YtpfbgenefjhcjaaGreatDoor
namespace Go.Proofs.YtpfbgenefjhcjaaGreatDoor
set_option linter.unusedVariables false
set_option linter.unusedSimpArgs false
open Go Go.RowKit
set_option maxRecDepth 100000
abbrev FO (base : Nat) (w : World) (v : Value) (us : List Nat) : Prop := OwnG (fun x => [cF x]) 43 1 w base v us
theorem OwnG.lowB {α : Type} {c : α → List Value} {e : TypeId} {m base base' : Nat} {w : World} {v : Value} {xs : List α} (h : OwnG c e m w base v xs) (hb : base' ≤ base) : OwnG c e m w base' v xs := by
 refine ⟨h.1, ?_⟩
 rcases h.2 with h6 | ⟨g', cap', cur, e, h6, h7⟩
 ·exact Or.inl h6
 ·exact Or.inr ⟨g', cap', cur, e, by omega, h7⟩
theorem flat_one {α : Type} (c : α → Value) (xs : List α) : xs.flatMap (fun x => [c x]) = xs.map c := by
 induction xs with
 | nil => rfl
 | cons x r ih => rw [List.flatMap_cons, ih]; rfl
/-- A row that is laid whole is a row of the call's own. -/
theorem FlB.own {w : World} {g n base : Nat} {us : List Nat} (h : FlB w g n us) (hl : us.length = n) (hb : base ≤ g) (hn : n ≤ maxLen) : FO base w (.slice (some ⟨g, 0, none⟩) n n) us := by
 obtain ⟨cs, h1, h2, h3⟩ := h
 refine ⟨?_, Or.inr ⟨g, n, cs, by rw [hl], hb, h1, by omega, hn, by rw [Nat.mul_one]; exact h2, ?_⟩⟩
 ·rw [flat_one, List.length_map, Nat.mul_one]
 ·rw [flat_one, Nat.mul_one, hl]
  refine List.ext_getElem? fun j => ?_
  by_cases hj : j < n
  ·rw [List.getElem?_take_of_lt hj, List.getElem?_map]
   obtain ⟨u, hu⟩ : ∃ u, us[j]? = some u := ⟨us[j]'(by omega), List.getElem?_eq_getElem _⟩
   have h4 := h3 j u hu
   rw [hu]
   rw [← Array.getElem?_toList] at h4
   exact h4
  ·rw [List.getElem?_eq_none (by rw [List.length_take]; omega), List.getElem?_eq_none (by rw [List.length_map]; omega)]
/-- Several lists, no two of them in one block. -/
structure FOs (base : Nat) (w : World) (vs : List Value) (uss : List (List Nat)) : Prop where
 len : vs.length = uss.length
 own : ∀ (j : Nat) (us : List Nat), uss[j]? = some us → ∃ v, vs[j]? = some v ∧ FO base w v us
 apart : ∀ (i j : Nat) (v v' : Value) (g : Nat), i < j → vs[i]? = some v → vs[j]? = some v' → v.ownBlock = some g → v'.ownBlock ≠ some g
section
variable {base : Nat} {w w1 : World} {vs : List Value} {uss : List (List Nat)}
theorem FOs.nil (base : Nat) (w : World) : FOs base w [] [] := ⟨rfl, fun j us h => by simp at h, fun i j v v' g h h1 => by simp at h1⟩
theorem FOs.below (h : FOs base w vs uss) (hb : Below w.heap.size w w1) : FOs base w1 vs uss :=
 ⟨h.len, fun j us hu => by obtain ⟨v, h1, h2⟩ := h.own j us hu; exact ⟨v, h1, h2.below hb⟩, h.apart⟩
theorem FOs.far {row : Option Nat} {t0 : TypeId} (h : FOs base w vs uss) (hg : w.grownBy w1 row) (hr : ∀ g, row = some g → Typed w g t0) (hne : 43 ≠ t0) : FOs base w1 vs uss :=
 ⟨h.len, fun j us hu => by obtain ⟨v, h1, h2⟩ := h.own j us hu; exact ⟨v, h1, h2.farR hg hr hne⟩, h.apart⟩
theorem FOs.snoc {v : Value} {us : List Nat} (h : FOs base w vs uss) (hb : Below w.heap.size w w1) (hv : FO w.heap.size w1 v us) (hbase : base ≤ w.heap.size) : FOs base w1 (vs ++ [v]) (uss ++ [us]) := by
 have hb' := h.below hb
 refine ⟨by simp [h.len], fun j xs hx => ?_, fun i j v1 v2 g hij h1 h2 hg => ?_⟩
 ·by_cases hj : j < uss.length
  ·rw [List.getElem?_append_left hj] at hx
   obtain ⟨v', h1, h2⟩ := hb'.own j xs hx
   exact ⟨v', by rw [List.getElem?_append_left (by rw [h.len]; exact hj)]; exact h1, h2⟩
  ·have hl := (List.getElem?_eq_some_iff.1 hx).1
   rw [List.length_append, List.length_singleton] at hl
   obtain rfl : j = uss.length := by omega
   rw [List.getElem?_append_right (Nat.le_refl _), Nat.sub_self] at hx
   cases hx
   exact ⟨v, by rw [List.getElem?_append_right (by rw [h.len]; exact Nat.le_refl _), h.len, Nat.sub_self]; rfl, hv.lowB hbase⟩
 ·have hl := (List.getElem?_eq_some_iff.1 h2).1
  rw [List.length_append, List.length_singleton] at hl
  by_cases hj : j < vs.length
  ·rw [List.getElem?_append_left (by omega)] at h1
   rw [List.getElem?_append_left hj] at h2
   exact h.apart i j v1 v2 g hij h1 h2 hg
  ·obtain rfl : j = vs.length := by omega
   rw [List.getElem?_append_left hij] at h1
   rw [List.getElem?_append_right (Nat.le_refl _), Nat.sub_self] at h2
   cases h2
   intro h3
   have k1 := (hv.lt g h3).1
   obtain ⟨us1, hu1⟩ : ∃ us1, uss[i]? = some us1 := ⟨uss[i]'(by rw [← h.len]; exact hij), List.getElem?_eq_getElem _⟩
   obtain ⟨v1', e1, o1⟩ := h.own i us1 hu1
   rw [h1] at e1
   cases e1
   have := (o1.lt g hg).2
   omega
theorem FOs.low {base' : Nat} (h : FOs base w vs uss) (hb : base' ≤ base) : FOs base' w vs uss :=
 ⟨h.len, fun j us hu => by obtain ⟨v, h1, h2⟩ := h.own j us hu; exact ⟨v, h1, h2.lowB hb⟩, h.apart⟩
theorem FOs.get {j : Nat} {v : Value} {us : List Nat} (h : FOs base w vs uss) (hv : vs[j]? = some v) (hu : uss[j]? = some us) : FO base w v us := by
 obtain ⟨v', h1, h2⟩ := h.own j us hu
 rw [hv] at h1
 cases h1
 exact h2
end
/-- A zonotope whose lists are the call's own, each in a block of its own. -/
structure ZOwnC (base : Nat) (w : World) (z : ZD) (vc vi vg vr : Value) (vals : List Value) : Prop where
 fl : FOs base w (vc :: vr :: vals) (z.c :: z.r :: z.g)
 ids : OwnG (fun x => [cI x]) 3 1 w base vi z.ids
 g : OwnG (fun x => [cV x]) 22 1 w base vg vals
def ZOwn (base : Nat) (w : World) (v : Value) (z : ZD) : Prop := ∃ (vc vi vg vr : Value) (vals : List Value), v = .agg #[.int .i64 z.n, vc, vi, vg, vr, .bool z.bad] ∧ ZOwnC base w z vc vi vg vr vals
theorem ZOwn.below {base : Nat} {w w1 : World} {v : Value} {z : ZD} (h : ZOwn base w v z) (hb : Below w.heap.size w w1) : ZOwn base w1 v z := by
 obtain ⟨vc, vi, vg, vr, vals, e, h1, h2, h3⟩ := h
 exact ⟨vc, vi, vg, vr, vals, e, h1.below hb, h2.below hb, h3.below hb⟩
theorem ZOwn.low {base base' : Nat} {w : World} {v : Value} {z : ZD} (h : ZOwn base w v z) (hb : base' ≤ base) : ZOwn base' w v z := by
 obtain ⟨vc, vi, vg, vr, vals, e, h1, h2, h3⟩ := h
 exact ⟨vc, vi, vg, vr, vals, e, h1.low hb, h2.lowB hb, h3.lowB hb⟩
theorem LAt.caps {α : Type} {c : α → Value} {w : World} {A : Option Addr} {cap : Nat} {xs : List α} (h : LAt c w A cap xs) : xs.length ≤ cap ∧ cap ≤ maxLen ∧ (A = none → cap = 0) := ⟨h.len, h.most, h.nil⟩
theorem ZOwnC.is {base : Nat} {w : World} {z : ZD} {vc vi vg vr : Value} {vals : List Value} (h : ZOwnC base w z vc vi vg vr vals) : ZIs w (.agg #[.int .i64 z.n, vc, vi, vg, vr, .bool z.bad]) z := by
 have hc := h.fl.get (j := 0) rfl rfl
 have hr := h.fl.get (j := 1) rfl rfl
 obtain ⟨A, cA, rfl, lA⟩ := hc.lat
 obtain ⟨D, cD, rfl, lD⟩ := hr.lat
 obtain ⟨B, cB, rfl, lB⟩ := h.ids.lat
 obtain ⟨C, cC, rfl, lC⟩ := h.g.lat
 have hl : vals.length = z.g.length := by have := h.fl.len; simp at this; exact this
 have hCc := lC.caps
 rw [hl] at hCc ⊢
 refine ⟨A, B, C, D, cA, cB, cC, cD, rfl, lA.row, lB.row, fun k g hg => ?_, lD.row, lA.caps, lB.caps, hCc, lD.caps⟩
 obtain ⟨v, hv, ho⟩ := h.fl.own (k + 2) g hg
 obtain ⟨E, cE, rfl, lE⟩ := ho.lat
 obtain ⟨b, o, e, hb, hcell⟩ := lC.row k _ hv
 exact ⟨b, o, e, hb, E, cE, hcell, lE.len, lE.most, lE.row⟩
theorem ZOwn.is {base : Nat} {w : World} {v : Value} {z : ZD} (h : ZOwn base w v z) : ZIs w v z := by
 obtain ⟨vc, vi, vg, vr, vals, rfl, h⟩ := h
 exact h.is
theorem lost_own (base : Nat) (w : World) (n : Int) : ZOwn base w (lostV n) (lostZ n) := by
 refine ⟨.slice none 0 0, .slice none 0 0, .slice none 0 0, .slice none 0 0, [], rfl, ⟨rfl, fun j us hu => ?_, fun i j v v' g hij h1 h2 hg => ?_⟩, OwnG.nil _ _, OwnG.nil _ _⟩
 ·match j, hu with
  | 0, hu => cases hu; exact ⟨_, rfl, OwnG.nil _ _⟩
  | 1, hu => cases hu; exact ⟨_, rfl, OwnG.nil _ _⟩
  | (j + 2), hu => simp [lostZ] at hu
 ·match i, h1 with
  | 0, h1 => cases h1; cases hg
  | 1, h1 => cases h1; cases hg
  | (i + 2), h1 => simp at h1
/-! ### Columns out of boxes -/
def unitL (n i u : Nat) : List Nat := (List.replicate n 0).set i u
/-- The columns behind the first k numbers of R; none: an Id would be too great. -/
def liftT (z : ZD) (next : Int) : Nat → Option (List Int × List (List Nat) × Int)
 | 0 => some (z.ids, z.g.map fun g => g.map plainU, next)
 | k + 1 => match liftT z next k with
  | none => none
  | some (ids, g, a) => if sig (z.r.getD k 0) = 0 then some (ids, g, a) else if 1073741824 < a then none else some (ids ++ [a], g ++ [unitL z.n.toNat k (z.r.getD k 0)], a + 1)
def liftOk (z : ZD) (next : Int) : Bool := goodD z && decide (0 ≤ next) && (z.ids.length == 0 || decide (z.ids.getD (z.ids.length - 1) 0 < next))
def liftZ (z : ZD) (ids : List Int) (g : List (List Nat)) : ZD := ⟨z.n, z.c.map plainU, ids, g, List.replicate z.n.toNat 0, false⟩
def liftD (z : ZD) (next : Int) : ZD × Int :=
 if liftOk z next then match liftT z next z.n.toNat with
  | none => (lostZ z.n, next)
  | some (ids, g, a) => (liftZ z ids g, a)
 else (lostZ (sizeD z), next)
theorem liftT_zero (z : ZD) (next : Int) : liftT z next 0 = some (z.ids, z.g.map fun g => g.map plainU, next) := rfl
theorem liftT_skip {z : ZD} {next : Int} {k u : Nat} {ids : List Int} {g : List (List Nat)} {a : Int} (h : liftT z next k = some (ids, g, a)) (hu : z.r[k]? = some u) (hs : sig u = 0) : liftT z next (k + 1) = some (ids, g, a) := by
 unfold liftT
 rw [h, List.getD_eq_getElem?_getD, hu]
 exact if_pos hs
theorem liftT_over {z : ZD} {next : Int} {k u : Nat} {ids : List Int} {g : List (List Nat)} {a : Int} (h : liftT z next k = some (ids, g, a)) (hu : z.r[k]? = some u) (hs : sig u ≠ 0) (ha : 1073741824 < a) : liftT z next (k + 1) = none := by
 unfold liftT
 rw [h, List.getD_eq_getElem?_getD, hu]
 exact (if_neg hs).trans (if_pos ha)
theorem liftT_more {z : ZD} {next : Int} {k u : Nat} {ids : List Int} {g : List (List Nat)} {a : Int} (h : liftT z next k = some (ids, g, a)) (hu : z.r[k]? = some u) (hs : sig u ≠ 0) (ha : a ≤ 1073741824) : liftT z next (k + 1) = some (ids ++ [a], g ++ [unitL z.n.toNat k u], a + 1) := by
 unfold liftT
 rw [h, List.getD_eq_getElem?_getD, hu]
 exact (if_neg hs).trans (if_neg (by omega))
theorem liftT_none {z : ZD} {next : Int} {k : Nat} (h : liftT z next k = none) : ∀ j, k ≤ j → liftT z next j = none := by
 intro j
 induction j with
 | zero =>
  intro hk; obtain rfl : k = 0 := by omega
  exact h
 | succ j ih =>
  intro hk
  by_cases e : k = j + 1
  ·rw [← e]; exact h
  ·unfold liftT
   rw [ih (by omega)]
/-- How many there are. -/
theorem liftT_len {z : ZD} {next : Int} : ∀ {k : Nat} {ids : List Int} {g : List (List Nat)} {a : Int}, liftT z next k = some (ids, g, a) → ids.length ≤ z.ids.length + k ∧ g.length ≤ z.g.length + k ∧ next ≤ a ∧ a ≤ next + k ∧ (a ≤ next ∨ a ≤ 1073741825) ∧ ids.length + z.g.length = g.length + z.ids.length := by
 intro k
 induction k with
 | zero =>
  intro ids g a h
  rw [liftT_zero] at h
  injection h with h
  simp only [Prod.mk.injEq] at h
  obtain ⟨rfl, rfl, rfl⟩ := h
  simp only [List.length_map]
  omega
 | succ k ih =>
  intro ids g a h
  unfold liftT at h
  split at h
  ·cases h
  ·next ids' g' a' h' =>
   have := ih h'
   split at h
   ·injection h with h
    simp only [Prod.mk.injEq] at h
    obtain ⟨rfl, rfl, rfl⟩ := h
    omega
   ·split at h
    ·cases h
    ·injection h with h
     simp only [Prod.mk.injEq] at h
     obtain ⟨rfl, rfl, rfl⟩ := h
     simp only [List.length_append, List.length_singleton]
     omega
end Go.Proofs.YtpfbgenefjhcjaaGreatDoor
