/-
 ambitref2: rows of 32-bit limbs; trim. ambitref2: length, word, Sign, Size, Moved, Length. ambitref2.left: a row of limbs shifted up. ambitref2.Of: a float's number.
 ambitref2: plus, minus, cmp of rows of limbs.
 ambitref2: minus and cmp of rows of limbs.
-/
import Derived.Test.YtpfbgenefjhcjaaGreatDoorPNatLo
import Derived.Test.YtpfbgenefjhcjaaGreatDoorPIntAll
import Derived.Test.YtpfbgenefjhcjaaGreatDoorPTold
import Derived.Handy
import Derived.Deep.CutRange
import Derived.BigQuiet
namespace Go.Proofs.YtpfbgenefjhcjaaGreatDoor
set_option linter.unusedVariables false
set_option linter.unusedSimpArgs false
open Go Go.RowKit
set_option maxRecDepth 100000
def W32 : Nat := 4294967296
theorem W32_pos : 0 < W32 := by decide
theorem W32_pow (i : Nat) : 0 < W32 ^ i := Nat.pow_pos W32_pos
theorem W32_two (i : Nat) : W32 ^ i = 2 ^ (32 * i) := by rw [Nat.pow_mul]; rfl
/-- Limb i. -/
def dg (M i : Nat) : Nat := M / W32 ^ i % W32
theorem dg_lt (M i : Nat) : dg M i < W32 := Nat.mod_lt _ W32_pos
theorem dg_le (M i : Nat) : dg M i ≤ 4294967295 := by have := dg_lt M i; unfold W32 at this; omega
theorem dg_add (M i : Nat) : M % W32 ^ (i + 1) = M % W32 ^ i + dg M i * W32 ^ i := by
 unfold dg
 rw [Nat.pow_succ, Nat.mod_mul, Nat.mul_comm (W32 ^ i)]
/-- Block g is a row of cap limbs, of which those from lo on, below hi, are F's. -/
def V32 (w : World) (g cap lo hi : Nat) (F : Nat → Nat) : Prop :=
 ∃ cur, w.heap[g]? = some (.cells cur 136 (0, 0)) ∧ cur.size = cap ∧ ∀ j, lo ≤ j → j < hi → cur[j]? = some (.int .u32 (F j : Nat))
section
variable {w w1 : World} {g cap lo hi lo' hi' : Nat} {F F' : Nat → Nat}
theorem V32.cell (h : V32 w g cap lo hi F) (j : Nat) (h1 : lo ≤ j) (h2 : j < hi) : w.cell? ⟨g, j, none⟩ = some (.int .u32 (F j : Nat)) := by
 obtain ⟨cur, hc, _, hv⟩ := h
 rw [cell_of_row w g j _ _ _ hc]
 exact hv j h1 h2
theorem V32.some (h : V32 w g cap lo hi F) (j : Nat) (hj : j < cap) : ∃ v, w.cell? ⟨g, j, none⟩ = some v := by
 obtain ⟨cur, hc, hs, _⟩ := h
 rw [cell_of_row w g j _ _ _ hc]
 exact ⟨cur[j]'(by omega), Array.getElem?_eq_getElem _⟩
theorem V32.free (h : V32 w g cap lo hi F) (j : Nat) : w.frozen? ⟨g, j, none⟩ = false := by
 obtain ⟨cur, hc, _, _⟩ := h
 exact frozen_of_row w g j _ _ hc
theorem V32.lt (h : V32 w g cap lo hi F) : g < w.heap.size := by
 obtain ⟨cur, hc, _, _⟩ := h
 exact (Array.getElem?_eq_some_iff.1 hc).1
theorem V32.heap (h : V32 w g cap lo hi F) (hb : w1.heap[g]? = w.heap[g]?) : V32 w1 g cap lo hi F := by
 obtain ⟨cur, hc, hs, hv⟩ := h
 exact ⟨cur, hb.trans hc, hs, hv⟩
theorem V32.below (h : V32 w g cap lo hi F) (hb : Below w.heap.size w w1) : V32 w1 g cap lo hi F := h.heap (hb.block g h.lt)
theorem V32.grown {row : Option Nat} (h : V32 w g cap lo hi F) (hg : w.grownBy w1 row) (hr : Option.some g ≠ row) : V32 w1 g cap lo hi F := h.heap (hg.block g h.lt hr)
theorem V32.weaken (h : V32 w g cap lo hi F) (h3 : ∀ j, lo' ≤ j → j < hi' → lo ≤ j ∧ j < hi ∧ F j = F' j) : V32 w g cap lo' hi' F' := by
 obtain ⟨cur, hc, hs, hv⟩ := h
 exact ⟨cur, hc, hs, fun j a b => by obtain ⟨c1, c2, c3⟩ := h3 j a b; rw [hv j c1 c2, c3]⟩
/-- A store: the cells that are known, and the one that is stored. -/
theorem V32.set (h : V32 w g cap lo hi F) (k u : Nat) (hk : k < cap) (hu : u = F' k) (hF : ∀ j, lo' ≤ j → j < hi' → j ≠ k → lo ≤ j ∧ j < hi ∧ F j = F' j) :
  V32 (w.setCell ⟨g, k, none⟩ (.int .u32 (u : Nat))) g cap lo' hi' F' := by
 obtain ⟨cur, hc, hs, hv⟩ := h
 refine ⟨cur.setIfInBounds k (.int .u32 (u : Nat)), heap_setCell_same w g k _ _ _ hc, by simpa using hs, fun j a b => ?_⟩
 rw [Array.getElem?_setIfInBounds]
 by_cases hj : k = j
 ·subst hj
  rw [if_pos rfl, if_pos (by omega), hu]
 ·rw [if_neg hj]
  obtain ⟨c1, c2, c3⟩ := hF j a b (fun e => hj e.symm)
  rw [hv j c1 c2, c3]
end
/-- c limbs, all 0. -/
def zero32 (c : Nat) : Array Value := madeCells (Value.int .u32 0).cells (c * 1)
theorem zero32_size (c : Nat) : (zero32 c).size = c := by unfold zero32; rw [size_madeCells, Nat.mul_one]
theorem zero32_get (c j : Nat) (h : j < c) : (zero32 c)[j]? = Option.some (.int .u32 (0 : Nat)) := by
 unfold zero32 madeCells
 simp [Value.cells, h, Nat.mod_one]
theorem V32.made (w : World) (c : Nat) : V32 (w.alloc (.cells (zero32 c) 136)) w.heap.size c 0 c (fun _ => 0) :=
 ⟨_, heap_alloc_new w _, zero32_size c, fun j _ hj => zero32_get c j hj⟩
theorem info32 : (Tryz.prog.info? 136).map (fun i => (i.zero, i.size, i.bytes)) = Option.some (Option.some (.int .u32 0), 1, 4) := by kernel_rfl
theorem run_make_32 (n c : Int) (h0 : 0 ≤ n) (h1 : n ≤ c) (h2 : c ≤ 1000000) (w : World) :
  (Instr.makeSlice 68 (.int .i64 n) (.int .i64 c)).run Tryz.prog w = .ok (.slice (Option.some ⟨w.heap.size, 0, none⟩) n.toNat c.toNat) (w.alloc (.cells (zero32 c.toNat) 136)) := by
 obtain ⟨i0, hi, hz0, hz1, hz2⟩ := info_parts info32
 have := run_make (P := Tryz.prog) w 68 136 i0 _ Tryz.underlying68 hi hz0 .i64 .i64 n c h0 h1 (by rw [hz2]; omega) (by omega)
 rw [hz1] at this
 exact this
/-- How many limbs M has. -/
def NL32 (n M : Nat) : Prop := M < W32 ^ n ∧ (0 < n → W32 ^ (n - 1) ≤ M)
theorem nl32_step (k M : Nat) (h : M < W32 ^ (k + 1)) (hz : dg M k = 0) : M < W32 ^ k := by
 have h1 := dg_add M k
 rw [hz, Nat.zero_mul, Nat.add_zero, Nat.mod_eq_of_lt h] at h1
 rw [h1]
 exact Nat.mod_lt _ (W32_pow k)
theorem nl32_stop (k M : Nat) (hz : dg M k ≠ 0) : W32 ^ k ≤ M := by
 by_cases h : W32 ^ k ≤ M
 ·exact h
 ·exfalso
  apply hz
  unfold dg
  rw [Nat.div_eq_of_lt (by omega)]
  rfl
/-- The value is a row of M's limbs, the highest not 0; or nil, of 0. -/
def MagIs (w : World) (v : Value) (M : Nat) : Prop := (v = .slice none 0 0 ∧ M = 0) ∨ ∃ g n cap, v = .slice (some ⟨g, 0, none⟩) n cap ∧ n ≤ cap ∧ cap ≤ 1000000 ∧ NL32 n M ∧ V32 w g cap 0 n (dg M)
theorem MagIs.below {w w1 : World} {v : Value} {M : Nat} (h : MagIs w v M) (hb : Below w.heap.size w w1) : MagIs w1 v M := by
 rcases h with h | ⟨g, n, cap, h1, h2, h3, h4, h5⟩
 ·exact Or.inl h
 ·exact Or.inr ⟨g, n, cap, h1, h2, h3, h4, h5.below hb⟩
theorem MagIs.heap {w w1 : World} {v : Value} {M : Nat} (h : MagIs w v M) (hb : w1.heap = w.heap) : MagIs w1 v M := by
 rcases h with h | ⟨g, n, cap, h1, h2, h3, h4, h5⟩
 ·exact Or.inl h
 ·exact Or.inr ⟨g, n, cap, h1, h2, h3, h4, h5.heap (by rw [hb])⟩
theorem nl32_zero (n M : Nat) (h : NL32 n M) : n = 0 ↔ M = 0 := by
 constructor
 ·intro e
  have := h.1
  rw [e, Nat.pow_zero] at this
  omega
 ·intro e
  refine Nat.eq_zero_of_not_pos fun hp => ?_
  have h1 := h.2 hp
  have h2 := W32_pow (n - 1)
  omega
set_option maxHeartbeats 1000000 in
theorem trim_row (w : World) (g n cap M : Nat) (h : V32 w g cap 0 n (dg M)) (hM : M < W32 ^ n) (hn : n ≤ cap) (hc : cap ≤ 1000000) :
  Calls Tryz.prog 85 #[.slice (Option.some ⟨g, 0, none⟩) n cap] w fun e w' => (∃ k, k ≤ n ∧ NL32 k M ∧ e = .returned (.slice (Option.some ⟨g, 0, none⟩) k cap)) ∧ w' = w := by
 go_enter Tryz.func85, Tryz.ntmps85
 go_wp2_with fail
 go_loop [3] (fun i => ∃ k : Nat, k ≤ n ∧ M < W32 ^ k ∧ i = .int .i64 k) (fun i => (intOf i).toNat)
 case atStart => exact ⟨n, Nat.le_refl _, hM, rfl⟩
 case round =>
  obtain ⟨k, hk, hMk, rfl⟩ := hrel
  have HM := Lib.hid hMk
  clear hMk
  by_cases h0 : k = 0
  ·subst h0
   go_wp2_with fail
   go_ret
   exact ⟨⟨0, hk, ⟨HM.out, fun h => absurd h (Nat.lt_irrefl 0)⟩, rfl⟩, rfl⟩
  ·obtain ⟨j, rfl⟩ : ∃ j, k = j + 1 := ⟨k - 1, by omega⟩
   have hcell := h.cell j (Nat.zero_le _) (by omega)
   by_cases hz : dg M j = 0
   ·have hz' : (((dg M j : Nat) : Int) == 0) = true := by rw [beq_iff_eq]; omega
    have Hz := Lib.hid hz
    clear hz
    go_wp2_with fail
    go_round
    case rel => exact ⟨j, by omega, nl32_step j M HM.out Hz.out, by go_num⟩
    case measure => simp [intOf]
   ·have hz' : (((dg M j : Nat) : Int) == 0) = false := by rw [beq_eq_false_iff_ne]; omega
    have Hz := Lib.hid hz
    clear hz
    go_wp2_with fail
    go_ret
    exact ⟨⟨j + 1, hk, ⟨HM.out, fun _ => nl32_stop j M Hz.out⟩, rfl⟩, rfl⟩
set_option linter.unusedVariables false
set_option linter.unusedSimpArgs false
open Go Go.RowKit
set_option maxRecDepth 100000
theorem blen_32 (M n L : Nat) (h : M / W32 ^ n < W32) (hL : IsLen L (M / W32 ^ n)) (h0 : 0 < L) : IsLen (32 * n + L) M := by
 have h1 := hL.1
 have h2 := hL.2 h0
 have hp := W32_pow n
 constructor
 ·rw [Nat.pow_add, ← W32_two]
  have := Nat.lt_mul_div_succ M hp
  have h3 : W32 ^ n * (M / W32 ^ n + 1) ≤ W32 ^ n * 2 ^ L := Nat.mul_le_mul_left _ h1
  omega
 ·intro _
  rw [show 32 * n + L - 1 = 32 * n + (L - 1) by omega, Nat.pow_add, ← W32_two]
  have h3 : W32 ^ n * 2 ^ (L - 1) ≤ W32 ^ n * (M / W32 ^ n) := Nat.mul_le_mul_left _ h2
  have h4 := Nat.mul_div_le M (W32 ^ n)
  omega
theorem dg_top (M n : Nat) (h : M < W32 ^ (n + 1)) : dg M n = M / W32 ^ n := by
 unfold dg
 rw [Nat.mod_eq_of_lt]
 rw [Nat.div_lt_iff_lt_mul (W32_pow n), Nat.mul_comm, ← Nat.pow_succ]
 exact h
theorem half_pow (T j : Nat) : T / 2 ^ j / 2 = T / 2 ^ (j + 1) := by rw [Nat.div_div_eq_div_mul, ← Nat.pow_succ]
set_option maxHeartbeats 1000000 in
theorem length_any (w : World) (v : Value) (M : Nat) (h : MagIs w v M) :
  Calls Tryz.prog 86 #[v] w fun e w' => e = .returned (.int .i64 (blen M : Nat)) ∧ w' = w := by
 rcases h with ⟨rfl, rfl⟩ | ⟨g, n, cap, rfl, hn, hc, hl, hv⟩
 ·go_enter Tryz.func86, Tryz.ntmps86
  go_wp2_with fail
  go_ret
  have : blen 0 = 0 := (isLen_blen 0).unique IsLen.zero
  rw [this]
  exact ⟨rfl, rfl⟩
 ·by_cases h0 : n = 0
  ·subst h0
   have hM := (nl32_zero 0 M hl).1 rfl
   subst hM
   go_enter Tryz.func86, Tryz.ntmps86
   go_wp2_with fail
   go_ret
   have : blen 0 = 0 := (isLen_blen 0).unique IsLen.zero
   rw [this]
   exact ⟨rfl, rfl⟩
  ·obtain ⟨m, rfl⟩ : ∃ m, n = m + 1 := ⟨n - 1, by omega⟩
   have hn0 : (((m + 1 : Nat) : Int) == 0) = false := by rw [beq_eq_false_iff_ne]; omega
   have hn1 : ((m : Int) + 1 == 0) = false := by rw [beq_eq_false_iff_ne]; omega
   have hcell := hv.cell m (Nat.zero_le _) (by omega)
   have hT := dg_top M m hl.1
   have hTl := dg_le M m
   have hT1 : 0 < dg M m := by
    rw [hT]
    have := hl.2 (by omega)
    exact Nat.div_pos this (W32_pow m)
   have HT := Lib.hid hT
   clear hT hl hv
   go_enter Tryz.func86, Tryz.ntmps86
   go_wp2_with fail
   clear hcell hn0 hn1
   generalize hTT : dg M m = T at *
   have HTT := Lib.hid hTT
   clear hTT
   go_loop [3, 4] (fun i x => ∃ j X : Nat, j ≤ 32 ∧ i = .int .i64 ((32 * m + j : Nat) : Int) ∧ x = .int .u32 (X : Int) ∧ X = T / 2 ^ j ∧ (j = 0 ∨ 0 < T / 2 ^ (j - 1))) (fun _ x => (intOf x).toNat)
   case atStart => exact ⟨0, T, by omega, by congr 1, rfl, by rw [Nat.pow_zero, Nat.div_one], Or.inl rfl⟩
   case round =>
    obtain ⟨j, X, hj, rfl, rfl, hX, hp⟩ := hrel
    have hXT : X ≤ 4294967295 := by rw [hX]; exact Nat.le_trans (Nat.div_le_self _ _) hTl
    by_cases hz : 0 < X
    ·have hj32 : j < 32 := by
      refine Nat.lt_of_not_le fun hge => ?_
      have h1 : T / 2 ^ j = 0 := Nat.div_eq_of_lt (Nat.lt_of_lt_of_le (show T < 2 ^ 32 by omega) (Nat.pow_le_pow_right (by decide) hge))
      omega
     have hz' : (0 : Int) < (X : Int) := by omega
     have hhalf : X / 2 = T / 2 ^ (j + 1) := by rw [hX]; exact half_pow T j
     have HX := Lib.hid hX
     have HH := Lib.hid hhalf
     clear hX hhalf hp
     go_wp2_with fail
     go_round
     case rel => exact ⟨j + 1, X / 2, by omega, by go_num, by go_num, HH.out, Or.inr (by rw [Nat.add_sub_cancel, ← HX.out]; exact hz)⟩
     case measure => simp [intOf]; omega
    ·obtain rfl : X = 0 := by omega
     have HX := Lib.hid hX
     have HP := Lib.hid hp
     clear hX hp
     go_wp2_with fail
     go_ret
     have hlen : IsLen j T := by
      constructor
      ·have := HX.out
       have h2 := Nat.lt_mul_div_succ T (Nat.two_pow_pos j)
       rw [← this] at h2
       omega
      ·intro hj0
       rcases HP.out with h1 | h1
       ·omega
       ·have h2 := Nat.mul_div_le T (2 ^ (j - 1))
        have h3 : 2 ^ (j - 1) * 1 ≤ 2 ^ (j - 1) * (T / 2 ^ (j - 1)) := Nat.mul_le_mul_left _ h1
        omega
     have hj0 : 0 < j := by
      refine Nat.pos_of_ne_zero fun e => ?_
      subst e
      have := hlen.1
      rw [Nat.pow_zero] at this
      omega
     have hTM : T = M / W32 ^ m := HT.out
     have hfin := blen_32 M m j (by rw [← hTM]; unfold W32; omega) (by rw [← hTM]; exact hlen) hj0
     rw [(isLen_blen M).unique hfin]
     exact ⟨rfl, rfl⟩
theorem MagIs.form {w : World} {v : Value} {M : Nat} (h : MagIs w v M) : ∃ A n cap, v = .slice A n cap ∧ n ≤ 1000000 ∧ (n = 0 ↔ M = 0) := by
 rcases h with ⟨rfl, rfl⟩ | ⟨g, n, cap, rfl, hn, hc, hl, hv⟩
 ·exact ⟨none, 0, 0, rfl, by omega, by simp⟩
 ·exact ⟨_, n, cap, rfl, by omega, nl32_zero n M hl⟩
theorem below_alloc (w : World) (o : Obj) : Below w.heap.size w (w.alloc o) := (Below.refl _ _).alloc (Nat.le_refl _) _
def signM (neg : Bool) (M : Nat) : Int := if M = 0 then 0 else if neg = true then -1 else 1
theorem refSign_any (w : World) (neg : Bool) (v : Value) (M : Nat) (E : Int) (h : MagIs w v M) :
  Calls Tryz.prog 40 #[.agg #[.bool neg, v, .int .i64 E]] w fun e w' => e = .returned (.int .i64 (signM neg M)) ∧ Below w.heap.size w w' := by
 obtain ⟨A, n, cap, rfl, hn, h0⟩ := h.form
 have hb := below_alloc w (.cells #[.bool neg, .slice A n cap, .int .i64 E] 70)
 by_cases hz : n = 0
 ·have hM := h0.1 hz
  subst hz
  subst hM
  clear h h0
  go_enter Tryz.func40, Tryz.ntmps40
  go_wp2_with fail
  go_ret
  exact ⟨rfl, hb⟩
 ·have hM : M ≠ 0 := fun e => hz (h0.2 e)
  have hn0 : ((n : Int) == 0) = false := by rw [beq_eq_false_iff_ne]; omega
  have hs : signM neg M = if neg = true then -1 else 1 := if_neg hM
  rw [hs]
  clear h h0 hs
  cases neg with
  | true =>
   go_enter Tryz.func40, Tryz.ntmps40
   go_wp2_with fail
   go_ret
   exact ⟨rfl, hb⟩
  | false =>
   go_enter Tryz.func40, Tryz.ntmps40
   go_wp2_with fail
   go_ret
   exact ⟨rfl, hb⟩
theorem Size_any (w : World) (neg : Bool) (A : Option Addr) (n cap : Nat) (E : Int) :
  Calls Tryz.prog 51 #[.agg #[.bool neg, .slice A n cap, .int .i64 E]] w fun e w' => e = .returned (.agg #[.bool false, .slice A n cap, .int .i64 E]) ∧ Below w.heap.size w w' := by
 go_enter Tryz.func51, Tryz.ntmps51
 go_wp2_with fail
 go_returns
 exact ⟨rfl, (below_alloc w _).trans ((below_alloc _ _).mono (by simp))⟩
/-- The row told as one word. -/
theorem word_any (w : World) (v : Value) (M : Nat) (h : MagIs w v M) (hM : M < B64) :
  Calls Tryz.prog 89 #[v] w fun e w' => e = .returned (.int .u64 (M : Nat)) ∧ w' = w := by
 rcases h with ⟨rfl, rfl⟩ | ⟨g, n, cap, rfl, hn, hc, hl, hv⟩
 ·go_enter Tryz.func89, Tryz.ntmps89
  go_wp2_with fail
  go_loop [3, 4] (fun a i => a = .int .u64 0 ∧ i = .int .i64 (-1)) (fun _ i => 0)
  case atStart => exact ⟨rfl, rfl⟩
  case round =>
   obtain ⟨rfl, rfl⟩ := hrel
   go_wp2_with fail
   go_ret
   exact ⟨rfl, rfl⟩
 ·have hMn : M / W32 ^ n = 0 := Nat.div_eq_of_lt hl.1
  have HM := Lib.hid hMn
  clear hMn hl
  go_enter Tryz.func89, Tryz.ntmps89
  go_wp2_with fail
  go_loop [3, 4] (fun a i => ∃ k X : Nat, k ≤ n ∧ a = .int .u64 (X : Int) ∧ X = M / W32 ^ k ∧ i = .int .i64 ((k : Int) - 1)) (fun _ i => (intOf i + 1).toNat)
  case atStart => exact ⟨n, 0, Nat.le_refl _, rfl, HM.out.symm, rfl⟩
  case round =>
   obtain ⟨k, X, hk, rfl, hX, rfl⟩ := hrel
   by_cases h0 : k = 0
   ·subst h0
    have hXM : X = M := by rw [hX, Nat.pow_zero, Nat.div_one]
    subst hXM
    have HX := Lib.hid hX
    clear hX
    go_wp2_with fail
    go_ret
    exact ⟨rfl, rfl⟩
   ·obtain ⟨j, rfl⟩ : ∃ j, k = j + 1 := ⟨k - 1, by omega⟩
    have hj : ((j + 1 : Nat) : Int) - 1 = (j : Int) := by omega
    rw [hj]
    have hcell := hv.cell j (Nat.zero_le _) (by omega)
    have hdl := dg_le M j
    have hstep : X * 4294967296 + dg M j = M / W32 ^ j := by
     rw [hX]
     unfold dg
     rw [Nat.pow_succ, ← Nat.div_div_eq_div_mul]
     unfold W32
     omega
    have hlt : M / W32 ^ j < B64 := Nat.lt_of_le_of_lt (Nat.div_le_self _ _) hM
    have hXs : X * 4294967296 < B64 := by omega
    have hor : bits .or .u64 ((X : Int) * 4294967296) ((dg M j : Nat) : Int) = ((X * 4294967296 + dg M j : Nat) : Int) := by
     have h1 := u64_or_nat (X * 4294967296) (dg M j) hXs (by omega)
     rw [show ((X * 4294967296 : Nat) : Int) = (X : Int) * 4294967296 by omega] at h1
     rw [h1]
     congr 1
     have e : X * 4294967296 = 2 ^ 32 * X := Nat.mul_comm _ _
     rw [e, ← Nat.two_pow_add_eq_or_of_lt (show dg M j < 2 ^ 32 from dg_lt M j)]
    have hwr : IntKind.u64.wrap ((X : Int) * 4294967296) = (X : Int) * 4294967296 := by
     rw [IntKind.wrap_u64]
     unfold B64 at hXs
     omega
    have hj0 : (0 : Int) ≤ (j : Int) := by omega
    have HS := Lib.hid hstep
    have HX := Lib.hid hX
    clear hX hstep hlt
    go_wp2_with fail
    go_round
    case rel => exact ⟨j, X * 4294967296 + dg M j, by omega, by go_num, HS.out, by go_num⟩
    case measure => simp [intOf]
set_option linter.unusedVariables false
set_option linter.unusedSimpArgs false
open Go Go.RowKit
set_option maxRecDepth 100000
theorem dg_zero (k : Nat) : dg 0 k = 0 := by unfold dg; rw [Nat.zero_div]; rfl
theorem dg_high (V k : Nat) (h : V < W32 ^ k) : dg V k = 0 := by unfold dg; rw [Nat.div_eq_of_lt h]; rfl
theorem dg_same (V Y p j : Nat) (h : j < p) : dg (V + Y * W32 ^ p) j = dg V j := by
 unfold dg
 obtain ⟨d, rfl⟩ : ∃ d, p = j + 1 + d := ⟨p - (j + 1), by omega⟩
 rw [show W32 ^ (j + 1 + d) = W32 ^ j * (W32 * W32 ^ d) by rw [Nat.pow_add, Nat.pow_add, Nat.pow_one, Nat.mul_assoc], Nat.mul_left_comm, Nat.add_mul_div_left _ _ (W32_pow j), Nat.mul_left_comm, Nat.add_mul_mod_self_left]
theorem div_add (V Y p : Nat) : (V + Y * W32 ^ p) / W32 ^ p = V / W32 ^ p + Y := by
 rw [Nat.mul_comm, Nat.add_mul_div_left _ _ (W32_pow p)]
theorem low_aux (c x r : Nat) (hr : r ≤ 31) (hc : c < 2 ^ r) : c ||| (x * 2 ^ r % W32) = (c + x * 2 ^ r) % W32 := by
 have hr2 : 2 ^ r ≤ 2 ^ 31 := Nat.pow_le_pow_right (by decide) hr
 have hW : W32 = 2 ^ r * 2 ^ (32 - r) := by rw [← Nat.pow_add, show r + (32 - r) = 32 by omega]; rfl
 have hcW : c < W32 := Nat.lt_of_lt_of_le hc (Nat.le_trans hr2 (by decide))
 have h2 : x * 2 ^ r % W32 = 2 ^ r * (x % 2 ^ (32 - r)) := by
  conv => lhs; rw [hW, Nat.mul_comm x, Nat.mul_mod_mul_left]
 have h3 : c + x * 2 ^ r % W32 < W32 := by
  have h4 : x % 2 ^ (32 - r) + 1 ≤ 2 ^ (32 - r) := Nat.mod_lt _ (Nat.two_pow_pos _)
  have h5 : 2 ^ r * (x % 2 ^ (32 - r) + 1) ≤ 2 ^ r * 2 ^ (32 - r) := Nat.mul_le_mul_left _ h4
  rw [Nat.mul_add, Nat.mul_one, ← h2, ← hW] at h5
  omega
 rw [Nat.add_mod, Nat.mod_eq_of_lt hcW, Nat.mod_eq_of_lt h3, h2, Nat.or_comm, ← Nat.two_pow_add_eq_or_of_lt hc, Nat.add_comm]
theorem high_aux (c x r : Nat) (hr : r ≤ 31) (hx : x < W32) (hc : c < 2 ^ r) : (c + x * 2 ^ r) / W32 = x * 2 ^ r / W32 ∧ x * 2 ^ r / W32 < W32 := by
 have hW : W32 = 2 ^ r * 2 ^ (32 - r) := by rw [← Nat.pow_add, show r + (32 - r) = 32 by omega]; rfl
 have hp := Nat.two_pow_pos r
 have e1 : (c + x * 2 ^ r) / W32 = x / 2 ^ (32 - r) := by
  conv => lhs; rw [hW, ← Nat.div_div_eq_div_mul, Nat.add_mul_div_right _ _ hp, Nat.div_eq_of_lt hc, Nat.zero_add]
 have e2 : x * 2 ^ r / W32 = x / 2 ^ (32 - r) := by
  conv => lhs; rw [hW, ← Nat.div_div_eq_div_mul, Nat.mul_div_cancel _ hp]
 exact ⟨e1.trans e2.symm, e2 ▸ Nat.lt_of_le_of_lt (Nat.div_le_self _ _) hx⟩
theorem top_lt (V r p : Nat) (hV : V < W32 ^ p * 2 ^ r) : V / W32 ^ p < 2 ^ r := by
 rw [Nat.div_lt_iff_lt_mul (W32_pow p), Nat.mul_comm]
 exact hV
/-- One round: what stands, a limb's low part joined, its high part laid above. -/
theorem left_low (V x r p : Nat) (hr : r ≤ 31) (hV : V < W32 ^ p * 2 ^ r) : dg V p ||| (x * 2 ^ r % W32) = dg (V + x * 2 ^ r * W32 ^ p) p := by
 have hc := top_lt V r p hV
 have hcW : V / W32 ^ p < W32 := Nat.lt_of_lt_of_le hc (Nat.le_trans (Nat.pow_le_pow_right (by decide) hr) (by decide : (2 : Nat) ^ 31 ≤ W32))
 unfold dg
 rw [div_add, Nat.mod_eq_of_lt hcW]
 exact low_aux _ x r hr hc
theorem left_high (V x r p : Nat) (hr : r ≤ 31) (hx : x < W32) (hV : V < W32 ^ p * 2 ^ r) : x * 2 ^ r / W32 = dg (V + x * 2 ^ r * W32 ^ p) (p + 1) := by
 obtain ⟨h1, h2⟩ := high_aux _ x r hr hx (top_lt V r p hV)
 unfold dg
 rw [Nat.pow_succ, ← Nat.div_div_eq_div_mul, div_add, h1, Nat.mod_eq_of_lt h2]
theorem left_above (V x r p j : Nat) (hr : r ≤ 31) (hx : x < W32) (hV : V < W32 ^ p * 2 ^ r) (hj : p + 1 < j) : dg (V + x * 2 ^ r * W32 ^ p) j = 0 ∧ dg V j = 0 := by
 have hr2 : 2 ^ r ≤ 2 ^ 31 := Nat.pow_le_pow_right (by decide) hr
 have h1 : W32 ^ p * 2 ^ r ≤ W32 ^ p * W32 := Nat.mul_le_mul_left _ (by unfold W32; omega)
 have h2 : W32 ^ p * W32 * W32 ≤ W32 ^ j := by
  rw [← Nat.pow_succ, ← Nat.pow_succ]
  exact Nat.pow_le_pow_right W32_pos (by omega)
 have h3 : W32 ^ p * W32 * 1 ≤ W32 ^ p * W32 * W32 := Nat.mul_le_mul_left _ W32_pos
 refine ⟨dg_high _ _ ?_, dg_high _ _ (by omega)⟩
 have h4 : x * 2 ^ r * W32 ^ p ≤ (W32 - 1) * 2 ^ 31 * W32 ^ p := Nat.mul_le_mul_right _ (Nat.mul_le_mul (by omega) hr2)
 have h5 : (W32 - 1) * 2 ^ 31 * W32 ^ p + W32 ^ p * W32 ≤ W32 ^ p * W32 * W32 := by
  have : (W32 - 1) * 2 ^ 31 + W32 ≤ W32 * W32 := by decide
  have := Nat.mul_le_mul_left (W32 ^ p) this
  rw [Nat.mul_add, ← Nat.mul_assoc (W32 ^ p) W32 W32] at this
  rw [Nat.mul_comm ((W32 - 1) * 2 ^ 31)]
  exact this
 omega
/-- What has been laid behind i limbs. -/
def part (M q r i : Nat) : Nat := M % W32 ^ i * 2 ^ r * W32 ^ q
theorem part_step (M q r i : Nat) : part M q r (i + 1) = part M q r i + dg M i * 2 ^ r * W32 ^ (i + q) := by
 unfold part
 rw [dg_add, Nat.add_mul, Nat.add_mul, Nat.pow_add]
 congr 1
 ac_rfl
theorem part_lt (M q r i : Nat) : part M q r i < W32 ^ (i + q) * 2 ^ r := by
 unfold part
 have h1 : M % W32 ^ i < W32 ^ i := Nat.mod_lt _ (W32_pow i)
 rw [Nat.pow_add, show M % W32 ^ i * 2 ^ r * W32 ^ q = M % W32 ^ i * (W32 ^ q * 2 ^ r) by ac_rfl, Nat.mul_assoc]
 exact Nat.mul_lt_mul_of_pos_right h1 (Nat.mul_pos (W32_pow q) (Nat.two_pow_pos r))
theorem part_end (M q r n : Nat) (h : M < W32 ^ n) : part M q r n = M * 2 ^ (32 * q + r) := by
 unfold part
 rw [Nat.mod_eq_of_lt h, W32_two, Nat.mul_assoc, ← Nat.pow_add, Nat.add_comm r]
theorem part_zero (M q r : Nat) : part M q r 0 = 0 := by unfold part; rw [Nat.pow_zero, Nat.mod_one, Nat.zero_mul, Nat.zero_mul]
theorem part_high (M q r k : Nat) (hr : r ≤ 31) : dg (part M q r k) (k + q + 1) = 0 := by
 refine dg_high _ _ (Nat.lt_of_lt_of_le (part_lt M q r k) ?_)
 rw [Nat.pow_succ]
 exact Nat.mul_le_mul_left _ (Nat.le_trans (Nat.pow_le_pow_right (by decide) hr) (by decide : (2 : Nat) ^ 31 ≤ W32))
set_option maxHeartbeats 4000000 in
theorem left_any (w : World) (v : Value) (M q r : Nat) (h : MagIs w v M) (hq : q ≤ 100000) (hr : r ≤ 31) (hn : ∀ A n cap, v = .slice A n cap → n ≤ 100000) :
  Calls Tryz.prog 125 #[v, .int .i64 ((32 * q + r : Nat) : Int)] w fun e w' => ∃ v', e = .returned v' ∧ MagIs w' v' (M * 2 ^ (32 * q + r)) ∧ Below w.heap.size w w' := by
 by_cases hM : M = 0
 ·subst hM
  obtain ⟨A, n, cap, rfl, _, h0⟩ := h.form
  obtain rfl : n = 0 := h0.2 rfl
  go_enter Tryz.func125, Tryz.ntmps125
  go_wp2_with fail
  go_ret
  exact ⟨_, rfl, Or.inl ⟨rfl, by simp⟩, Below.refl _ _⟩
 ·rcases h with ⟨_, h0⟩ | ⟨g, n, cap, rfl, hnc, hc, hl, hv⟩
  ·exact absurd h0 hM
  ·have hn1 := hn _ _ _ rfl
   have hnp : 0 < n := Nat.pos_of_ne_zero fun e => hM ((nl32_zero n M hl).1 e)
   have hn0 : ((n : Int) == 0) = false := by rw [beq_eq_false_iff_ne]; omega
   obtain ⟨s, hs⟩ : ∃ s, s = 32 * q + r := ⟨_, rfl⟩
   have hquo : Int.tdiv (s : Int) 32 = (q : Nat) := by rw [Int.tdiv_eq_ediv_of_nonneg (by omega)]; omega
   have hrem : Int.tmod (s : Int) 32 = (r : Nat) := by rw [Int.tmod_eq_emod_of_nonneg (by omega)]; omega
   have hmk := run_make_32 ((n : Int) + q + 1) ((n : Int) + q + 1) (by omega) (Int.le_refl _) (by omega)
   obtain ⟨N, hN⟩ : ∃ N, N = n + q + 1 := ⟨_, rfl⟩
   have hNt : ((n : Int) + q + 1).toNat = N := by omega
   rw [hNt] at hmk
   rw [← hs]
   have hs0 : (0 : Int) ≤ (s : Int) := by omega
   have hsl : s ≤ 4000000 := by omega
   have HS := Lib.hid hs
   have HN := Lib.hid hN
   have HL := Lib.hid hl
   clear hs hNt hN hl hn
   go_enter Tryz.func125, Tryz.ntmps125
   go_wp2_with fail
   obtain ⟨gh, hgh⟩ : ∃ gh, gh = w.heap.size := ⟨_, rfl⟩
   have hm0 : V32 (w.alloc (.cells (zero32 N) 136)) gh N 0 N (dg (part M q r 0)) := by
    rw [hgh, part_zero]
    exact (V32.made w N).weaken fun j a b => ⟨a, b, (dg_zero j).symm⟩
   have hg0 : w.grownBy (w.alloc (.cells (zero32 N) 136)) (Option.some gh) := World.grownBy_alloc w _ _
   have hgw : g ≠ gh := by have := hv.lt; omega
   rw [← hgh]
   have HG := Lib.hid hgh
   clear hmk hgh
   go_loopw [6] (fun i wr => ∃ k : Nat, k ≤ n ∧ i = .int .i64 (k : Nat) ∧ V32 wr gh N 0 N (dg (part M q r k)) ∧ w.grownBy wr (Option.some gh)) (fun i _ => n - (intOf i).toNat)
   case atStart => exact ⟨0, Nat.zero_le _, rfl, hm0, hg0⟩
   case round =>
    obtain ⟨k, hk, rfl, hz, hg⟩ := hrel
    clear hm0 hg0
    by_cases hlt : k < n
    ·have hlt' : (k : Int) < (n : Int) := by omega
     have hk0 : (0 : Int) ≤ (k : Int) := by omega
     have hcx := (hv.grown hg (fun e => hgw (by injection e))).cell k (Nat.zero_le _) hlt
     have hxW := dg_lt M k
     have hV := part_lt M q r k
     have hps := part_step M q r k
     have hlow := left_low (part M q r k) (dg M k) r (k + q) hr hV
     have hhigh := left_high (part M q r k) (dg M k) r (k + q) hr hxW hV
     rw [← hps] at hlow hhigh
     have hsame : ∀ j, j ≠ k + q → j ≠ k + q + 1 → dg (part M q r k) j = dg (part M q r (k + 1)) j := fun j h1 h2 => by
      rw [hps]
      rcases Nat.lt_or_ge j (k + q) with h3 | h3
      ·exact (dg_same _ _ _ _ h3).symm
      ·obtain ⟨h4, h5⟩ := left_above (part M q r k) (dg M k) r (k + q) j hr hxW hV (by omega)
       rw [h4, h5]
     have hp0 := part_high M q r k hr
     have hNn := HN.out
     have hdV := dg_lt (part M q r k) (k + q)
     have hD1l := dg_lt (part M q r (k + 1)) (k + q)
     have hD2l := dg_lt (part M q r (k + 1)) (k + q + 1)
     have hc1 := hz.cell (k + q) (Nat.zero_le _) (by omega)
     have hf1 := hz.free (k + q)
     have hc2 := hz.cell (k + q + 1) (Nat.zero_le _) (by omega)
     rw [hp0] at hc2
     obtain ⟨x, hx⟩ : ∃ x, x = dg M k := ⟨_, rfl⟩
     obtain ⟨y, hy⟩ : ∃ y, y = x * 2 ^ r := ⟨_, rfl⟩
     obtain ⟨o, ho⟩ : ∃ o, o = dg (part M q r k) (k + q) := ⟨_, rfl⟩
     obtain ⟨D1, hD1⟩ : ∃ D1, D1 = dg (part M q r (k + 1)) (k + q) := ⟨_, rfl⟩
     obtain ⟨D2, hD2⟩ : ∃ D2, D2 = dg (part M q r (k + 1)) (k + q + 1) := ⟨_, rfl⟩
     rw [← hx] at hcx hxW hlow hhigh
     rw [← hy, ← ho, ← hD1] at hlow
     rw [← hy, ← hD2] at hhigh
     rw [← ho] at hc1 hdV
     rw [← hD1] at hD1l
     rw [← hD2] at hD2l
     have hset1 : V32 (wr.setCell ⟨gh, k + q, none⟩ (.int .u32 (D1 : Nat))) gh N 0 N (fun j => if j = k + q then D1 else dg (part M q r k) j) :=
      hz.set (k + q) D1 (by omega) (by rw [if_pos rfl]) (fun j a b hne => ⟨a, b, (if_neg hne).symm⟩)
     have hc2' := hset1.cell (k + q + 1) (Nat.zero_le _) (by omega)
     rw [if_neg (by omega), hp0] at hc2'
     have hf2' := hset1.free (k + q + 1)
     have hset2 : V32 ((wr.setCell ⟨gh, k + q, none⟩ (.int .u32 (D1 : Nat))).setCell ⟨gh, k + q + 1, none⟩ (.int .u32 (D2 : Nat))) gh N 0 N (dg (part M q r (k + 1))) :=
      hset1.set (k + q + 1) D2 (by omega) hD2 (fun j a b hne => ⟨a, b, by
       by_cases h1 : j = k + q
       ·rw [if_pos h1, h1, hD1]
       ·rw [if_neg h1]; exact hsame j h1 hne⟩)
     have hg2 := grown_set (grown_set hg (k + q) (.int .u32 (D1 : Nat))) (k + q + 1) (.int .u32 (D2 : Nat))
     have hr2 : 2 ^ r ≤ 2 ^ 31 := Nat.pow_le_pow_right (by decide) hr
     have hyl : y < 9223372036854775808 := by
      rw [hy]
      have h1 : x * 2 ^ r ≤ (W32 - 1) * 2 ^ 31 := Nat.mul_le_mul (by omega) hr2
      exact Nat.lt_of_le_of_lt h1 (by decide)
     have hxs : IntKind.u64.wrap ((x : Int) * 2 ^ r) = ((y : Nat) : Int) := by
      have e : ((y : Nat) : Int) = (x : Int) * 2 ^ r := by rw [hy, Int.natCast_mul, Int.natCast_pow]; rfl
      rw [← e, IntKind.wrap_u64]
      omega
     obtain ⟨lo, hlo⟩ : ∃ lo, lo = y % W32 := ⟨_, rfl⟩
     have hw32 : IntKind.u32.wrap ((y : Nat) : Int) = ((lo : Nat) : Int) := by
      rw [IntKind.wrap_u32, hlo]; rfl
     have hor1 : bits .or .u32 ((o : Nat) : Int) ((lo : Nat) : Int) = ((D1 : Nat) : Int) := by
      rw [Go.u32_or_nat o lo hdV (by rw [hlo]; exact Nat.mod_lt _ W32_pos), hlo, hlow]
     have hdiv : ((y : Nat) : Int) / 4294967296 = ((D2 : Nat) : Int) := by rw [← hhigh]; rfl
     have hor2 : bits .or .u32 0 ((D2 : Nat) : Int) = ((D2 : Nat) : Int) := by
      have := Go.u32_or_nat 0 D2 (by decide) hD2l
      rw [Nat.zero_or] at this
      exact this
     have hxl : (x : Int) ≤ 4294967295 := by unfold W32 at hxW; omega
     have hD1i : (D1 : Int) ≤ 4294967295 := by unfold W32 at hD1l; omega
     have hD2i : (D2 : Int) ≤ 4294967295 := by unfold W32 at hD2l; omega
     have hoi : (o : Int) ≤ 4294967295 := by unfold W32 at hdV; omega
     have hb1 : (k : Int) + (q : Int) < (N : Int) := by omega
     have hb2 : (k : Int) + (q : Int) + 1 < (N : Int) := by omega
     have hb3 : (0 : Int) ≤ (k : Int) + (q : Int) + 1 := by omega
     have hb4 : (0 : Int) ≤ (k : Int) + (q : Int) := by omega
     clear hx hy hlo ho hD1 hD2 hlow hhigh hsame hp0 hset1 hc2 hz hg hps hV hr2 hNn hdV hD1l hD2l hxW
     go_wp2_with fail
     go_roundw
     case rel => exact ⟨k + 1, by omega, by go_num, hset2, hg2⟩
     case measure => simp [intOf]; omega
    ·obtain rfl : k = n := by omega
     have hlt' : decide ((k : Int) < (k : Nat)) = false := by simp
     have htr := trim_row wr gh N N (part M q r k) hz (by
      have h1 := part_lt M q r k
      rw [HN.out, Nat.pow_succ]
      exact Nat.lt_of_lt_of_le h1 (Nat.mul_le_mul_left _ (Nat.le_trans (Nat.pow_le_pow_right (by decide) hr) (by decide : (2 : Nat) ^ 31 ≤ W32)))) (Nat.le_refl _) (by have := HN.out; omega)
     rw [part_end M q r k HL.out.1, ← HS.out] at *
     have hbel := below_of_grown hg (by rw [HG.out]; exact Nat.le_refl _)
     have hN9 : N ≤ 1000000 := by have := HN.out; omega
     clear hg hnc
     go_wp2_with fail
     refine htr.mono ?_
     rintro e w1 ⟨⟨j, hj, hnl, rfl⟩, rfl⟩
     go_wp2_with fail
     go_ret
     exact ⟨_, rfl, Or.inr ⟨gh, j, N, rfl, hj, hN9, hnl, hz.weaken fun i a b => ⟨a, by omega, rfl⟩⟩, hbel⟩
set_option linter.unusedVariables false
set_option linter.unusedSimpArgs false
open Go Go.RowKit
set_option maxRecDepth 100000
theorem two_limbs (w : World) (m : Nat) : V32 (w.alloc (.cells #[.int .u32 (dg m 0 : Nat), .int .u32 (dg m 1 : Nat)] 136)) w.heap.size 2 0 2 (dg m) := by
 refine ⟨_, heap_alloc_new w _, rfl, fun j _ hj => ?_⟩
 have : j = 0 ∨ j = 1 := by omega
 rcases this with rfl | rfl <;> rfl
theorem NL32_le {n M L : Nat} (h : NL32 n M) (hM : M < W32 ^ L) : n ≤ L := by
 refine Nat.le_of_not_lt fun hgt => ?_
 have h1 := h.2 (by omega)
 have h2 : W32 ^ L ≤ W32 ^ (n - 1) := Nat.pow_le_pow_right W32_pos (by omega)
 omega
set_option maxHeartbeats 2000000 in
theorem Of_num (w : World) (u : Nat) (hu : u < B64) (he : fexp u ≠ 2047) (hs : sig u ≠ 0) :
  Calls Tryz.prog 37 #[.int .u64 (u : Nat)] w fun e w' => ∃ v, e = .returned (.tuple #[.agg #[.bool (fneg u), v, .int .i64 (pwr u)], .bool true]) ∧ MagIs w' v (sig u) ∧ Below w.heap.size w w' := by
 have h1 := and_exp u hu
 have h2 := and_man u hu
 have hul : (u : Int) ≤ 18446744073709551615 := by unfold B64 at hu; omega
 have hel := fexp_lt u
 have hml := fman_lt u
 have hsl := sig_lt u
 have hneg : ((u : Int) / 9223372036854775808 == 1) = fneg u := by
  unfold fneg
  rw [Bool.eq_iff_iff, beq_iff_eq, beq_iff_eq]; omega
 have hne : (((fexp u : Nat) : Int) == 2047) = false := by rw [beq_eq_false_iff_ne]; omega
 obtain ⟨s, hss⟩ : ∃ s, s = sig u := ⟨_, rfl⟩
 have hs0 : ((s : Int) == 0) = false := by rw [beq_eq_false_iff_ne]; omega
 have hd0 : IntKind.u32.wrap (s : Int) = ((dg s 0 : Nat) : Int) := by
  rw [IntKind.wrap_u32]
  unfold dg
  rw [Nat.pow_zero, Nat.div_one]; rfl
 have hd1 : (s : Int) / 4294967296 = ((dg s 1 : Nat) : Int) := by
  unfold dg
  rw [Nat.pow_one, Nat.mod_eq_of_lt]
  ·rfl
  ·rw [hss]; unfold W32; omega
 have hd1l := dg_le s 1
 have hsW : s < W32 ^ 2 := by rw [hss]; exact Nat.lt_trans hsl (by decide)
 rw [← hss]
 rw [← hss] at hsl
 have hV : ∀ (w : World) (ob : Obj), V32 ((w.alloc ob).alloc (.cells #[.int .u32 (dg s 0 : Nat), .int .u32 (dg s 1 : Nat)] 136)) (w.heap.size + 1) 2 0 2 (dg s) := fun w ob => by
  have := two_limbs (w.alloc ob) s
  rw [show (w.alloc ob).heap.size = w.heap.size + 1 by simp] at this
  exact this
 by_cases h0 : fexp u = 0
 ·have hsm : fman u = s := by rw [hss]; unfold sig; rw [if_pos h0]
  have hp : pwr u = -1074 := if_pos h0
  rw [hp]
  rw [h0] at h1 hne
  rw [hsm] at h2
  clear hss hs he h0 hel hml hsm hp
  generalize fneg u = ng at *
  go_enter Tryz.func37, Tryz.ntmps37
  go_wp2_with fail
  refine (trim_row _ _ 2 2 s (hV w _) hsW (Nat.le_refl _) (by decide)).mono ?_
  rintro e w1 ⟨⟨k, hk, hnl, rfl⟩, rfl⟩
  go_wp2_with fail
  go_returns
  refine ⟨_, rfl, ?_, ?_⟩
  ·exact Or.inr ⟨_, k, 2, rfl, hk, by decide, hnl, (hV w _).weaken fun j a b => ⟨a, by omega, rfl⟩⟩
  ·exact (below_alloc w _).trans ((below_alloc _ _).mono (by simp))
 ·have hsm : fman u + 4503599627370496 = s := by rw [hss]; unfold sig; rw [if_neg h0]
  have hor := or_man (fman u) hml
  rw [hsm] at hor
  have hp : pwr u = (fexp u : Int) - 1075 := if_neg h0
  have he0 : (0 : Int) < ((fexp u : Nat) : Int) := by omega
  have he0' : 0 < fexp u := by omega
  rw [hp]
  clear hss hs he h0 hsm hp
  generalize fneg u = ng at *
  generalize fexp u = ex at *
  generalize fman u = mn at *
  go_enter Tryz.func37, Tryz.ntmps37
  go_wp2_with fail
  refine (trim_row _ _ 2 2 s (hV w _) hsW (Nat.le_refl _) (by decide)).mono ?_
  rintro e w1 ⟨⟨k, hk, hnl, rfl⟩, rfl⟩
  go_wp2_with fail
  go_returns
  refine ⟨_, rfl, ?_, ?_⟩
  ·exact Or.inr ⟨_, k, 2, rfl, hk, by decide, hnl, (hV w _).weaken fun j a b => ⟨a, by omega, rfl⟩⟩
  ·exact (below_alloc w _).trans ((below_alloc _ _).mono (by simp))
end Go.Proofs.YtpfbgenefjhcjaaGreatDoor
namespace Go.Proofs.YtpfbgenefjhcjaaGreatDoor
set_option linter.unusedVariables false
set_option linter.unusedSimpArgs false
open Go Go.RowKit
set_option maxRecDepth 100000
def carry32 (X Y i : Nat) : Nat := (X % W32 ^ i + Y % W32 ^ i) / W32 ^ i
def borrow32 (X Y i : Nat) : Nat := if X % W32 ^ i < Y % W32 ^ i then 1 else 0
theorem carry32_zero (X Y : Nat) : carry32 X Y 0 = 0 := by simp [carry32, Nat.mod_one]
theorem borrow32_zero (X Y : Nat) : borrow32 X Y 0 = 0 := by simp [borrow32, Nat.mod_one]
theorem carry32_le (X Y i : Nat) : carry32 X Y i ≤ 1 := by
 unfold carry32
 have h1 := Nat.mod_lt X (W32_pow i)
 have h2 := Nat.mod_lt Y (W32_pow i)
 have : (X % W32 ^ i + Y % W32 ^ i) / W32 ^ i < 2 := (Nat.div_lt_iff_lt_mul (W32_pow i)).2 (by omega)
 omega
theorem borrow32_le (X Y i : Nat) : borrow32 X Y i ≤ 1 := by unfold borrow32; split <;> omega
theorem add_dg (X Y i : Nat) : (dg X i + dg Y i + carry32 X Y i) % W32 = dg (X + Y) i ∧ (dg X i + dg Y i + carry32 X Y i) / W32 = carry32 X Y (i + 1) := by
 have hp := W32_pow i
 have e : (X % W32 ^ (i + 1) + Y % W32 ^ (i + 1)) = (X % W32 ^ i + Y % W32 ^ i) + W32 ^ i * (dg X i + dg Y i) := by
  rw [dg_add X i, dg_add Y i, Nat.mul_add, Nat.mul_comm (W32 ^ i), Nat.mul_comm (W32 ^ i)]; omega
 have e1 : (X % W32 ^ (i + 1) + Y % W32 ^ (i + 1)) / W32 ^ i = dg X i + dg Y i + carry32 X Y i := by
  rw [e, Nat.add_mul_div_left _ _ hp, carry32]; omega
 constructor
 ·rw [← e1]
  unfold dg
  have h3 : (X + Y) % W32 ^ (i + 1) = (X % W32 ^ (i + 1) + Y % W32 ^ (i + 1)) % W32 ^ (i + 1) := Nat.add_mod _ _ _
  have h4 : ∀ Z : Nat, Z / W32 ^ i % W32 = Z % W32 ^ (i + 1) / W32 ^ i := fun Z => by
   rw [Nat.pow_succ, Nat.mod_mul_right_div_self]
  rw [h4, h4 (X + Y), h3]
 ·rw [← e1, Nat.div_div_eq_div_mul, ← Nat.pow_succ]; rfl
theorem sub_dg (X Y i : Nat) (n : Nat) (hn : i < n) (hX : X < W32 ^ n) (hY : Y < W32 ^ n) :
  (dg X i + W32 - dg Y i - borrow32 X Y i) % W32 = dg (X + W32 ^ n - Y) i ∧ (if dg X i < dg Y i + borrow32 X Y i then 1 else 0) = borrow32 X Y (i + 1) := by
 have hp := W32_pow i
 have eX := dg_add X i
 have eY := dg_add Y i
 have lX := dg_lt X i
 have lY := dg_lt Y i
 have mX := Nat.mod_lt X hp
 have mY := Nat.mod_lt Y hp
 have hb : borrow32 X Y i = if X % W32 ^ i < Y % W32 ^ i then 1 else 0 := rfl
 have hb1 : borrow32 X Y (i + 1) = if X % W32 ^ (i + 1) < Y % W32 ^ (i + 1) then 1 else 0 := rfl
 constructor
 ·-- modulo B^(i+1)
  have h4 : ∀ Z : Nat, Z / W32 ^ i % W32 = Z % W32 ^ (i + 1) / W32 ^ i := fun Z => by
   rw [Nat.pow_succ, Nat.mod_mul_right_div_self]
  obtain ⟨d, rfl⟩ : ∃ d, n = i + 1 + d := ⟨n - (i + 1), by omega⟩
  have hN : W32 ^ (i + 1 + d) = W32 ^ (i + 1) * W32 ^ d := Nat.pow_add _ _ _
  have hZ : (X + W32 ^ (i + 1 + d) - Y) % W32 ^ (i + 1) = (X % W32 ^ (i + 1) + W32 ^ (i + 1) - Y % W32 ^ (i + 1)) % W32 ^ (i + 1) := by
   have q1 := Nat.div_add_mod X (W32 ^ (i + 1))
   have q2 := Nat.div_add_mod Y (W32 ^ (i + 1))
   have r2 := Nat.mod_lt Y (W32_pow (i + 1))
   generalize W32 ^ (i + 1) = M at *
   have hYd : Y / M < W32 ^ d := by
    rw [Nat.div_lt_iff_lt_mul (by omega)]; rw [Nat.mul_comm, ← hN]; exact hY
   obtain ⟨s, hs⟩ : ∃ s, W32 ^ d = Y / M + 1 + s := ⟨W32 ^ d - (Y / M + 1), by omega⟩
   have e : X + W32 ^ (i + 1 + d) - Y = (X % M + M - Y % M) + M * (X / M + s) := by
    rw [hN, hs]
    have a1 : M * (Y / M + 1 + s) = M * (Y / M) + M + M * s := by rw [Nat.mul_add, Nat.mul_add, Nat.mul_one]
    have a2 : M * (X / M + s) = M * (X / M) + M * s := Nat.mul_add _ _ _
    rw [a1, a2]
    omega
   rw [e, Nat.add_mul_mod_self_left]
  unfold dg at eX eY lX lY ⊢
  rw [h4 (X + W32 ^ (i + 1 + d) - Y), hZ]
  rw [hb]
  generalize X / W32 ^ i % W32 = x at *
  generalize Y / W32 ^ i % W32 = y at *
  rw [eX, eY, Nat.pow_succ]
  generalize X % W32 ^ i = p at *
  generalize Y % W32 ^ i = q at *
  generalize W32 ^ i = M at *
  have e : p + x * M + M * W32 - (q + y * M) = (if p < q then p + M - q else p - q) + M * (x + W32 - y - if p < q then 1 else 0) := by
   have a1 : M * W32 = M * y + M * (W32 - y) := by rw [← Nat.mul_add]; congr 1; omega
   have a2 : x * M = M * x := Nat.mul_comm _ _
   have a3 : y * M = M * y := Nat.mul_comm _ _
   by_cases h : p < q
   ·rw [if_pos h, if_pos h, a1, a2, a3]
    have a4 : M * (x + W32 - y - 1) = M * x + M * (W32 - y) - M := by
     have : M ≤ M * (W32 - y) := Nat.le_mul_of_pos_right _ (by omega)
     rw [Nat.sub_sub, Nat.add_sub_assoc (by omega), show W32 - (y + 1) = W32 - y - 1 from by omega, Nat.mul_add, Nat.mul_sub_one]
     omega
    rw [a4]
    have : M ≤ M * (W32 - y) := Nat.le_mul_of_pos_right _ (by omega)
    omega
   ·have a5 : M * (x + W32 - y) = M * x + M * (W32 - y) := by rw [Nat.add_sub_assoc (by omega), Nat.mul_add]
    rw [if_neg h, if_neg h, a1, a2, a3, Nat.sub_zero, a5]
    omega
  have hz : (if p < q then p + M - q else p - q) < M := by split <;> omega
  rw [e, Nat.mod_mul_right_div_self, Nat.add_mul_div_left _ _ (by omega), Nat.div_eq_of_lt hz, Nat.zero_add]
 ·rw [hb1, hb, eX, eY]
  generalize dg X i = x at *
  generalize dg Y i = y at *
  generalize X % W32 ^ i = p at *
  generalize Y % W32 ^ i = q at *
  generalize W32 ^ i = M at *
  by_cases h : p < q
  ·rw [if_pos h]
   by_cases hxy : x < y + 1
   ·rw [if_pos hxy, if_pos]
    have : x * M ≤ y * M := Nat.mul_le_mul_right _ (by omega)
    omega
   ·rw [if_neg hxy, if_neg]
    have : (y + 1) * M ≤ x * M := Nat.mul_le_mul_right _ (by omega)
    rw [Nat.add_mul, Nat.one_mul] at this
    omega
  ·rw [if_neg h]
   by_cases hxy : x < y + 0
   ·rw [if_pos hxy, if_pos]
    have : (x + 1) * M ≤ y * M := Nat.mul_le_mul_right _ (by omega)
    rw [Nat.add_mul, Nat.one_mul] at this
    omega
   ·rw [if_neg hxy, if_neg]
    have : y * M ≤ x * M := Nat.mul_le_mul_right _ (by omega)
    omega
/-- The limbs of a row, as they lie. -/
def Limbs (w : World) (A : Option Addr) (n M : Nat) : Prop := ∀ i, i < n → ∃ g, A = some ⟨g, 0, none⟩ ∧ g < w.heap.size ∧ w.cell? ⟨g, i, none⟩ = some (.int .u32 (dg M i : Nat))
theorem Limbs.at {w wr : World} {A : Option Addr} {n M : Nat} (h : Limbs w A n M) (hb : Below w.heap.size w wr) (i : Nat) (hi : i < n) : ∃ g, A = some ⟨g, 0, none⟩ ∧ wr.cell? ⟨g, i, none⟩ = some (.int .u32 (dg M i : Nat)) := by
 obtain ⟨g, h1, h2, h3⟩ := h i hi
 exact ⟨g, h1, by rw [hb.cell h2]; exact h3⟩
theorem MagIs.limbs {w : World} {v : Value} {M : Nat} (h : MagIs w v M) : ∃ A n cap, v = .slice A n cap ∧ n ≤ cap ∧ cap ≤ 1000000 ∧ NL32 n M ∧ Limbs w A n M := by
 rcases h with ⟨rfl, rfl⟩ | ⟨g, n, cap, rfl, hn, hc, hl, hv⟩
 ·exact ⟨none, 0, 0, rfl, Nat.le_refl _, by omega, ⟨by decide, fun h => absurd h (Nat.lt_irrefl 0)⟩, fun i hi => absurd hi (Nat.not_lt_zero _)⟩
 ·exact ⟨_, n, cap, rfl, hn, hc, hl, fun i hi => ⟨g, rfl, hv.lt, hv.cell i (Nat.zero_le _) hi⟩⟩
theorem dg_beyond {n M : Nat} (h : M < W32 ^ n) (i : Nat) (hi : n ≤ i) : dg M i = 0 := dg_high M i (Nat.lt_of_lt_of_le h (Nat.pow_le_pow_right W32_pos hi))
theorem carry_top (X Y n : Nat) (hX : X < W32 ^ n) (hY : Y < W32 ^ n) : carry32 X Y n = dg (X + Y) n := by
 unfold carry32 dg
 rw [Nat.mod_eq_of_lt hX, Nat.mod_eq_of_lt hY, Nat.mod_eq_of_lt]
 have : (X + Y) / W32 ^ n < 2 := (Nat.div_lt_iff_lt_mul (W32_pow n)).2 (by omega)
 unfold W32
 unfold W32 at this
 omega
set_option maxHeartbeats 4000000 in
theorem plus_any (w : World) (va vb : Value) (X Y L0 : Nat) (hL0 : L0 ≤ 100000) (ha : MagIs w va X) (hb : MagIs w vb Y) (hX : X < W32 ^ L0) (hY : Y < W32 ^ L0) :
  Calls Tryz.prog 106 #[va, vb] w fun e w' => ∃ v', e = .returned v' ∧ MagIs w' v' (X + Y) ∧ Below w.heap.size w w' := by
 obtain ⟨A, n, ca, rfl, hna, hca, hla, hra⟩ := ha.limbs
 obtain ⟨B, m, cb, rfl, hmb, hcb, hlb, hrb⟩ := hb.limbs
 have hn1 := NL32_le hla hX
 have hm1 := NL32_le hlb hY
 clear ha hb hX hY
 go_enter Tryz.func106, Tryz.ntmps106
 go_upto_if 12 with fail
 go_cut [0, 1] from 8 to 14 (fun a b wx => (∃ (A' : Option Addr) (n' ca' : Nat) (B' : Option Addr) (m' cb' X' Y' : Nat), a = .slice A' n' ca' ∧ b = .slice B' m' cb' ∧ m' ≤ n' ∧ n' ≤ 100000 ∧ n' ≤ ca' ∧ m' ≤ cb' ∧ NL32 n' X' ∧ NL32 m' Y' ∧ Limbs w A' n' X' ∧ Limbs w B' m' Y' ∧ X' + Y' = X + Y) ∧ w = wx)
 case first =>
  by_cases hlt : n < m
  ·have hlt' : (n : Int) < (m : Int) := by omega
   have hlt2 : decide ((n : Int) < (m : Int)) = true := by simp; omega
   go_wp2_with fail
   go_meet
   case rel => exact ⟨⟨B, m, cb, A, n, ca, Y, X, rfl, rfl, by omega, by omega, hmb, hna, hlb, hla, hrb, hra, by omega⟩, rfl⟩
  ·have hlt' : decide ((n : Int) < (m : Int)) = false := by simp; omega
   go_wp2_with fail
   go_meet
   case rel => exact ⟨⟨A, n, ca, B, m, cb, X, Y, rfl, rfl, by omega, by omega, hna, hmb, hla, hlb, hra, hrb, rfl⟩, rfl⟩
 case rest =>
  obtain ⟨⟨A', n', ca', B', m', cb', X', Y', ea, eb, hmn, hn9, hnc, hmc, hlx, hly, hrx, hry, hsum⟩, rfl⟩ := hcut
  subst ea eb
  have HSUM := Lib.hid hsum
  clear hra hrb hla hlb hn1 hm1 hsum hna hca hmb hcb
  have hmk := run_make_32 ((n' : Int) + 1) ((n' : Int) + 1) (by omega) (Int.le_refl _) (by omega)
  rw [show ((n' : Int) + 1).toNat = n' + 1 by omega] at hmk
  have hYn : Y' < W32 ^ n' := Nat.lt_of_lt_of_le hly.1 (Nat.pow_le_pow_right W32_pos hmn)
  have HX := Lib.hid hlx.1
  have HY := Lib.hid hly.1
  have HYn := Lib.hid hYn
  clear hlx hly hYn
  go_wp2_with fail
  have hm0 : V32 (w.alloc (.cells (zero32 (n' + 1)) 136)) w.heap.size (n' + 1) 0 0 (dg (X' + Y')) := (V32.made w (n' + 1)).weaken fun j a b => absurd b (Nat.not_lt_zero _)
  have hg0 : w.grownBy (w.alloc (.cells (zero32 (n' + 1)) 136)) (Option.some w.heap.size) := World.grownBy_alloc w _ _
  obtain ⟨gh, hgh⟩ : ∃ gh, gh = w.heap.size := ⟨_, rfl⟩
  rw [← hgh] at hm0 hg0
  rw [← hgh]
  have HG := Lib.hid hgh
  clear hmk hgh
  go_loopw [6, 7] (fun c i wr => ∃ k : Nat, k ≤ n' ∧ i = .int .i64 (k : Nat) ∧ c = .int .u64 (carry32 X' Y' k : Nat) ∧ V32 wr gh (n' + 1) 0 k (dg (X' + Y')) ∧ w.grownBy wr (Option.some gh)) (fun _ i _ => n' - (intOf i).toNat)
  case atStart => exact ⟨0, Nat.zero_le _, rfl, by rw [carry32_zero]; rfl, hm0, hg0⟩
  case round =>
   obtain ⟨k, hk, rfl, rfl, hz, hg⟩ := hrel
   clear hm0 hg0
   have hbel : Below w.heap.size w wr := below_of_grown hg (by rw [HG.out]; exact Nat.le_refl _)
   have hcl := carry32_le X' Y' k
   by_cases hlt : k < n'
   ·have hlt' : (k : Int) < (n' : Int) := by omega
    have hk0 : (0 : Int) ≤ (k : Int) := by omega
    obtain ⟨g1, rfl, hc1⟩ := hrx.at hbel k hlt
    obtain ⟨hd1, hd2⟩ := add_dg X' Y' k
    have hx1 := dg_le X' k
    have hy1 := dg_le Y' k
    obtain ⟨o, hco⟩ := hz.some k (by omega)
    have hfo := hz.free k
    have hst : V32 (wr.setCell ⟨gh, k, none⟩ (.int .u32 (dg (X' + Y') k : Nat))) gh (n' + 1) 0 (k + 1) (dg (X' + Y')) :=
     hz.set k _ (by omega) rfl (fun j a b hne => ⟨a, by omega, rfl⟩)
    have hgs := grown_set hg k (.int .u32 (dg (X' + Y') k : Nat))
    have hkn1 : (k : Int) < (n' : Int) + 1 := by omega
    by_cases hkm : k < m'
    ·have hkm' : (k : Int) < (m' : Int) := by omega
     obtain ⟨g2, rfl, hc2⟩ := hry.at hbel k hkm
     have hw : IntKind.u32.wrap ((carry32 X' Y' k : Int) + (dg X' k : Int) + (dg Y' k : Int)) = ((dg (X' + Y') k : Nat) : Int) := by
      rw [IntKind.wrap_u32, ← hd1]
      unfold W32
      omega
     have hq : ((carry32 X' Y' k : Int) + (dg X' k : Int) + (dg Y' k : Int)) / 4294967296 = ((carry32 X' Y' (k + 1) : Nat) : Int) := by
      rw [← hd2]
      unfold W32
      omega
     clear hd1 hd2 hz hg
     generalize carry32 X' Y' k = c0 at *
     generalize hC1 : carry32 X' Y' (k + 1) = c1 at *
     have HC1 := Lib.hid hC1
     clear hC1
     generalize dg X' k = x0 at *
     generalize dg Y' k = y0 at *
     generalize hD : dg (X' + Y') k = d0 at *
     clear hD
     go_wp2_with fail
     go_roundw
     case rel => exact ⟨k + 1, by omega, by go_num, by rw [HC1.out], hst, hgs⟩
     case measure => simp [intOf]; omega
    ·have hkm' : decide ((k : Int) < (m' : Int)) = false := by simp; omega
     have hy0 : dg Y' k = 0 := dg_beyond HY.out k (by omega)
     rw [hy0] at hd1 hd2
     have hw : IntKind.u32.wrap ((carry32 X' Y' k : Int) + (dg X' k : Int)) = ((dg (X' + Y') k : Nat) : Int) := by
      rw [IntKind.wrap_u32, ← hd1]
      unfold W32
      omega
     have hq : ((carry32 X' Y' k : Int) + (dg X' k : Int)) / 4294967296 = ((carry32 X' Y' (k + 1) : Nat) : Int) := by
      rw [← hd2]
      unfold W32
      omega
     clear hd1 hd2 hz hg hy0 hy1
     generalize carry32 X' Y' k = c0 at *
     generalize hC1 : carry32 X' Y' (k + 1) = c1 at *
     have HC1 := Lib.hid hC1
     clear hC1
     generalize dg X' k = x0 at *
     generalize hD : dg (X' + Y') k = d0 at *
     clear hD
     go_wp2_with fail
     go_roundw
     case rel => exact ⟨k + 1, by omega, by go_num, by rw [HC1.out], hst, hgs⟩
     case measure => simp [intOf]; omega
   ·obtain rfl : k = n' := by omega
    have hlt' : decide ((k : Int) < (k : Nat)) = false := by simp
    have htop := carry_top X' Y' k HX.out HYn.out
    have hst : V32 (wr.setCell ⟨gh, k, none⟩ (.int .u32 (carry32 X' Y' k : Nat))) gh (k + 1) 0 (k + 1) (dg (X' + Y')) :=
     hz.set k _ (by omega) htop (fun j a b hne => ⟨a, by omega, rfl⟩)
    have hgs := grown_set hg k (.int .u32 (carry32 X' Y' k : Nat))
    obtain ⟨o, hco⟩ := hz.some k (by omega)
    have hfo := hz.free k
    have hw : IntKind.u32.wrap (carry32 X' Y' k : Int) = ((carry32 X' Y' k : Nat) : Int) := by rw [IntKind.wrap_u32]; omega
    have htr := trim_row _ gh (k + 1) (k + 1) (X' + Y') hst (by
     have h1 := HX.out
     have h2 := HYn.out
     rw [Nat.pow_succ]
     have : W32 ^ k * 2 ≤ W32 ^ k * W32 := Nat.mul_le_mul_left _ (by decide)
     omega) (Nat.le_refl _) (by omega)
    have hb9 := below_of_grown hgs (by rw [HG.out]; exact Nat.le_refl _)
    have hn10 : k + 1 ≤ 1000000 := by omega
    have hk0 : (0 : Int) ≤ (k : Int) := by omega
    clear hz hg hbel htop hcl hgs
    generalize carry32 X' Y' k = c0 at *
    go_wp2_with fail
    refine htr.mono ?_
    rintro e w1 ⟨⟨j, hj, hnl, rfl⟩, rfl⟩
    go_wp2_with fail
    go_ret
    exact ⟨_, rfl, by rw [← HSUM.out]; exact Or.inr ⟨gh, j, k + 1, rfl, hj, hn10, hnl, hst.weaken fun i a b => ⟨a, by omega, rfl⟩⟩, hb9⟩
end Go.Proofs.YtpfbgenefjhcjaaGreatDoor
namespace Go.Proofs.YtpfbgenefjhcjaaGreatDoor
set_option linter.unusedVariables false
set_option linter.unusedSimpArgs false
open Go Go.RowKit
set_option maxRecDepth 100000
theorem dg_plus_top (D n i : Nat) (hi : i < n) : dg (D + W32 ^ n) i = dg D i := by
 have := dg_same D 1 n i hi
 rwa [Nat.one_mul] at this
theorem sub_dg' (X Y i n : Nat) (hn : i < n) (hX : X < W32 ^ n) (hle : Y ≤ X) :
  (dg X i + W32 - dg Y i - borrow32 X Y i) % W32 = dg (X - Y) i ∧ (if dg X i < dg Y i + borrow32 X Y i then 1 else 0) = borrow32 X Y (i + 1) := by
 obtain ⟨h1, h2⟩ := sub_dg X Y i n hn hX (Nat.lt_of_le_of_lt hle hX)
 refine ⟨?_, h2⟩
 rw [h1, show X + W32 ^ n - Y = X - Y + W32 ^ n by omega, dg_plus_top _ n i hn]
set_option maxHeartbeats 8000000 in
theorem minus_any (w : World) (va vb : Value) (X Y L0 : Nat) (hL0 : L0 ≤ 100000) (ha : MagIs w va X) (hb : MagIs w vb Y) (hX : X < W32 ^ L0) (hle : Y ≤ X) :
  Calls Tryz.prog 108 #[va, vb] w fun e w' => ∃ v', e = .returned v' ∧ MagIs w' v' (X - Y) ∧ Below w.heap.size w w' := by
 obtain ⟨A, n, ca, rfl, hna, hca, hla, hra⟩ := ha.limbs
 obtain ⟨B, m, cb, rfl, hmb, hcb, hlb, hrb⟩ := hb.limbs
 have hn1 := NL32_le hla hX
 have hXn := hla.1
 have hYm := hlb.1
 have HX := Lib.hid hXn
 have HY := Lib.hid hYm
 have HLE := Lib.hid hle
 have hmk := run_make_32 (n : Int) (n : Int) (by omega) (Int.le_refl _) (by omega)
 rw [show (n : Int).toNat = n by omega] at hmk
 clear ha hb hX hla hlb hXn hYm hle
 go_enter Tryz.func108, Tryz.ntmps108
 go_wp2_with fail
 have hm0 : V32 (w.alloc (.cells (zero32 n) 136)) w.heap.size n 0 0 (dg (X - Y)) := (V32.made w n).weaken fun j a b => absurd b (Nat.not_lt_zero _)
 have hg0 : w.grownBy (w.alloc (.cells (zero32 n) 136)) (Option.some w.heap.size) := World.grownBy_alloc w _ _
 obtain ⟨gh, hgh⟩ : ∃ gh, gh = w.heap.size := ⟨_, rfl⟩
 rw [← hgh] at hm0 hg0
 rw [← hgh]
 have HG := Lib.hid hgh
 clear hmk hgh
 go_loopw [6, 7] (fun c i wr => ∃ k : Nat, k ≤ n ∧ i = .int .i64 (k : Nat) ∧ c = .int .u64 (borrow32 X Y k : Nat) ∧ V32 wr gh n 0 k (dg (X - Y)) ∧ w.grownBy wr (Option.some gh)) (fun _ i _ => n - (intOf i).toNat)
 case atStart => exact ⟨0, Nat.zero_le _, rfl, by rw [borrow32_zero]; rfl, hm0, hg0⟩
 case round =>
  obtain ⟨k, hk, rfl, rfl, hz, hg⟩ := hrel
  clear hm0 hg0
  have hbel : Below w.heap.size w wr := below_of_grown hg (by rw [HG.out]; exact Nat.le_refl _)
  have hcl := borrow32_le X Y k
  by_cases hlt : k < n
  ·have hlt' : (k : Int) < (n : Int) := by omega
   have hk0 : (0 : Int) ≤ (k : Int) := by omega
   obtain ⟨g1, rfl, hc1⟩ := hra.at hbel k hlt
   obtain ⟨hd1, hd2⟩ := sub_dg' X Y k n hlt HX.out HLE.out
   have hx1 := dg_le X k
   have hy1 := dg_le Y k
   obtain ⟨o, hco⟩ := hz.some k (by omega)
   have hfo := hz.free k
   have hst : V32 (wr.setCell ⟨gh, k, none⟩ (.int .u32 (dg (X - Y) k : Nat))) gh n 0 (k + 1) (dg (X - Y)) :=
    hz.set k _ (by omega) rfl (fun j a b hne => ⟨a, by omega, rfl⟩)
   have hgs := grown_set hg k (.int .u32 (dg (X - Y) k : Nat))
   by_cases hkm : k < m
   ·have hkm' : (k : Int) < (m : Int) := by omega
    obtain ⟨g2, rfl, hc2⟩ := hrb.at hbel k hkm
    by_cases hlow : dg X k < dg Y k + borrow32 X Y k
    ·have hlow' : (dg X k : Int) < (borrow32 X Y k : Int) + (dg Y k : Int) := by omega
     rw [if_pos hlow] at hd2
     have hw : IntKind.u32.wrap ((dg X k : Int) + 4294967296 - ((borrow32 X Y k : Int) + (dg Y k : Int))) = ((dg (X - Y) k : Nat) : Int) := by
      rw [IntKind.wrap_u32, ← hd1]
      unfold W32
      omega
     clear hd1 hz hg
     have hb1 : (1 : Int) = ((borrow32 X Y (k + 1) : Nat) : Int) := by omega
     generalize borrow32 X Y k = c0 at *
     generalize hC1 : borrow32 X Y (k + 1) = c1 at *
     generalize dg X k = x0 at *
     generalize dg Y k = y0 at *
     generalize hD : dg (X - Y) k = d0 at *
     subst hd2
     have HC1 := Lib.hid hC1
     clear hD hC1 hb1
     go_wp2_with fail
     go_roundw
     case rel => exact ⟨k + 1, by omega, by go_num, by rw [HC1.out]; rfl, hst, hgs⟩
     case measure => simp [intOf]; omega
    ·have hlow' : decide ((dg X k : Int) < (borrow32 X Y k : Int) + (dg Y k : Int)) = false := by simp; omega
     rw [if_neg hlow] at hd2
     have hw : IntKind.u32.wrap ((dg X k : Int) - ((borrow32 X Y k : Int) + (dg Y k : Int))) = ((dg (X - Y) k : Nat) : Int) := by
      rw [IntKind.wrap_u32, ← hd1]
      unfold W32
      omega
     have hge : (borrow32 X Y k : Int) + (dg Y k : Int) ≤ (dg X k : Int) := by omega
     clear hd1 hz hg hlow
     generalize borrow32 X Y k = c0 at *
     generalize hC1 : borrow32 X Y (k + 1) = c1 at *
     generalize dg X k = x0 at *
     generalize dg Y k = y0 at *
     generalize hD : dg (X - Y) k = d0 at *
     subst hd2
     have HC1 := Lib.hid hC1
     clear hD hC1
     go_wp2_with fail
     go_roundw
     case rel => exact ⟨k + 1, by omega, by go_num, by rw [HC1.out]; rfl, hst, hgs⟩
     case measure => simp [intOf]; omega
   ·have hkm' : decide ((k : Int) < (m : Int)) = false := by simp; omega
    have hy0 : dg Y k = 0 := dg_beyond HY.out k (by omega)
    rw [hy0] at hd1 hd2
    by_cases hlow : dg X k < 0 + borrow32 X Y k
    ·have hlow' : (dg X k : Int) < (borrow32 X Y k : Int) := by omega
     rw [if_pos hlow] at hd2
     have hw : IntKind.u32.wrap ((dg X k : Int) + 4294967296 - (borrow32 X Y k : Int)) = ((dg (X - Y) k : Nat) : Int) := by
      rw [IntKind.wrap_u32, ← hd1]
      unfold W32
      omega
     clear hd1 hz hg hy0 hy1
     generalize borrow32 X Y k = c0 at *
     generalize hC1 : borrow32 X Y (k + 1) = c1 at *
     generalize dg X k = x0 at *
     generalize hD : dg (X - Y) k = d0 at *
     subst hd2
     have HC1 := Lib.hid hC1
     clear hD hC1
     go_wp2_with fail
     go_roundw
     case rel => exact ⟨k + 1, by omega, by go_num, by rw [HC1.out]; rfl, hst, hgs⟩
     case measure => simp [intOf]; omega
    ·have hlow' : decide ((dg X k : Int) < (borrow32 X Y k : Int)) = false := by simp; omega
     rw [if_neg hlow] at hd2
     have hw : IntKind.u32.wrap ((dg X k : Int) - (borrow32 X Y k : Int)) = ((dg (X - Y) k : Nat) : Int) := by
      rw [IntKind.wrap_u32, ← hd1]
      unfold W32
      omega
     have hge : (borrow32 X Y k : Int) ≤ (dg X k : Int) := by omega
     clear hd1 hz hg hlow hy0 hy1
     generalize borrow32 X Y k = c0 at *
     generalize hC1 : borrow32 X Y (k + 1) = c1 at *
     generalize dg X k = x0 at *
     generalize hD : dg (X - Y) k = d0 at *
     subst hd2
     have HC1 := Lib.hid hC1
     clear hD hC1
     go_wp2_with fail
     go_roundw
     case rel => exact ⟨k + 1, by omega, by go_num, by rw [HC1.out]; rfl, hst, hgs⟩
     case measure => simp [intOf]; omega
  ·obtain rfl : k = n := by omega
   have hlt' : decide ((k : Int) < (k : Nat)) = false := by simp
   have htr := trim_row wr gh k k (X - Y) hz (Nat.lt_of_le_of_lt (Nat.sub_le _ _) HX.out) (Nat.le_refl _) (by omega)
   have hn10 : k ≤ 1000000 := by omega
   clear hg hcl
   generalize borrow32 X Y k = c0 at *
   go_wp2_with fail
   refine htr.mono ?_
   rintro e w1 ⟨⟨j, hj, hnl, rfl⟩, rfl⟩
   go_wp2_with fail
   go_ret
   exact ⟨_, rfl, Or.inr ⟨gh, j, k, rfl, hj, hn10, hnl, hz.weaken fun i a b => ⟨a, by omega, rfl⟩⟩, hbel⟩
theorem len_less {n m X Y : Nat} (hx : NL32 n X) (hy : NL32 m Y) (h : n < m) : X < Y := by
 have h1 := hy.2 (by omega)
 have h2 : W32 ^ n ≤ W32 ^ (m - 1) := Nat.pow_le_pow_right W32_pos (by omega)
 have := hx.1
 omega
theorem below_drewN' {B : Nat} {w w1 : World} (h : Below B w w1) (q : Nat) : Below B w (w1.drewN q) := ⟨h.os, h.tape, h.output, h.size, h.block⟩
/-- Above limb k the two are the same; limb k decides. -/
theorem limb_less (X Y k : Nat) (he : X / W32 ^ (k + 1) = Y / W32 ^ (k + 1)) (h : dg X k < dg Y k) : X < Y := by
 have h1 := Nat.div_add_mod X (W32 ^ (k + 1))
 have h2 := Nat.div_add_mod Y (W32 ^ (k + 1))
 rw [dg_add] at h1 h2
 rw [he] at h1
 have h3 := Nat.mod_lt X (W32_pow k)
 have h4 : (dg X k + 1) * W32 ^ k ≤ dg Y k * W32 ^ k := Nat.mul_le_mul_right _ h
 rw [Nat.add_mul, Nat.one_mul] at h4
 generalize X % W32 ^ k = xm at *
 generalize Y % W32 ^ k = ym at *
 omega
theorem limb_same (X Y k : Nat) (he : X / W32 ^ (k + 1) = Y / W32 ^ (k + 1)) (h : dg X k = dg Y k) : X / W32 ^ k = Y / W32 ^ k := by
 have h1 : ∀ Z : Nat, Z / W32 ^ k = Z / W32 ^ (k + 1) * W32 + dg Z k := fun Z => by
  unfold dg
  rw [Nat.pow_succ, ← Nat.div_div_eq_div_mul]
  have := Nat.div_add_mod (Z / W32 ^ k) W32
  rw [Nat.mul_comm] at this
  exact this.symm
 rw [h1 X, h1 Y, he, h]
set_option maxHeartbeats 4000000 in
theorem rcmp_any (w : World) (va vb : Value) (X Y : Nat) (ha : MagIs w va X) (hb : MagIs w vb Y) :
  Calls Tryz.prog 107 #[va, vb] w fun e w' => e = .returned (.int .i64 (cmpN X Y)) ∧ Below w.heap.size w w' := by
 obtain ⟨A, n, ca, rfl, hna, hca, hla, hra⟩ := ha.limbs
 obtain ⟨B, m, cb, rfl, hmb, hcb, hlb, hrb⟩ := hb.limbs
 clear ha hb
 rcases Nat.lt_trichotomy n m with hlt | heq | hgt
 ·rw [cmpN_lt (len_less hla hlb hlt)]
  have h1 : ((n : Int) != (m : Int)) = true := by rw [bne_iff_ne]; omega
  have h2 : (n : Int) < (m : Int) := by omega
  clear hra hrb hla hlb hlt
  go_enter Tryz.func107, Tryz.ntmps107
  go_wp2_with fail
  go_ret
  exact ⟨rfl, Below.refl _ _⟩
 ·subst heq
  have hX0 : X / W32 ^ n = 0 := Nat.div_eq_of_lt hla.1
  have hY0 : Y / W32 ^ n = 0 := Nat.div_eq_of_lt hlb.1
  have HE := Lib.hid (hX0.trans hY0.symm)
  clear hX0 hY0 hla hlb
  go_enter Tryz.func107, Tryz.ntmps107
  go_wp2_with fail
  go_loopw [5] (fun i wr => ∃ k : Nat, k ≤ n ∧ i = .int .i64 ((k : Int) - 1) ∧ X / W32 ^ k = Y / W32 ^ k ∧ Below w.heap.size w wr) (fun i _ => (intOf i + 1).toNat)
  case atStart => exact ⟨n, Nat.le_refl _, rfl, HE.out, Below.refl _ _⟩
  case round =>
   obtain ⟨k, hk, rfl, he, hbel⟩ := hrel
   have HE2 := Lib.hid he
   clear he
   by_cases h0 : k = 0
   ·subst h0
    have hXY : X = Y := by
     have := HE2.out
     rwa [Nat.pow_zero, Nat.div_one, Nat.div_one] at this
    subst hXY
    go_wp2_with fail
    go_ret
    exact ⟨congrArg (fun z => Ending.returned (Value.int .i64 z)) (cmpN_eq rfl).symm, hbel⟩
   ·obtain ⟨j, rfl⟩ : ∃ j, k = j + 1 := ⟨k - 1, by omega⟩
    have hj : ((j + 1 : Nat) : Int) - 1 = (j : Int) := by omega
    rw [hj]
    have hj0 : (0 : Int) ≤ (j : Int) := by omega
    have hjn : (j : Int) < (n : Int) := by omega
    obtain ⟨g1, rfl, hc1⟩ := hra.at hbel j (by omega)
    obtain ⟨g2, rfl, hc2⟩ := hrb.at hbel j (by omega)
    have hx1 := dg_le X j
    have hy1 := dg_le Y j
    rcases Nat.lt_trichotomy (dg X j) (dg Y j) with hl | hs | hg
    ·have HR := Lib.hid (cmpN_lt (limb_less X Y j HE2.out hl))
     have h1 : (dg X j : Int) < (dg Y j : Int) := by omega
     have h1n : decide (dg X j < dg Y j) = true := by simp; omega
     generalize dg X j = x0 at *
     generalize dg Y j = y0 at *
     go_wp2_with fail
     go_quiet (fail)
     go_wp2_with fail
     go_ret
     exact ⟨congrArg (fun z => Ending.returned (Value.int .i64 z)) HR.out.symm, below_drewN' hbel _⟩
    ·have HR := Lib.hid (limb_same X Y j HE2.out hs)
     have h1 : decide ((dg X j : Int) < (dg Y j : Int)) = false := by simp; omega
     have h2 : decide ((dg Y j : Int) < (dg X j : Int)) = false := by simp; omega
     have h1n : decide (dg X j < dg Y j) = false := by simp; omega
     have h2n : decide (dg Y j < dg X j) = false := by simp; omega
     clear hs
     generalize dg X j = x0 at *
     generalize dg Y j = y0 at *
     go_wp2_with fail
     go_quiet (fail)
     go_wp2_with fail
     go_quiet (fail)
     go_wp2_with fail
     go_roundw
     case rel => exact ⟨j, by omega, by go_num, HR.out, below_drewN' hbel _⟩
     case measure => simp [intOf]
    ·have HR := Lib.hid (cmpN_gt (limb_less Y X j HE2.out.symm hg))
     have h1 : decide ((dg X j : Int) < (dg Y j : Int)) = false := by simp; omega
     have h2 : (dg Y j : Int) < (dg X j : Int) := by omega
     have h1n : decide (dg X j < dg Y j) = false := by simp; omega
     have h2n : decide (dg Y j < dg X j) = true := by simp; omega
     clear hg
     generalize dg X j = x0 at *
     generalize dg Y j = y0 at *
     go_wp2_with fail
     go_quiet (fail)
     go_wp2_with fail
     go_quiet (fail)
     go_wp2_with fail
     go_ret
     exact ⟨congrArg (fun z => Ending.returned (Value.int .i64 z)) HR.out.symm, below_drewN' (below_drewN' hbel _) _⟩
 ·rw [cmpN_gt (len_less hlb hla hgt)]
  have h1 : ((n : Int) != (m : Int)) = true := by rw [bne_iff_ne]; omega
  have h2 : decide ((n : Int) < (m : Int)) = false := by simp; omega
  have h2n : decide (n < m) = false := by simp; omega
  clear hra hrb hla hlb hgt
  go_enter Tryz.func107, Tryz.ntmps107
  go_wp2_with fail
  go_ret
  exact ⟨rfl, Below.refl _ _⟩
end Go.Proofs.YtpfbgenefjhcjaaGreatDoor
