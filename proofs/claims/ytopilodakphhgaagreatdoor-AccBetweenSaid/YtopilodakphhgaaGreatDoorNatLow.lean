/- math/big's nat: rows of words of the call's own; make, norm. math/big's nat out of bytes: bigEndianWord, setBytes. (nat).setBytes of 608 bytes, into a new row. -/
import Derived.Test.YtopilodakphhgaaGreatDoorAccLow
import Derived.Laws.MakeOwn
import Derived.Laws.BitsAllLaws
import Derived.BigRegion
import Derived.RegionTactic
import Derived.Outline
namespace Go.Proofs.YtopilodakphhgaaGreatDoor
set_option linter.unusedVariables false
set_option linter.unusedSimpArgs false
open Go Go.RowKit
set_option maxRecDepth 100000
/-- Block g is a row of cap words, of which those from lo on, below hi, are F's. -/
def Vec (w : World) (g cap lo hi : Nat) (F : Nat → Nat) : Prop :=
  ∃ cur, w.heap[g]? = some (.cells cur 114 (0, 0)) ∧ cur.size = cap ∧ ∀ j, lo ≤ j → j < hi → cur[j]? = some (.int .u64 (F j : Nat))
theorem Vec.cell {w : World} {g cap lo hi : Nat} {F : Nat → Nat} (h : Vec w g cap lo hi F) (j : Nat) (h1 : lo ≤ j) (h2 : j < hi) : w.cell? ⟨g, j, none⟩ = some (.int .u64 (F j : Nat)) := by
  obtain ⟨cur, hc, _, hv⟩ := h
  rw [cell_of_row w g j _ _ _ hc]
  exact hv j h1 h2
theorem Vec.some {w : World} {g cap lo hi : Nat} {F : Nat → Nat} (h : Vec w g cap lo hi F) (j : Nat) (hj : j < cap) : ∃ v, w.cell? ⟨g, j, none⟩ = some v := by
  obtain ⟨cur, hc, hs, _⟩ := h
  rw [cell_of_row w g j _ _ _ hc]
  exact ⟨cur[j]'(by omega), Array.getElem?_eq_getElem _⟩
theorem Vec.free {w : World} {g cap lo hi : Nat} {F : Nat → Nat} (h : Vec w g cap lo hi F) (j : Nat) : w.frozen? ⟨g, j, none⟩ = false := by
  obtain ⟨cur, hc, _, _⟩ := h
  exact frozen_of_row w g j _ _ hc
theorem Vec.lt {w : World} {g cap lo hi : Nat} {F : Nat → Nat} (h : Vec w g cap lo hi F) : g < w.heap.size := by
  obtain ⟨cur, hc, _, _⟩ := h
  exact (Array.getElem?_eq_some_iff.1 hc).1
theorem Vec.heap {w w1 : World} {g cap lo hi : Nat} {F : Nat → Nat} (h : Vec w g cap lo hi F) (hb : w1.heap[g]? = w.heap[g]?) : Vec w1 g cap lo hi F := by
  obtain ⟨cur, hc, hs, hv⟩ := h
  exact ⟨cur, hb.trans hc, hs, hv⟩
theorem Vec.below {w w1 : World} {g cap lo hi : Nat} {F : Nat → Nat} (h : Vec w g cap lo hi F) (hb : Below w.heap.size w w1) : Vec w1 g cap lo hi F := h.heap (hb.block g h.lt)
theorem Vec.grown {w w1 : World} {g cap lo hi : Nat} {F : Nat → Nat} {row : Option Nat} (h : Vec w g cap lo hi F) (hg : w.grownBy w1 row) (hr : Option.some g ≠ row) : Vec w1 g cap lo hi F := h.heap (hg.block g h.lt hr)
theorem Vec.weaken {w : World} {g cap lo hi lo' hi' : Nat} {F F' : Nat → Nat} (h : Vec w g cap lo hi F) (h1 : lo ≤ lo') (h2 : hi' ≤ hi) (h3 : ∀ j, lo' ≤ j → j < hi' → F j = F' j) : Vec w g cap lo' hi' F' := by
  obtain ⟨cur, hc, hs, hv⟩ := h
  exact ⟨cur, hc, hs, fun j a b => by rw [hv j (by omega) (by omega), h3 j a b]⟩
theorem Vec.weaken' {w : World} {g cap lo hi lo' hi' : Nat} {F F' : Nat → Nat} (h : Vec w g cap lo hi F) (h3 : ∀ j, lo' ≤ j → j < hi' → lo ≤ j ∧ j < hi ∧ F j = F' j) : Vec w g cap lo' hi' F' := by
  obtain ⟨cur, hc, hs, hv⟩ := h
  exact ⟨cur, hc, hs, fun j a b => by obtain ⟨c1, c2, c3⟩ := h3 j a b; rw [hv j c1 c2, c3]⟩
/-- A store: the cells that are known, and the one that is stored. -/
theorem Vec.set {w : World} {g cap lo hi lo' hi' : Nat} {F F' : Nat → Nat} (h : Vec w g cap lo hi F) (k u : Nat) (hk : k < cap) (hu : u = F' k) (hF : ∀ j, lo' ≤ j → j < hi' → j ≠ k → lo ≤ j ∧ j < hi ∧ F j = F' j) :
    Vec (w.setCell ⟨g, k, none⟩ (.int .u64 (u : Nat))) g cap lo' hi' F' := by
  obtain ⟨cur, hc, hs, hv⟩ := h
  refine ⟨cur.setIfInBounds k (.int .u64 (u : Nat)), heap_setCell_same w g k _ _ _ hc, by simpa using hs, fun j a b => ?_⟩
  rw [Array.getElem?_setIfInBounds]
  by_cases hj : k = j
  · subst hj
    rw [if_pos rfl, if_pos (by omega), hu]
  · rw [if_neg hj]
    obtain ⟨c1, c2, c3⟩ := hF j a b (fun e => hj e.symm)
    rw [hv j c1 c2, c3]
theorem grown_set {w wr : World} {g : Nat} (h : w.grownBy wr (Option.some g)) (k : Nat) (v : Value) : w.grownBy (wr.setCell ⟨g, k, none⟩ v) (Option.some g) :=
  ⟨h.os, h.tape, h.output, by
    have := h.size
    rw [show (wr.setCell ⟨g, k, none⟩ v).heap.size = wr.heap.size by simp [World.setCell]]
    exact this, fun j hj hr => (heap_setCell_other wr ⟨g, k, none⟩ j _ (fun e => hr (by rw [e]))).trans (h.block j hj hr)⟩
theorem grown_refl (w : World) (row : Option Nat) : w.grownBy w row := ⟨rfl, rfl, rfl, Nat.le_refl _, fun _ _ _ => rfl⟩
/-- What was made behind w's blocks, and written there alone. -/
theorem below_of_grown {w w1 : World} {g : Nat} (h : w.grownBy w1 (Option.some g)) (hg : w.heap.size ≤ g) : Below w.heap.size w w1 :=
  ⟨h.os, h.tape, h.output, h.size, fun k hk => h.block k hk (fun e => by injection e with e; omega)⟩
/-- c words, all 0. -/
def zeroWords (c : Nat) : Array Value := madeCells (Value.int .u64 0).cells (c * 1)
theorem zeroWords_size (c : Nat) : (zeroWords c).size = c := by unfold zeroWords; rw [size_madeCells, Nat.mul_one]
theorem zeroWords_get (c j : Nat) (h : j < c) : (zeroWords c)[j]? = Option.some (.int .u64 (0 : Nat)) := by
  unfold zeroWords madeCells
  simp [Value.cells, h, Nat.mod_one]
theorem Vec.made (w : World) (c : Nat) : Vec (w.alloc (.cells (zeroWords c) 114)) w.heap.size c 0 c (fun _ => 0) :=
  ⟨_, heap_alloc_new w _, zeroWords_size c, fun j _ hj => zeroWords_get c j hj⟩
theorem infoW : (Tryz.prog.info? 114).map (fun i => (i.zero, i.size, i.bytes)) = Option.some (Option.some (.int .u64 0), 1, 8) := by kernel_rfl
theorem run_make_nat (n c : Int) (h0 : 0 ≤ n) (h1 : n ≤ c) (h2 : c ≤ 1000000) (w : World) :
    (Instr.makeSlice 92 (.int .i64 n) (.int .i64 c)).run Tryz.prog w = .ok (.slice (Option.some ⟨w.heap.size, 0, none⟩) n.toNat c.toNat) (w.alloc (.cells (zeroWords c.toNat) 114)) := by
  obtain ⟨i0, hi, hz0, hz1, hz2⟩ := info_parts infoW
  have := run_make (P := Tryz.prog) w 92 114 i0 _ Tryz.underlying92 hi hz0 .i64 .i64 n c h0 h1 (by rw [hz2]; omega) (by omega)
  rw [hz1] at this
  exact this
theorem make_nil (n : Nat) (h0 : 0 < n) (h1 : n ≤ 100000) (w : World) :
    Calls Tryz.prog 94 #[.slice none 0 0, .int .i64 (n : Nat)] w fun e w' => ∃ cap, n ≤ cap ∧ cap ≤ n + 4 ∧ e = .returned (.slice (Option.some ⟨w.heap.size, 0, none⟩) n cap) ∧ w.alloc (.cells (zeroWords cap) 114) = w' := by
  have hq : decide ((n : Int) ≤ 0) = false := by simp; omega
  by_cases hn : n = 1
  · subst hn
    have hm := run_make_nat 1 1 (by decide) (by decide) (by decide)
    go_enter Tryz.func94, Tryz.ntmps94
    go_wp2
    go_ret
    exact ⟨1, Nat.le_refl _, by omega, rfl, rfl⟩
  · have hn' : ((n : Int) == 1) = false := by rw [beq_eq_false_iff_ne]; omega
    have hm := run_make_nat (n : Int) ((n : Int) + 4) (by omega) (by omega) (by omega)
    rw [show ((n : Int) + 4).toNat = n + 4 by omega, show ((n : Int)).toNat = n by omega] at hm
    go_enter Tryz.func94, Tryz.ntmps94
    go_wp2
    go_ret
    exact ⟨n + 4, by omega, Nat.le_refl _, rfl, rfl⟩
/-- How many words M has. -/
def NormLen (n M : Nat) : Prop := M < B64 ^ n ∧ (0 < n → B64 ^ (n - 1) ≤ M)
theorem norm_step (k M : Nat) (h : M < B64 ^ (k + 1)) (hz : wd M k = 0) : M < B64 ^ k := by
  have h1 := wd_add M k
  rw [hz, Nat.zero_mul, Nat.add_zero, Nat.mod_eq_of_lt h] at h1
  rw [h1]
  exact Nat.mod_lt _ (Bpow_pos k)
theorem norm_stop (k M : Nat) (hz : wd M k ≠ 0) : B64 ^ k ≤ M := by
  by_cases h : B64 ^ k ≤ M
  · exact h
  · exfalso
    apply hz
    unfold wd
    rw [Nat.div_eq_of_lt (by omega)]
    rfl
set_option maxHeartbeats 1000000 in
theorem norm_row (w : World) (g n cap M : Nat) (h : Vec w g cap 0 n (wd M)) (hM : M < B64 ^ n) (hn : n ≤ cap) (hc : cap ≤ 1000000) :
    Calls Tryz.prog 97 #[.slice (Option.some ⟨g, 0, none⟩) n cap] w fun e w' => (∃ k, k ≤ n ∧ NormLen k M ∧ e = .returned (.slice (Option.some ⟨g, 0, none⟩) k cap)) ∧ w = w' := by
  go_enter Tryz.func97, Tryz.ntmps97
  go_wp2_with fail
  go_loop [3] (fun i => ∃ k : Nat, k ≤ n ∧ M < B64 ^ k ∧ i = .int .i64 k) (fun i => (intOf i).toNat)
  case atStart => exact ⟨n, Nat.le_refl _, hM, rfl⟩
  case round =>
    obtain ⟨k, hk, hMk, rfl⟩ := hrel
    have HM := Lib.hid hMk
    clear hMk
    by_cases h0 : k = 0
    · subst h0
      go_wp2_with fail
      go_ret
      exact ⟨⟨0, hk, ⟨HM.out, fun h => absurd h (Nat.lt_irrefl 0)⟩, rfl⟩, rfl⟩
    · obtain ⟨j, rfl⟩ : ∃ j, k = j + 1 := ⟨k - 1, by omega⟩
      have hcell := h.cell j (Nat.zero_le _) (by omega)
      by_cases hz : wd M j = 0
      · have hz' : (((wd M j : Nat) : Int) == 0) = true := by rw [beq_iff_eq]; omega
        have Hz := Lib.hid hz
        clear hz
        go_wp2_with fail
        go_round
        case rel => exact ⟨j, by omega, norm_step j M HM.out Hz.out, by go_num⟩
        case measure => simp [intOf]
      · have hz' : (((wd M j : Nat) : Int) == 0) = false := by rw [beq_eq_false_iff_ne]; omega
        have Hz := Lib.hid hz
        clear hz
        go_wp2_with fail
        go_ret
        exact ⟨⟨j + 1, hk, ⟨HM.out, fun _ => norm_stop j M Hz.out⟩, rfl⟩, rfl⟩
set_option linter.unusedVariables false
set_option linter.unusedSimpArgs false
open Go Go.RowKit
set_option maxRecDepth 100000
/-- Byte j of X. -/
def bt8 (X j : Nat) : Nat := X / 256 ^ j % 256
theorem bt8_lt (X j : Nat) : bt8 X j < 256 := Nat.mod_lt _ (by decide)
/-- The low j bytes of word k of X. -/
def lowB (X k j : Nat) : Nat := wd X k % 256 ^ j
theorem B64_256 : B64 = 256 ^ 8 := rfl
theorem lowB_step (X k j : Nat) (hj : j < 8) : lowB X k (j + 1) = lowB X k j + 256 ^ j * bt8 X (8 * k + j) := by
  unfold lowB bt8 wd
  rw [Nat.pow_succ 256 j, Nat.mod_mul]
  congr 2
  rw [B64_256, ← Nat.pow_mul]
  obtain ⟨d, hd⟩ : ∃ d, 8 = j + 1 + d := ⟨8 - (j + 1), by omega⟩
  rw [Nat.pow_add 256 (8 * k) j, ← Nat.div_div_eq_div_mul]
  generalize X / 256 ^ (8 * k) = q
  have h8 : 256 ^ 8 = 256 ^ j * (256 * 256 ^ d) := by
    rw [hd, Nat.pow_add, Nat.pow_succ, Nat.mul_assoc]
  rw [h8, Nat.mod_mul_right_div_self, Nat.mod_mul_right_mod]
theorem lowB_zero (X k : Nat) : lowB X k 0 = 0 := by unfold lowB; rw [Nat.pow_zero, Nat.mod_one]
theorem lowB_one (X k : Nat) : lowB X k 1 = bt8 X (8 * k) := by
  have := lowB_step X k 0 (by decide)
  rw [lowB_zero, Nat.pow_zero, Nat.one_mul, Nat.zero_add, Nat.zero_add] at this
  exact this
theorem lowB_all (X k : Nat) : lowB X k 8 = wd X k := by
  unfold lowB
  rw [← B64_256, Nat.mod_eq_of_lt (wd_lt X k)]
theorem lowB_lt (X k j : Nat) : lowB X k j < 256 ^ j := Nat.mod_lt _ (Nat.pow_pos (by decide))
/-- One byte more, by 'or', as the code does. -/
theorem or_byte (X k j p : Nat) (hj : j < 8) (hp : 256 ^ j = p) : bits .or .u64 (lowB X k j : Int) ((bt8 X (8 * k + j) : Int) * (p : Nat)) = (lowB X k (j + 1) : Nat) := by
  have hb := bt8_lt X (8 * k + j)
  have hl := lowB_lt X k j
  have hp8 : 256 ^ (j + 1) ≤ 256 ^ 8 := Nat.pow_le_pow_right (by decide) (by omega)
  have h1 : bt8 X (8 * k + j) * 256 ^ j + 256 ^ j ≤ 256 ^ (j + 1) := by
    rw [Nat.pow_succ, Nat.mul_comm, ← Nat.mul_succ]
    exact Nat.mul_le_mul_left _ hb
  have h256 : 0 < 256 ^ j := Nat.pow_pos (by decide)
  have hlt : bt8 X (8 * k + j) * 256 ^ j < 256 ^ 8 := by omega
  rw [← hp, ← Int.natCast_mul, u64_or_nat _ _ (show lowB X k j < 256 ^ 8 by omega) hlt, lowB_step X k j hj]
  congr 1
  have h2 : (256 : Nat) ^ j = 2 ^ (8 * j) := by rw [show (256 : Nat) = 2 ^ 8 from rfl, ← Nat.pow_mul]
  rw [h2] at hl ⊢
  rw [Nat.or_comm, Nat.mul_comm (bt8 _ _), ← Nat.two_pow_add_eq_or_of_lt hl, Nat.add_comm]
theorem or_all (X k : Nat) : bits .or .u64 (bits .or .u64 (bits .or .u64 (bits .or .u64 (bits .or .u64 (bits .or .u64 (bits .or .u64 (bt8 X (8 * k) : Int) ((bt8 X (8 * k + 1) : Int) * 256)) ((bt8 X (8 * k + 2) : Int) * 65536)) ((bt8 X (8 * k + 3) : Int) * 16777216)) ((bt8 X (8 * k + 4) : Int) * 4294967296)) ((bt8 X (8 * k + 5) : Int) * 1099511627776)) ((bt8 X (8 * k + 6) : Int) * 281474976710656)) ((bt8 X (8 * k + 7) : Int) * 72057594037927936) = (wd X k : Nat) := by
  have s1 := or_byte X k 1 256 (by decide) rfl
  have s2 := or_byte X k 2 65536 (by decide) rfl
  have s3 := or_byte X k 3 16777216 (by decide) rfl
  have s4 := or_byte X k 4 4294967296 (by decide) rfl
  have s5 := or_byte X k 5 1099511627776 (by decide) rfl
  have s6 := or_byte X k 6 281474976710656 (by decide) rfl
  have s7 := or_byte X k 7 72057594037927936 (by decide) rfl
  rw [lowB_one] at s1
  rw [lowB_all] at s7
  exact (congrArg (fun t => bits .or .u64 (bits .or .u64 (bits .or .u64 (bits .or .u64 (bits .or .u64 (bits .or .u64 t _) _) _) _) _) _) s1).trans ((congrArg (fun t => bits .or .u64 (bits .or .u64 (bits .or .u64 (bits .or .u64 (bits .or .u64 t _) _) _) _) _) s2).trans ((congrArg (fun t => bits .or .u64 (bits .or .u64 (bits .or .u64 (bits .or .u64 t _) _) _) _) s3).trans ((congrArg (fun t => bits .or .u64 (bits .or .u64 (bits .or .u64 t _) _) _) s4).trans ((congrArg (fun t => bits .or .u64 (bits .or .u64 t _) _) s5).trans ((congrArg (fun t => bits .or .u64 t _) s6).trans s7)))))
/-- Block g is a row of 608 bytes: those of X, the highest first. -/
def ByteRow (w : World) (g : Nat) (X : Nat) : Prop := ∃ cur, w.heap[g]? = Option.some (.cells cur 5 (0, 0)) ∧ ∀ j, j < 608 → cur[607 - j]? = Option.some (.int .u8 (bt8 X j : Nat))
theorem ByteRow.cell {w : World} {g X : Nat} (h : ByteRow w g X) (j : Nat) (hj : j < 608) : w.cell? ⟨g, 607 - j, none⟩ = Option.some (.int .u8 (bt8 X j : Nat)) := by
  obtain ⟨cur, hc, hv⟩ := h
  rw [cell_of_row w g _ _ _ _ hc]
  exact hv j hj
set_option maxHeartbeats 2000000 in
theorem be64 (w : World) (g X k o cap : Nat) (h : ByteRow w g X) (hk : k < 76) (ho : o = 600 - 8 * k) :
    Calls Tryz.prog 113 #[.slice (Option.some ⟨g, o, none⟩) 8 cap] w fun e w' => e = .returned (.int .u64 (wd X k : Nat)) ∧ Below w.heap.size w w' := by
  have c0 := h.cell (8 * k) (by omega)
  have c1 := h.cell (8 * k + 1) (by omega)
  have c2 := h.cell (8 * k + 2) (by omega)
  have c3 := h.cell (8 * k + 3) (by omega)
  have c4 := h.cell (8 * k + 4) (by omega)
  have c5 := h.cell (8 * k + 5) (by omega)
  have c6 := h.cell (8 * k + 6) (by omega)
  have c7 := h.cell (8 * k + 7) (by omega)
  rw [show 607 - (8 * k) = o + 7 by omega] at c0
  rw [show 607 - (8 * k + 1) = o + 6 by omega] at c1
  rw [show 607 - (8 * k + 2) = o + 5 by omega] at c2
  rw [show 607 - (8 * k + 3) = o + 4 by omega] at c3
  rw [show 607 - (8 * k + 4) = o + 3 by omega] at c4
  rw [show 607 - (8 * k + 5) = o + 2 by omega] at c5
  rw [show 607 - (8 * k + 6) = o + 1 by omega] at c6
  rw [show 607 - (8 * k + 7) = o by omega] at c7
  have l0 := bt8_lt X (8 * k)
  have l1 := bt8_lt X (8 * k + 1)
  have l2 := bt8_lt X (8 * k + 2)
  have l3 := bt8_lt X (8 * k + 3)
  have l4 := bt8_lt X (8 * k + 4)
  have l5 := bt8_lt X (8 * k + 5)
  have l6 := bt8_lt X (8 * k + 6)
  have l7 := bt8_lt X (8 * k + 7)
  clear h ho
  go_enter Tryz.func113, Tryz.ntmps113
  go_wp2_with fail
  go_quiet (fail)
  go_wp2_with fail
  go_ret
  exact ⟨congrArg (fun n => Ending.returned (.int .u64 n)) (or_all X k), ⟨rfl, rfl, rfl, Nat.le_refl _, fun _ _ => rfl⟩⟩
theorem bew (w : World) (g X k o cap : Nat) (h : ByteRow w g X) (hk : k < 76) (ho : o = 600 - 8 * k) :
    Calls Tryz.prog 108 #[.slice (Option.some ⟨g, o, none⟩) 8 cap] w fun e w' => e = .returned (.int .u64 (wd X k : Nat)) ∧ Below w.heap.size w w' := by
  have HO := Lib.hid ho
  clear ho
  go_enter Tryz.func108, Tryz.ntmps108
  go_wp2_with fail
  refine (be64 _ g X k o cap h hk HO.out).mono ?_
  rintro e w1 ⟨rfl, hb⟩
  go_wp2_with fail
  go_ret
  exact ⟨rfl, hb⟩
set_option linter.unusedVariables false
set_option linter.unusedSimpArgs false
open Go Go.RowKit
set_option maxRecDepth 100000
theorem ByteRow.below {w w1 : World} {g X B : Nat} (h : ByteRow w g X) (hg : g < B) (hb : Below B w w1) : ByteRow w1 g X := by
  obtain ⟨cur, hc, hv⟩ := h
  exact ⟨cur, (hb.block g hg).trans hc, hv⟩
/-- A nat in memory, the value '.slice A n cap': nil, or a row of n words; M is its value, n just so many as M has. -/
def NatIs (w : World) (A : Option Addr) (n cap M : Nat) : Prop :=
  NormLen n M ∧ ((n = 0 ∧ A = none ∧ cap = 0) ∨ ∃ g, A = Option.some ⟨g, 0, none⟩ ∧ n ≤ cap ∧ cap ≤ 1000000 ∧ Vec w g cap 0 n (wd M))
theorem NatIs.below {w w1 : World} {A : Option Addr} {n cap M : Nat} (h : NatIs w A n cap M) (hb : Below w.heap.size w w1) : NatIs w1 A n cap M := by
  refine ⟨h.1, ?_⟩
  rcases h.2 with h | ⟨g, h1, h2, h3, h4⟩
  · exact Or.inl h
  · exact Or.inr ⟨g, h1, h2, h3, h4.below hb⟩
/-- A big.Int in memory: not below 0. -/
def IntIs (w : World) (p M : Nat) : Prop := ∃ A n cap, w.heap[p]? = Option.some (.cells #[.bool false, .slice A n cap] 94 (0, 0)) ∧ NatIs w A n cap M
theorem Vec.ne_int {w : World} {g cap lo hi p : Nat} {F : Nat → Nat} {cs : Array Value} (h : Vec w g cap lo hi F) (hp : w.heap[p]? = Option.some (.cells cs 94 (0, 0))) : g ≠ p := by
  rintro rfl
  obtain ⟨cur, hc, _⟩ := h
  rw [hc] at hp
  injection hp with hp
  injection hp with _ hp
  cases hp
theorem NatIs.other {w w1 : World} {A : Option Addr} {n cap M p : Nat} {cs : Array Value} (h : NatIs w A n cap M) (hp : w.heap[p]? = Option.some (.cells cs 94 (0, 0))) (hb : ∀ k, k < w.heap.size → k ≠ p → w1.heap[k]? = w.heap[k]?) : NatIs w1 A n cap M := by
  refine ⟨h.1, ?_⟩
  rcases h.2 with h | ⟨g, h1, h2, h3, h4⟩
  · exact Or.inl h
  · exact Or.inr ⟨g, h1, h2, h3, h4.heap (hb g h4.lt (h4.ne_int hp))⟩
theorem IntIs.below {w w1 : World} {p M : Nat} (h : IntIs w p M) (hb : Below w.heap.size w w1) : IntIs w1 p M := by
  obtain ⟨A, n, cap, hp, hn⟩ := h
  exact ⟨A, n, cap, (hb.block p (Array.getElem?_eq_some_iff.1 hp).1).trans hp, hn.below hb⟩
theorem IntIs.lt {w : World} {p M : Nat} (h : IntIs w p M) : p < w.heap.size := by
  obtain ⟨A, n, cap, hp, hn⟩ := h
  exact (Array.getElem?_eq_some_iff.1 hp).1
/-- Another big.Int's cells are written. -/
theorem IntIs.grown {w w1 : World} {p q M : Nat} {cs : Array Value} (h : IntIs w p M) (hq : w.heap[q]? = Option.some (.cells cs 94 (0, 0))) (hg : w.grownBy w1 (Option.some q)) (hpq : p ≠ q) : IntIs w1 p M := by
  obtain ⟨A, n, cap, hp, hn⟩ := h
  exact ⟨A, n, cap, (hg.block p (Array.getElem?_eq_some_iff.1 hp).1 (fun e => hpq (by injection e))).trans hp, hn.other hq (fun k hk hne => hg.block k hk (fun e => hne (by injection e)))⟩
set_option maxHeartbeats 2000000 in
theorem setBytes_nil (w : World) (g X : Nat) (h : ByteRow w g X) (hX : X < TOP) (hg : g < w.heap.size) :
    Calls Tryz.prog 89 #[.slice none 0 0, .slice (Option.some ⟨g, 0, none⟩) 608 608] w fun e w' => (∃ A n cap, e = .returned (.slice A n cap) ∧ NatIs w' A n cap X) ∧ Below w.heap.size w w' := by
  go_enter Tryz.func89, Tryz.ntmps89
  go_wp2_with fail
  refine (make_nil 76 (by decide) (by decide) _).mono ?_
  rintro e w1 ⟨cap, hc1, hc2, rfl, rfl⟩
  go_wp2_with fail
  go_loopw [5, 6] (fun i kk wr => ∃ k : Nat, k ≤ 76 ∧ kk = .int .i64 k ∧ i = .int .i64 (608 - 8 * (k : Int)) ∧ Vec wr w.heap.size cap 0 k (wd X) ∧ Below w.heap.size w wr ∧ w.heap.size < wr.heap.size) (fun _ kk _ => 76 - (intOf kk).toNat)
  case atStart => exact ⟨0, by omega, rfl, rfl, (Vec.made w cap).weaken (Nat.le_refl _) (Nat.zero_le _) (fun j _ hj => absurd hj (Nat.not_lt_zero j)), (Below.refl _ _).alloc (Nat.le_refl _) _, by simp⟩
  case round =>
    obtain ⟨k, hk, rfl, rfl, hv, hb, hsz⟩ := hrel
    by_cases hlt : k < 76
    · obtain ⟨v0, hcell⟩ := hv.some k (by omega)
      have hfz := hv.free k
      have hB := h.below hg hb
      have ho : (608 - 8 * (k : Int) - 8).toNat = 600 - 8 * k := by omega
      go_wp2_with fail
      rw [show 608 - 8 * k - (600 - 8 * k) = 8 by omega]
      refine (bew _ g X k (600 - 8 * k) _ hB hlt rfl).mono ?_
      rintro e w2 ⟨rfl, hb2⟩
      have hv2 := hv.below hb2
      obtain ⟨v1, hcell2⟩ := hv2.some k (by omega)
      have hfz2 := hv2.free k
      have hstep : Vec (w2.setCell ⟨w.heap.size, k, none⟩ (.int .u64 (wd X k : Nat))) w.heap.size cap 0 (k + 1) (wd X) :=
        hv2.set k (wd X k) (by omega) rfl (fun j _ hj hne => ⟨Nat.zero_le _, by omega, rfl⟩)
      have hbelow : Below w.heap.size w (w2.setCell ⟨w.heap.size, k, none⟩ (.int .u64 (wd X k : Nat))) :=
        below_of_grown (grown_set (grown_of_below (hb.trans (hb2.mono hb.size))) k _) (Nat.le_refl _)
      have hs2 := hb2.size
      have hsz2 : w.heap.size < (w2.setCell ⟨w.heap.size, k, none⟩ (.int .u64 (wd X k : Nat))).heap.size := by
        rw [show (w2.setCell ⟨w.heap.size, k, none⟩ (.int .u64 (wd X k : Nat))).heap.size = w2.heap.size by simp [World.setCell]]; omega
      have HB := Lib.hid hbelow
      have HS := Lib.hid hsz2
      clear hcell hfz hbelow hsz2 hs2 hb hb2 hsz
      go_wp2_with fail
      go_roundw
      case rel => exact ⟨k + 1, by omega, by go_num, by go_num, hstep, HB.out, HS.out⟩
      case measure => simp [intOf]; omega
    · obtain rfl : k = 76 := by omega
      go_wp2_with fail
      refine (norm_row _ w.heap.size 76 cap X hv hX hc1 (by omega)).mono ?_
      rintro e w2 ⟨⟨n, hn, hnorm, rfl⟩, rfl⟩
      go_wp2_with fail
      go_ret
      exact ⟨⟨_, n, cap, rfl, hnorm, Or.inr ⟨w.heap.size, rfl, by omega, by omega, hv.weaken (Nat.le_refl _) hn (fun _ _ _ => rfl)⟩⟩, hb⟩
theorem int_cells {w : World} {p : Nat} {a b : Value} (h : w.heap[p]? = Option.some (.cells #[a, b] 94 (0, 0))) : w.cell? ⟨p, 0, none⟩ = Option.some a ∧ w.cell? ⟨p, 1, none⟩ = Option.some b ∧ w.frozen? ⟨p, 0, none⟩ = false ∧ w.frozen? ⟨p, 1, none⟩ = false := by
  refine ⟨?_, ?_, frozen_of_row w p 0 _ _ h, frozen_of_row w p 1 _ _ h⟩
  · rw [cell_of_row w p 0 _ _ _ h]; rfl
  · rw [cell_of_row w p 1 _ _ _ h]; rfl
/-- The end of a method that sets z: abs, then neg. -/
theorem int_set {w w2 : World} {p M n cap : Nat} {A : Option Addr} {v : Value} (h : w.heap[p]? = Option.some (.cells #[.bool false, v] 94 (0, 0))) (hb : Below w.heap.size w w2) (hn : NatIs w2 A n cap M) :
    IntIs ((w2.setCell ⟨p, 1, none⟩ (.slice A n cap)).setCell ⟨p, 0, none⟩ (.bool false)) p M ∧ w.grownBy ((w2.setCell ⟨p, 1, none⟩ (.slice A n cap)).setCell ⟨p, 0, none⟩ (.bool false)) (Option.some p) := by
  have hp2 : w2.heap[p]? = Option.some (.cells #[.bool false, v] 94 (0, 0)) := (hb.block p (Array.getElem?_eq_some_iff.1 h).1).trans h
  have h1 := heap_setCell_same w2 p 1 _ _ (.slice A n cap) hp2
  have h2 := heap_setCell_same _ p 0 _ _ (.bool false) h1
  refine ⟨⟨A, n, cap, h2, hn.other hp2 (fun k hk hne => ?_)⟩, grown_set (grown_set (grown_of_below hb) 1 _) 0 _⟩
  rw [heap_setCell_other _ ⟨p, 0, none⟩ k _ hne, heap_setCell_other _ ⟨p, 1, none⟩ k _ hne]
set_option maxHeartbeats 1000000 in
theorem int_setBytes (w : World) (p g X : Nat) (hp : w.heap[p]? = Option.some (.cells #[.bool false, .slice none 0 0] 94 (0, 0))) (h : ByteRow w g X) (hX : X < TOP) (hg : g < w.heap.size) :
    Calls Tryz.prog 64 #[.pointer (Option.some ⟨p, 0, none⟩), .slice (Option.some ⟨g, 0, none⟩) 608 608] w fun e w' => e = .returned (.pointer (Option.some ⟨p, 0, none⟩)) ∧ IntIs w' p X ∧ w.grownBy w' (Option.some p) := by
  obtain ⟨c0, c1, f0, f1⟩ := int_cells hp
  go_enter Tryz.func64, Tryz.ntmps64
  go_wp2_with fail
  refine (setBytes_nil _ g X h hX hg).mono ?_
  rintro e w2 ⟨⟨A, n, cap, rfl, hn⟩, hb⟩
  obtain ⟨d0, d1, e0, e1⟩ := int_cells ((hb.block p (Array.getElem?_eq_some_iff.1 hp).1).trans hp)
  have fin := Lib.hid (int_set hp hb hn)
  clear c0 c1 f0 f1 hb hn
  go_wp2_with fail
  go_ret
  exact ⟨rfl, fin.out⟩
end Go.Proofs.YtopilodakphhgaaGreatDoor
