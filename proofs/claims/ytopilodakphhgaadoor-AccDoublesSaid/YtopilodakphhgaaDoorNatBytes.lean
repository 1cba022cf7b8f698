/- math/big's nat out of bytes: bigEndianWord, setBytes. -/
import Derived.Test.YtopilodakphhgaaDoorNatBase
namespace Go.Proofs.YtopilodakphhgaaDoor
set_option linter.unusedVariables false
set_option linter.unusedSimpArgs false
open Go Go.RowKit
set_option maxRecDepth 100000
/-- Byte j of X. -/
def bt8 (X j : Nat) : Nat := X / 256 ^ j % 256
theorem bt8_lt (X j : Nat) : bt8 X j < 256 := Nat.mod_lt _ (by decide)
/-- The low j bytes of word k of X. -/
def lowB (X k j : Nat) : Nat := wd X k % 256 ^ j
theorem B64_256 : B64 = 256 ^ 8 := rfl
theorem lowB_step (X k j : Nat) (hj : j < 8) : lowB X k (j + 1) = lowB X k j + 256 ^ j * bt8 X (8 * k + j) := by
  unfold lowB bt8 wd
  rw [Nat.pow_succ 256 j, Nat.mod_mul]
  congr 2
  rw [B64_256, ← Nat.pow_mul]
  obtain ⟨d, hd⟩ : ∃ d, 8 = j + 1 + d := ⟨8 - (j + 1), by omega⟩
  rw [Nat.pow_add 256 (8 * k) j, ← Nat.div_div_eq_div_mul]
  generalize X / 256 ^ (8 * k) = q
  have h8 : 256 ^ 8 = 256 ^ j * (256 * 256 ^ d) := by
    rw [hd, Nat.pow_add, Nat.pow_succ, Nat.mul_assoc]
  rw [h8, Nat.mod_mul_right_div_self, Nat.mod_mul_right_mod]
theorem lowB_zero (X k : Nat) : lowB X k 0 = 0 := by unfold lowB; rw [Nat.pow_zero, Nat.mod_one]
theorem lowB_one (X k : Nat) : lowB X k 1 = bt8 X (8 * k) := by
  have := lowB_step X k 0 (by decide)
  rw [lowB_zero, Nat.pow_zero, Nat.one_mul, Nat.zero_add, Nat.zero_add] at this
  exact this
theorem lowB_all (X k : Nat) : lowB X k 8 = wd X k := by
  unfold lowB
  rw [← B64_256, Nat.mod_eq_of_lt (wd_lt X k)]
theorem lowB_lt (X k j : Nat) : lowB X k j < 256 ^ j := Nat.mod_lt _ (Nat.pow_pos (by decide))
/-- One byte more, by 'or', as the code does. -/
theorem or_byte (X k j p : Nat) (hj : j < 8) (hp : 256 ^ j = p) : bits .or .u64 (lowB X k j : Int) ((bt8 X (8 * k + j) : Int) * (p : Nat)) = (lowB X k (j + 1) : Nat) := by
  have hb := bt8_lt X (8 * k + j)
  have hl := lowB_lt X k j
  have hp8 : 256 ^ (j + 1) ≤ 256 ^ 8 := Nat.pow_le_pow_right (by decide) (by omega)
  have h1 : bt8 X (8 * k + j) * 256 ^ j + 256 ^ j ≤ 256 ^ (j + 1) := by
    rw [Nat.pow_succ, Nat.mul_comm, ← Nat.mul_succ]
    exact Nat.mul_le_mul_left _ hb
  have h256 : 0 < 256 ^ j := Nat.pow_pos (by decide)
  have hlt : bt8 X (8 * k + j) * 256 ^ j < 256 ^ 8 := by omega
  rw [← hp, ← Int.natCast_mul, u64_or_nat _ _ (show lowB X k j < 256 ^ 8 by omega) hlt, lowB_step X k j hj]
  congr 1
  have h2 : (256 : Nat) ^ j = 2 ^ (8 * j) := by rw [show (256 : Nat) = 2 ^ 8 from rfl, ← Nat.pow_mul]
  rw [h2] at hl ⊢
  rw [Nat.or_comm, Nat.mul_comm (bt8 _ _), ← Nat.two_pow_add_eq_or_of_lt hl, Nat.add_comm]
theorem or_all (X k : Nat) : bits .or .u64 (bits .or .u64 (bits .or .u64 (bits .or .u64 (bits .or .u64 (bits .or .u64 (bits .or .u64 (bt8 X (8 * k) : Int) ((bt8 X (8 * k + 1) : Int) * 256)) ((bt8 X (8 * k + 2) : Int) * 65536)) ((bt8 X (8 * k + 3) : Int) * 16777216)) ((bt8 X (8 * k + 4) : Int) * 4294967296)) ((bt8 X (8 * k + 5) : Int) * 1099511627776)) ((bt8 X (8 * k + 6) : Int) * 281474976710656)) ((bt8 X (8 * k + 7) : Int) * 72057594037927936) = (wd X k : Nat) := by
  have s1 := or_byte X k 1 256 (by decide) rfl
  have s2 := or_byte X k 2 65536 (by decide) rfl
  have s3 := or_byte X k 3 16777216 (by decide) rfl
  have s4 := or_byte X k 4 4294967296 (by decide) rfl
  have s5 := or_byte X k 5 1099511627776 (by decide) rfl
  have s6 := or_byte X k 6 281474976710656 (by decide) rfl
  have s7 := or_byte X k 7 72057594037927936 (by decide) rfl
  rw [lowB_one] at s1
  rw [lowB_all] at s7
  exact (congrArg (fun t => bits .or .u64 (bits .or .u64 (bits .or .u64 (bits .or .u64 (bits .or .u64 (bits .or .u64 t _) _) _) _) _) _) s1).trans ((congrArg (fun t => bits .or .u64 (bits .or .u64 (bits .or .u64 (bits .or .u64 (bits .or .u64 t _) _) _) _) _) s2).trans ((congrArg (fun t => bits .or .u64 (bits .or .u64 (bits .or .u64 (bits .or .u64 t _) _) _) _) s3).trans ((congrArg (fun t => bits .or .u64 (bits .or .u64 (bits .or .u64 t _) _) _) s4).trans ((congrArg (fun t => bits .or .u64 (bits .or .u64 t _) _) s5).trans ((congrArg (fun t => bits .or .u64 t _) s6).trans s7)))))
/-- Block g is a row of 608 bytes: those of X, the highest first. -/
def ByteRow (w : World) (g : Nat) (X : Nat) : Prop := ∃ cur, w.heap[g]? = Option.some (.cells cur 5 (0, 0)) ∧ ∀ j, j < 608 → cur[607 - j]? = Option.some (.int .u8 (bt8 X j : Nat))
theorem ByteRow.cell {w : World} {g X : Nat} (h : ByteRow w g X) (j : Nat) (hj : j < 608) : w.cell? ⟨g, 607 - j, none⟩ = Option.some (.int .u8 (bt8 X j : Nat)) := by
  obtain ⟨cur, hc, hv⟩ := h
  rw [cell_of_row w g _ _ _ _ hc]
  exact hv j hj
set_option maxHeartbeats 2000000 in
theorem be64 (w : World) (g X k o cap : Nat) (h : ByteRow w g X) (hk : k < 76) (ho : o = 600 - 8 * k) :
    Calls Tryd.prog 97 #[.slice (Option.some ⟨g, o, none⟩) 8 cap] w fun e w' => e = .returned (.int .u64 (wd X k : Nat)) ∧ Below w.heap.size w w' := by
  have c0 := h.cell (8 * k) (by omega)
  have c1 := h.cell (8 * k + 1) (by omega)
  have c2 := h.cell (8 * k + 2) (by omega)
  have c3 := h.cell (8 * k + 3) (by omega)
  have c4 := h.cell (8 * k + 4) (by omega)
  have c5 := h.cell (8 * k + 5) (by omega)
  have c6 := h.cell (8 * k + 6) (by omega)
  have c7 := h.cell (8 * k + 7) (by omega)
  rw [show 607 - (8 * k) = o + 7 by omega] at c0
  rw [show 607 - (8 * k + 1) = o + 6 by omega] at c1
  rw [show 607 - (8 * k + 2) = o + 5 by omega] at c2
  rw [show 607 - (8 * k + 3) = o + 4 by omega] at c3
  rw [show 607 - (8 * k + 4) = o + 3 by omega] at c4
  rw [show 607 - (8 * k + 5) = o + 2 by omega] at c5
  rw [show 607 - (8 * k + 6) = o + 1 by omega] at c6
  rw [show 607 - (8 * k + 7) = o by omega] at c7
  have l0 := bt8_lt X (8 * k)
  have l1 := bt8_lt X (8 * k + 1)
  have l2 := bt8_lt X (8 * k + 2)
  have l3 := bt8_lt X (8 * k + 3)
  have l4 := bt8_lt X (8 * k + 4)
  have l5 := bt8_lt X (8 * k + 5)
  have l6 := bt8_lt X (8 * k + 6)
  have l7 := bt8_lt X (8 * k + 7)
  clear h ho
  go_enter Tryd.func97, Tryd.ntmps97
  go_wp2_with fail
  go_quiet (fail)
  go_wp2_with fail
  go_ret
  exact ⟨congrArg (fun n => Ending.returned (.int .u64 n)) (or_all X k), ⟨rfl, rfl, rfl, Nat.le_refl _, fun _ _ => rfl⟩⟩
theorem bew (w : World) (g X k o cap : Nat) (h : ByteRow w g X) (hk : k < 76) (ho : o = 600 - 8 * k) :
    Calls Tryd.prog 92 #[.slice (Option.some ⟨g, o, none⟩) 8 cap] w fun e w' => e = .returned (.int .u64 (wd X k : Nat)) ∧ Below w.heap.size w w' := by
  have HO := Lib.hid ho
  clear ho
  go_enter Tryd.func92, Tryd.ntmps92
  go_wp2_with fail
  refine (be64 _ g X k o cap h hk HO.out).mono ?_
  rintro e w1 ⟨rfl, hb⟩
  go_wp2_with fail
  go_ret
  exact ⟨rfl, hb⟩
end Go.Proofs.YtopilodakphhgaaDoor
