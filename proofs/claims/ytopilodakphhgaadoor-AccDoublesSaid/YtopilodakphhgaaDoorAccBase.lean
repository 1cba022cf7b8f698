/- An Acc in memory; its small methods: neg, Bad, New, size. -/
import Derived.Test.YtopilodakphhgaaDoorProg
import Derived.Test.YtopilodakphhgaaDoorAccPlain
import Derived.WalkKit
import Derived.WalkSpells
import Derived.WalkLawsBesides
import Derived.Laws.AppendOwn
import Derived.Deep.MidRow
import Derived.Deep.WholeRow
import Derived.BigQuiet
import Derived.Lib.Hide
import Derived.Outline
namespace Go.Proofs.YtopilodakphhgaaDoor
set_option linter.unusedVariables false
set_option linter.unusedSimpArgs false
open Go Go.RowKit
/-- Block b holds an Acc's cells. -/
def AccAt (w : World) (b X : Nat) (bad : Bool) : Prop := w.heap[b]? = some (.cells (accCells X bad) 62 (0, 0))
theorem AccAt.cell {w : World} {b X : Nat} {bad : Bool} (h : AccAt w b X bad) (i : Nat) (hi : i < 76) : w.cell? ⟨b, i, none⟩ = some (.int .u64 (wd X i)) := by
  rw [cell_of_row w b i _ _ _ h]; exact accCells_get X bad i hi
theorem AccAt.bad {w : World} {b X : Nat} {bad : Bool} (h : AccAt w b X bad) : w.cell? ⟨b, 76, none⟩ = some (.bool bad) := by
  rw [cell_of_row w b 76 _ _ _ h]; exact accCells_bad X bad
theorem AccAt.range {w : World} {b X : Nat} {bad : Bool} (h : AccAt w b X bad) : w.rangeAt b 0 (wordCells 76 X) := fun j v hv => by
  have hj : j < 76 := by have := (List.getElem?_eq_some_iff.1 hv).1; rwa [wordCells_length] at this
  rw [Nat.zero_add, h.cell j hj, ← hv, wordCells_get _ _ _ hj]
theorem AccAt.alloc {w : World} {b X : Nat} {bad : Bool} (h : AccAt w b X bad) (o : Obj) : AccAt (w.alloc o) b X bad := by
  have hb : b < w.heap.size := by
    by_cases hb : b < w.heap.size
    · exact hb
    · unfold AccAt at h; rw [Array.getElem?_eq_none (by omega)] at h; cases h
  unfold AccAt
  rw [heap_alloc_old w o hb]
  exact h
theorem Tryd.info60 : (Tryd.prog.info? 60).map (·.size) = some 76 := by kernel_rfl
theorem info_arr (X : Nat) : (Tryd.prog.info? 60).map (·.size) = some (arrCells X).size := by rw [arrCells_size]; exact Tryd.info60
theorem info_words (X : Nat) : (Tryd.prog.info? 60).map (·.size) = some (wordCells 76 X).length := by rw [wordCells_length]; exact Tryd.info60
theorem arr_sizes (X Y : Nat) : (arrCells X).size = (arrCells Y).size := by rw [arrCells_size, arrCells_size]
theorem Tryd.infoAcc : (Tryd.prog.info? 62).map (·.size) = some 77 := by kernel_rfl
theorem neg_any (w : World) (b X : Nat) (bad : Bool) (h : AccAt w b X bad) (hX : X < TOP) :
    Calls Tryd.prog 34 #[.pointer (some ⟨b, 0, none⟩)] w fun e w' => e = .returned (.bool (isNeg X)) ∧ w = w' := by
  have hc := h.cell 75 (by decide)
  have hl := wd_le X 75
  have hn := Lib.hid (neg_word X hX)
  clear h hX
  go_enter Tryd.func34, Tryd.ntmps34
  go_wp2
  go_ret
  refine ⟨congrArg (fun v => Ending.returned (.bool v)) ?_, rfl⟩
  rw [← hn.out, Bool.eq_iff_iff, beq_iff_eq, beq_iff_eq]
  omega
theorem bad_any (w : World) (b X : Nat) (bad : Bool) (h : AccAt w b X bad) :
    Calls Tryd.prog 16 #[.pointer (some ⟨b, 0, none⟩)] w fun e w' => e = .returned (.bool bad) ∧ w = w' := by
  have hc := h.bad
  clear h
  go_enter Tryd.func16, Tryd.ntmps16
  go_wp2
  go_ret
  exact ⟨rfl, rfl⟩
set_option maxRecDepth 100000 in
theorem new_any (w : World) :
    Calls Tryd.prog 11 #[] w fun e w' => e = .returned (.pointer (some ⟨w.heap.size, 0, none⟩)) ∧ w.alloc (.cells (accCells 0 false) 62) = w' := by
  go_enter Tryd.func11, Tryd.ntmps11
  go_wp2
  go_ret
  exact ⟨rfl, rfl⟩
theorem run_sub (x y c : Int) (d c' : Nat) (w : World) (hx : 0 ≤ x) (hy : 0 ≤ y) (h0 : 0 ≤ c) (h1 : c ≤ 1) (hd : (x.toNat + B64 - y.toNat - c.toNat) % B64 = d) (hc : (if x.toNat < y.toNat + c.toNat then 1 else 0) = c') :
    Sem.run Tryd.prog (callFunc 30 #[.int .u64 x, .int .u64 y, .int .u64 c]) w = .ok (.value (.tuple #[.int .u64 d, .int .u64 c'])) w := by
  subst hd hc
  have h01 : c = 0 ∨ c = 1 := by omega
  have key : ∀ c : Int, c = 0 ∨ c = 1 → Sem.run Tryd.prog (callFunc 30 #[.int .u64 x, .int .u64 y, .int .u64 c]) w = .ok (.value (.tuple #[.int .u64 ((x.toNat + 18446744073709551616 - y.toNat - c.toNat) % 18446744073709551616 : Nat), .int .u64 ((if x.toNat < y.toNat + c.toNat then 1 else 0) : Nat)])) w := by
    rintro c (rfl | rfl)
    · kernel_rfl
    · kernel_rfl
  exact key c h01
theorem run_add (x y c : Int) (d c' : Nat) (w : World) (hx : 0 ≤ x) (hy : 0 ≤ y) (h0 : 0 ≤ c) (h1 : c ≤ 1) (hd : (x.toNat + y.toNat + c.toNat) % B64 = d) (hc : (x.toNat + y.toNat + c.toNat) / B64 = c') :
    Sem.run Tryd.prog (callFunc 31 #[.int .u64 x, .int .u64 y, .int .u64 c]) w = .ok (.value (.tuple #[.int .u64 d, .int .u64 c'])) w := by
  subst hd hc
  have h01 : c = 0 ∨ c = 1 := by omega
  have key : ∀ c : Int, c = 0 ∨ c = 1 → Sem.run Tryd.prog (callFunc 31 #[.int .u64 x, .int .u64 y, .int .u64 c]) w = .ok (.value (.tuple #[.int .u64 ((x.toNat + y.toNat + c.toNat) % 18446744073709551616 : Nat), .int .u64 ((x.toNat + y.toNat + c.toNat) / 18446744073709551616 : Nat)])) w := by
    rintro c (rfl | rfl)
    · kernel_rfl
    · kernel_rfl
  exact key c h01
theorem wd_zero (k : Nat) : wd 0 k = 0 := by unfold wd; rw [Nat.zero_div]; rfl
theorem run_sub_nat (x y c d c' : Nat) (h1 : c ≤ 1) (hd : (x + B64 - y - c) % B64 = d) (hc : (if x < y + c then 1 else 0) = c') (w : World) :
    Sem.run Tryd.prog (callFunc 30 #[.int .u64 x, .int .u64 y, .int .u64 c]) w = .ok (.value (.tuple #[.int .u64 d, .int .u64 c'])) w :=
  run_sub x y c d c' w (by omega) (by omega) (by omega) (by omega) hd hc
theorem run_sub_zero (y c d c' : Nat) (h1 : c ≤ 1) (hd : (0 + B64 - y - c) % B64 = d) (hc : (if 0 < y + c then 1 else 0) = c') (w : World) :
    Sem.run Tryd.prog (callFunc 30 #[.int .u64 0, .int .u64 y, .int .u64 c]) w = .ok (.value (.tuple #[.int .u64 d, .int .u64 c'])) w :=
  run_sub 0 y c d c' w (by omega) (by omega) (by omega) (by omega) hd hc
theorem run_add_nat (x y c d c' : Nat) (h1 : c ≤ 1) (hd : (x + y + c) % B64 = d) (hc : (x + y + c) / B64 = c') (w : World) :
    Sem.run Tryd.prog (callFunc 31 #[.int .u64 x, .int .u64 y, .int .u64 c]) w = .ok (.value (.tuple #[.int .u64 d, .int .u64 c'])) w :=
  run_add x y c d c' w (by omega) (by omega) (by omega) (by omega) hd hc
theorem run_add_zero (x c d c' : Nat) (h1 : c ≤ 1) (hd : (x + 0 + c) % B64 = d) (hc : (x + 0 + c) / B64 = c') (w : World) :
    Sem.run Tryd.prog (callFunc 31 #[.int .u64 x, .int .u64 0, .int .u64 c]) w = .ok (.value (.tuple #[.int .u64 d, .int .u64 c'])) w :=
  run_add x 0 c d c' w (by omega) (by omega) (by omega) (by omega) hd hc
theorem run_sub_nil (x c d c' : Nat) (h1 : c ≤ 1) (hd : (x + B64 - 0 - c) % B64 = d) (hc : (if x < 0 + c then 1 else 0) = c') (w : World) :
    Sem.run Tryd.prog (callFunc 30 #[.int .u64 x, .int .u64 0, .int .u64 c]) w = .ok (.value (.tuple #[.int .u64 d, .int .u64 c'])) w :=
  run_sub x 0 c d c' w (by omega) (by omega) (by omega) (by omega) hd hc
end Go.Proofs.YtopilodakphhgaaDoor
