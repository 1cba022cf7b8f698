/- Rows of terms that a call makes by append. -/
import Derived.Test.YtopilodakphhgaaDoorInto
import Derived.Laws.AppendOwn
import Derived.Laws.OwnMore
namespace Go.Proofs.YtopilodakphhgaaDoor
set_option linter.unusedVariables false
set_option linter.unusedSimpArgs false
open Go Go.RowKit
set_option maxRecDepth 100000
/-- A term: two floats by their bits, and a power. -/
structure Trm where
  a : Nat
  b : Nat
  n : Int
def Trm.cells (t : Trm) : List Value := [.int .u64 (t.a : Nat), .int .u64 (t.b : Nat), .int .i64 t.n]
def trms (ts : List Trm) : List Value := ts.flatMap Trm.cells
theorem trms_length (ts : List Trm) : (trms ts).length = ts.length * 3 := by
  induction ts with
  | nil => rfl
  | cons t r ih => simp only [trms, List.flatMap_cons, List.length_append, List.length_cons] at *; rw [ih]; simp [Trm.cells]; omega
theorem trms_append (ts us : List Trm) : trms (ts ++ us) = trms ts ++ trms us := by simp [trms]
theorem trms_one (ts : List Trm) : ∀ v ∈ trms ts, v.oneCell' = true := by
  intro v hv
  simp only [trms, List.mem_flatMap, Trm.cells] at hv
  obtain ⟨t, _, ht⟩ := hv
  simp at ht
  rcases ht with rfl | rfl | rfl <;> rfl
theorem trms_get (ts : List Trm) (j : Nat) (t : Trm) (h : ts[j]? = some t) : (trms ts)[3 * j]? = some (.int .u64 (t.a : Nat)) ∧ (trms ts)[3 * j + 1]? = some (.int .u64 (t.b : Nat)) ∧ (trms ts)[3 * j + 2]? = some (.int .i64 t.n) := by
  induction ts generalizing j with
  | nil => simp at h
  | cons u r ih =>
    have e : trms (u :: r) = Trm.cells u ++ trms r := rfl
    cases j with
    | zero =>
      cases h
      rw [e]
      exact ⟨rfl, rfl, rfl⟩
    | succ j =>
      have := ih j h
      rw [e, show 3 * (j + 1) = 3 + 3 * j by omega, show 3 + 3 * j + 1 = 3 + (3 * j + 1) by omega, show 3 + 3 * j + 2 = 3 + (3 * j + 2) by omega]
      have hl : (Trm.cells u).length = 3 := rfl
      rw [List.getElem?_append_right (by omega), List.getElem?_append_right (by omega), List.getElem?_append_right (by omega), hl, Nat.add_sub_cancel_left, Nat.add_sub_cancel_left, Nat.add_sub_cancel_left]
      exact this
theorem infoT : (Tryd.prog.info? 56).map (fun i => (i.zero, i.size, i.bytes)) = Option.some (Option.some (.agg #[.int .u64 0, .int .u64 0, .int .i64 0]), 3, 24) := by kernel_rfl
/-- A slice of terms of the call's own. -/
def OwnT (w : World) (base : Nat) (v : Value) (ts : List Trm) : Prop := w.ownsRow base 56 3 v ts.length (trms ts)
end Go.Proofs.YtopilodakphhgaaDoor
