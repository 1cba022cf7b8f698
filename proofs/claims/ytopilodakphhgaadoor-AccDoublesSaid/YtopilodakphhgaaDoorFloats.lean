/- Rows of floats that a call makes by append. -/
import Derived.Test.YtopilodakphhgaaDoorBegun
import Derived.Test.YtopilodakphhgaaDoorTurnOne
import Derived.Laws.AppendOwn
namespace Go.Proofs.YtopilodakphhgaaDoor
set_option linter.unusedVariables false
set_option linter.unusedSimpArgs false
open Go Go.RowKit
set_option maxRecDepth 100000
def flts (us : List Nat) : List Value := us.map fun u => .float .f64 u
theorem infoF : (Tryd.prog.info? 26).map (fun i => (i.zero, i.size, i.bytes)) = Option.some (Option.some (.float .f64 0), 1, 8) := by kernel_rfl
/-- A slice of floats of the call's own. -/
def OwnF (w : World) (base : Nat) (v : Value) (us : List Nat) : Prop := w.ownsRow base 26 1 v us.length (flts us)
theorem append_where (w : World) (base : Nat) (v : Value) (us : List Nat) (u g c : Nat) (ty : TypeId) (h : OwnF w base v us) (hc : w.cell? ⟨g, 0, none⟩ = some (.float .f64 u)) (hl : us.length ≤ 1000000) (hb : base ≤ w.heap.size) :
    ∃ v' w', (Builtin.append_ #[25, 25] ty #[v, .slice (some ⟨g, 0, none⟩) 1 c]).run Tryd.prog w = .ok v' w' ∧ OwnF w' base v' (us ++ [u]) ∧ w.grownBy w' v.ownBlock ∧ (v'.ownBlock = v.ownBlock ∨ v'.ownBlock = some w.heap.size) := by
  obtain ⟨i0, hi, hz0, hz1, hz2⟩ := info_parts infoF
  have hnews : ∀ (j : Nat) (x : Value), ([.float .f64 u] : List Value)[j]? = some x → w.cell? ((⟨g, 0, none⟩ : Addr).add j) = some x := fun j x hx => by
    cases j with
    | zero => cases hx; exact hc
    | succ j => simp at hx
  have h1 : ∀ x ∈ ([.float .f64 u] : List Value), x.oneCell' = true := fun x hx => by simp at hx; subst hx; rfl
  obtain ⟨v', w', hr, hown, hg, _⟩ := run_append_own (P := Tryd.prog) w base 25 ty 26 i0 (.float .f64 0) 1 8 Tryd.underlying25 hi hz0 hz1 hz2 rfl (by decide) v us.length (flts us) h ⟨g, 0, none⟩ 1 c [.float .f64 u] rfl hnews h1 (by unfold maxLen; omega) (by omega) hb
  refine ⟨v', w', hr, ?_, hg, ?_⟩
  · unfold OwnF
    rw [show (us ++ [u]).length = us.length + 1 by simp, show flts (us ++ [u]) = flts us ++ [.float .f64 u] by simp [flts]]
    exact hown
  · obtain ⟨rfl, h0⟩ | ⟨g1, cap, cur, rfl, hbg, hgg, hnc, hcm, hcs, htake⟩ := h.2
    · have hr2 := run_append_nil (P := Tryd.prog) w 25 ty 26 i0 (.float .f64 0) Tryd.underlying25 hi hz0 ⟨g, 0, none⟩ 1 c [.float .f64 u] (by rw [hz1]; rfl) hnews (by omega) (by omega) (by rw [hz2]; omega)
      rw [hr] at hr2
      injection hr2 with hv hw
      rw [hv]
      exact Or.inr rfl
    · by_cases hroom : us.length + 1 ≤ cap
      · have hr2 := run_append_room (P := Tryd.prog) w 25 ty 26 i0 Tryd.underlying25 hi g1 us.length cap cur hgg ⟨g, 0, none⟩ 1 c [.float .f64 u] (by rw [hz1]; rfl) hnews h1 hroom (by rw [hz1, hcs]; simp; omega)
        rw [hr] at hr2
        injection hr2 with hv hw
        rw [hv]
        exact Or.inl rfl
      · have holds : ∀ (j : Nat) (x : Value), (flts us)[j]? = some x → w.cell? ((⟨g1, 0, none⟩ : Addr).add j) = some x := World.ownsRow.cells (g := g1) h rfl
        have hr2 := run_append_grow (P := Tryd.prog) w 25 ty 26 i0 (.float .f64 0) Tryd.underlying25 hi hz0 ⟨g1, 0, none⟩ us.length cap (flts us) (by rw [hz1]; exact h.1) holds ⟨g, 0, none⟩ 1 c [.float .f64 u] (by rw [hz1]; rfl) hnews (by omega) (by omega) (by rw [hz2]; exact growslice_fits (by omega) (by omega))
        rw [hr] at hr2
        injection hr2 with hv hw
        rw [hv]
        exact Or.inr rfl
theorem wpList_append_f {w : World} {ops : Array Oper} {rest : List Oper} {o : Oper} {a : Act} {Q : Exit → Act → World → Prop} (hgd : o.guard = none) (s x : Operand)
    (ho : o.op = .call { callee := .builtin .append, args := #[s, x], argTypes := #[25, 25] })
    (base : Nat) (v : Value) (us : List Nat) (u g c : Nat) (hs : a.eval s = v) (hx : a.eval x = .slice (some ⟨g, 0, none⟩) 1 c) (h : OwnF w base v us) (hc : w.cell? ⟨g, 0, none⟩ = some (.float .f64 u)) (hl : us.length ≤ 1000000) (hb : base ≤ w.heap.size)
    (K : ∀ v' w', OwnF w' base v' (us ++ [u]) → w.grownBy w' v.ownBlock → (v'.ownBlock = v.ownBlock ∨ v'.ownBlock = some w.heap.size) → wpList Tryd.prog ops Q rest (a.put o.dst v') w') : wpList Tryd.prog ops Q (o :: rest) a w := by
  refine wpList_plain hgd fun K' hK => ?_
  obtain ⟨v', w', hrun, h1, h2, h3⟩ := append_where w base v us u g c o.type h hc hl hb
  unfold Oper.wp
  simp [execOp, ho, resolve, invoke, builtin, hs, hx, hrun, Result.andThen]
  exact hK _ _ (K v' w' h1 h2 h3)
theorem OwnF.row {w : World} {base : Nat} {v : Value} {us : List Nat} (h : OwnF w base v us) (hu : ∀ u ∈ us, u < B64) : ∃ A cap, v = .slice A us.length cap ∧ FRow w A us := by
  obtain ⟨rfl, h0⟩ | ⟨g, cap, cur, rfl, hbg, hgg, hnc, hcm, hcs, htake⟩ := h.2
  · obtain rfl : us = [] := List.eq_nil_of_length_eq_zero h0
    exact ⟨none, 0, rfl, Or.inl rfl⟩
  · refine ⟨_, cap, rfl, Or.inr ⟨g, cur, 26, rfl, hgg, fun j u hj => ⟨?_, hu u (List.mem_of_getElem? hj)⟩⟩⟩
    have hjl := (List.getElem?_eq_some_iff.1 hj).1
    have h1 : (flts us)[j]? = some (.float .f64 u) := by simp [flts, hj]
    rw [← htake, List.getElem?_take_of_lt (by omega), Array.getElem?_toList] at h1
    exact h1
theorem OwnF.nil (w : World) (base : Nat) : OwnF w base (.slice none 0 0) [] := World.ownsRow_nil w base _ 1
theorem OwnF.kept {w w' : World} {base : Nat} {v : Value} {us : List Nat} {row : Option Nat} (h : OwnF w base v us) (hg : w.grownBy w' row) (hne : v.ownBlock = none ∨ v.ownBlock ≠ row) : OwnF w' base v us := World.ownsRow.kept h hg hne
theorem OwnF.lt {w : World} {base : Nat} {v : Value} {us : List Nat} (h : OwnF w base v us) : ∀ k, v.ownBlock = some k → base ≤ k ∧ k < w.heap.size := World.ownsRow.lt h
end Go.Proofs.YtopilodakphhgaaDoor
