/- AccBetween: what stands at each round. -/
import Derived.Test.YtopilodakphhgaaGreatDoorRefNext
import Derived.Test.YtopilodakphhgaaGreatDoorOrderRel
import Derived.Test.YtopilodakphhgaaGreatDoorRegionLate
namespace Go.Proofs.YtopilodakphhgaaGreatDoor
set_option linter.unusedVariables false
set_option linter.unusedSimpArgs false
open Go Go.RowKit
set_option maxRecDepth 100000
/-- A block of a type that is no row of limbs is written: the number stands. -/
theorem NumIs.over {w w' : World} {neg : Bool} {v : Value} {E z : Int} {g : Nat} {c : Array Value} {T : TypeId} {r : Nat × Nat} (h : NumIs w neg v E z) (hT : T ≠ 68) (hc : w.heap[g]? = some (.cells c T r)) (hg : w.grownBy w' (some g)) : NumIs w' neg v E z := by
  obtain ⟨M, hm, hr⟩ := h
  refine ⟨M, ?_, hr⟩
  rcases hm with h | ⟨gh, n, cap, h1, h2, h3, h4, h5⟩
  · exact Or.inl h
  · refine Or.inr ⟨gh, n, cap, h1, h2, h3, h4, h5.grown hg fun e => ?_⟩
    injection e with e
    subst e
    obtain ⟨cur, hcur, _, _⟩ := h5
    rw [hc] at hcur
    injection hcur with hcur
    injection hcur with _ ht _
    exact hT ht
/-- A variable that holds a number. -/
def NumAt (w : World) (g : Nat) (z : Int) : Prop := ∃ (ng : Bool) (A : Option Addr) (n cap : Nat) (E : Int), w.heap[g]? = some (.cells #[.bool ng, .slice A n cap, .int .i64 E] 29 (0, 0)) ∧ NumIs w ng (.slice A n cap) E z
theorem NumAt.lt {w : World} {g : Nat} {z : Int} (h : NumAt w g z) : g < w.heap.size := by
  obtain ⟨_, _, _, _, _, h1, _⟩ := h
  exact (Array.getElem?_eq_some_iff.1 h1).1
theorem NumAt.below {w w1 : World} {g : Nat} {z : Int} (h : NumAt w g z) (hb : Below w.heap.size w w1) : NumAt w1 g z := by
  have hl := h.lt
  obtain ⟨ng, A, n, cap, E, h1, h2⟩ := h
  exact ⟨ng, A, n, cap, E, (hb.block g hl).trans h1, h2.below hb⟩
theorem NumAt.new (w : World) : NumAt (w.alloc (.cells #[.bool false, .slice none 0 0, .int .i64 0] 29)) w.heap.size 0 := by
  refine ⟨false, none, 0, 0, 0, heap_alloc_new w _, ?_⟩
  rw [NumIs.def']
  refine ⟨0, Or.inl ⟨rfl, rfl⟩, fun _ => rfl, by decide, by decide, ?_, ?_⟩
  · generalize (400 : Nat) = k
    exact W32_pow k
  · rw [Nat.zero_mul]
    rfl
/-- A store of a number into a variable. -/
theorem NumAt.put {w : World} {g : Nat} {z : Int} {ng : Bool} {A : Option Addr} {n cap : Nat} {E : Int} {b0 b1 b2 : Value} (hq : w.heap[g]? = some (.cells #[b0, b1, b2] 29 (0, 0))) (h : NumIs w ng (.slice A n cap) E z) :
    NumAt (((w.setCell ⟨g, 0, none⟩ (.bool ng)).setCell ⟨g, 1, none⟩ (.slice A n cap)).setCell ⟨g, 2, none⟩ (.int .i64 E)) g z ∧ w.grownBy (((w.setCell ⟨g, 0, none⟩ (.bool ng)).setCell ⟨g, 1, none⟩ (.slice A n cap)).setCell ⟨g, 2, none⟩ (.int .i64 E)) (some g) := by
  obtain ⟨hg9, hgr9⟩ := set3 hq (.bool ng) (.slice A n cap) (.int .i64 E)
  exact ⟨⟨ng, A, n, cap, E, hg9, h.over (by decide) hq hgr9⟩, hgr9⟩
/-- The worlds of AccBetween: bx the Acc's block, gv the document's number's. -/
structure BtwRel (w W5 wr : World) (bx gv : Nat) (z : Int) : Prop where
  below : Below w.heap.size w wr
  size : W5.heap.size ≤ wr.heap.size
  keep : ∀ k, k < W5.heap.size → k ≠ bx → k ≠ gv → wr.heap[k]? = W5.heap[k]?
  ax : AccIs wr bx (some z)
  nv : NumAt wr gv z
  wx : w.heap.size ≤ bx
  xv : bx < gv
  v5 : gv < W5.heap.size
/-- Halfway: the Acc has gone on, the number not yet. -/
structure BtwMid (w W5 wr : World) (bx gv : Nat) (z z' : Int) : Prop where
  below : Below w.heap.size w wr
  size : W5.heap.size ≤ wr.heap.size
  keep : ∀ k, k < W5.heap.size → k ≠ bx → k ≠ gv → wr.heap[k]? = W5.heap[k]?
  ax : AccIs wr bx (some z')
  nv : NumAt wr gv z
  wx : w.heap.size ≤ bx
  xv : bx < gv
  v5 : gv < W5.heap.size
section
variable {w W5 wr w2 : World} {bx gv : Nat} {z z' : Int}
theorem BtwRel.into (h : BtwRel w W5 wr bx gv z) (hg : wr.grownBy w2 (some bx)) (ha : AccIs w2 bx (some z')) : BtwMid w W5 w2 bx gv z z' := by
  have h1 := h.wx; have h2 := h.xv; have h3 := h.v5; have h4 := h.size; have h5 := h.below.size
  refine ⟨below_grown h.below h5 hg (fun k e => by cases e; exact h1), Nat.le_trans h4 hg.size, fun k hk k1 k2 => (hg.block k (by omega) (by simp [k1])).trans (h.keep k hk k1 k2), ha, ?_, h1, h2, h3⟩
  obtain ⟨ng, A, n, cap, E, e1, e2⟩ := h.nv
  refine ⟨ng, A, n, cap, E, (hg.block gv (by omega) (by simp; omega)).trans e1, ?_⟩
  exact e2.over (by decide) h.ax.1 hg
theorem BtwMid.mono (h : BtwMid w W5 wr bx gv z z') (hb : Below wr.heap.size wr w2) : BtwMid w W5 w2 bx gv z z' := by
  have h4 := h.size
  have h3 := h.v5
  have h2 := h.xv
  exact ⟨h.below.trans (hb.mono h.below.size), Nat.le_trans h4 hb.size, fun k hk k1 k2 => (hb.block k (by omega)).trans (h.keep k hk k1 k2), h.ax.below h.ax.lt hb, h.nv.below hb, h.wx, h2, h3⟩
theorem BtwRel.mono (h : BtwRel w W5 wr bx gv z) (hb : Below wr.heap.size wr w2) : BtwRel w W5 w2 bx gv z := by
  have h4 := h.size
  have h3 := h.v5
  have h2 := h.xv
  exact ⟨h.below.trans (hb.mono h.below.size), Nat.le_trans h4 hb.size, fun k hk k1 k2 => (hb.block k (by omega)).trans (h.keep k hk k1 k2), h.ax.below h.ax.lt hb, h.nv.below hb, h.wx, h2, h3⟩
theorem BtwMid.put (h : BtwMid w W5 wr bx gv z z') (hg : wr.grownBy w2 (some gv)) (ha : NumAt w2 gv z') : BtwRel w W5 w2 bx gv z' := by
  have h1 := h.wx; have h2 := h.xv; have h3 := h.v5; have h4 := h.size; have h5 := h.below.size
  exact ⟨below_grown h.below h5 hg (fun k e => by cases e; omega), Nat.le_trans h4 hg.size, fun k hk k1 k2 => (hg.block k (by omega) (by simp [k2])).trans (h.keep k hk k1 k2), h.ax.grown hg (by simp; omega), ha, h1, h2, h3⟩
theorem BtwRel.cells (h : BtwRel w W5 wr bx gv z) {A : Option Addr} {ts : List Trm} (hr : RowIn W5 bx gv gv A ts) (j : Nat) (t : Trm) (hj : ts[j]? = some t) :
    fineT t ∧ ∃ b o : Nat, A = some ⟨b, o, none⟩ ∧ b < W5.heap.size ∧ b ≠ bx ∧ b ≠ gv ∧ wr.cell? ⟨b, o + j * 3, none⟩ = some (.int .u64 (t.a : Nat)) ∧ wr.cell? ⟨b, o + j * 3 + 1, none⟩ = some (.int .u64 (t.b : Nat)) ∧ wr.cell? ⟨b, o + j * 3 + 2, none⟩ = some (.int .i64 t.n) := by
  obtain ⟨hf, b, o, h1, h2, k1, k2, k3, c0, c1, c2⟩ := hr j t hj
  have hk := h.keep b h2 k1 k2
  exact ⟨hf, b, o, h1, h2, k1, k2, by rw [World.cell?_of_block (a := ⟨b, _, none⟩) hk]; exact c0, by rw [World.cell?_of_block (a := ⟨b, _, none⟩) hk]; exact c1, by rw [World.cell?_of_block (a := ⟨b, _, none⟩) hk]; exact c2⟩
end
end Go.Proofs.YtopilodakphhgaaGreatDoor
