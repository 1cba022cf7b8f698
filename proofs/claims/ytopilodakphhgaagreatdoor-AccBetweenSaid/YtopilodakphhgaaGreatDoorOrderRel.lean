/- What stands at each round of AccOrder: its plain law, its frame. -/
import Derived.Test.YtopilodakphhgaaGreatDoorOrderPlain
import Derived.Test.YtopilodakphhgaaGreatDoorTermsAll
namespace Go.Proofs.YtopilodakphhgaaGreatDoor
set_option linter.unusedVariables false
set_option linter.unusedSimpArgs false
open Go Go.RowKit
set_option maxRecDepth 100000
theorem i64_and40 (n : Int) : bits .and .i64 n 1099511627775 = n % 1099511627776 := by
  have h1 : (BitVec.ofInt 64 1099511627775).toNat = 2 ^ 40 - 1 := by decide
  have key : (BitVec.ofInt 64 n &&& BitVec.ofInt 64 1099511627775).toNat = (n % ((2 ^ 64 : Nat) : Int)).toNat % 2 ^ 40 := by
    rw [BitVec.toNat_and, BitVec.toNat_ofInt, h1, Nat.and_two_pow_sub_one_eq_mod]
  show IntKind.i64.wrap ((BitVec.ofInt 64 n &&& BitVec.ofInt 64 1099511627775).toNat : Nat) = n % 1099511627776
  rw [key, IntKind.wrap_i64]
  omega
theorem into_fine (w : World) (b : Nat) (t : Trm) (neg : Bool) (z : Int) (h : AccIs w b (some z)) (ht : fineT t) (hz : (bif neg then z - valT t else z + valT t).natAbs < LIM) :
    Calls Tryz.prog 8 #[.pointer (some ⟨b, 0, none⟩), .agg #[.int .u64 (t.a : Nat), .int .u64 (t.b : Nat), .int .i64 t.n], .bool neg] w fun e w' => e = .returned (.tuple #[]) ∧ AccIs w' b (some (bif neg then z - valT t else z + valT t)) ∧ w.grownBy w' (some b) := by
  refine (into_any w b t.a t.b t.n neg (some z) h ht.1 ht.2.1).mono fun e w' ⟨he, ha, hg⟩ => ⟨he, ?_, hg⟩
  cases neg with
  | false =>
    have := prodS_of z t ht hz
    exact Eq.mp (congrArg (AccIs w' b) this) ha
  | true =>
    have := prodS_neg z t ht hz
    exact Eq.mp (congrArg (AccIs w' b) this) ha
structure OrdBase (w W5 : World) (bx bY bp : Nat) : Prop where
  x : w.heap.size ≤ bx
  y : w.heap.size ≤ bY
  p : w.heap.size ≤ bp
  xy : bx < bY
  yp : bY < bp
  p5 : bp < W5.heap.size
structure OrdRel (w W5 wr : World) (bx bY bp : Nat) (v : Value) (ls : List Trm) (x y p : Int) : Prop where
  below : Below w.heap.size w wr
  size : W5.heap.size ≤ wr.heap.size
  keep : ∀ k, k < W5.heap.size → k ≠ bx → k ≠ bY → k ≠ bp → wr.heap[k]? = W5.heap[k]?
  ax : AccIs wr bx (some x)
  ay : AccIs wr bY (some y)
  ap : AccIs wr bp (some p)
  left : OwnT wr W5.heap.size v ls
theorem below_grown {base : Nat} {w wr w2 : World} {row : Option Nat} (h : Below base w wr) (hb : base ≤ wr.heap.size) (hg : wr.grownBy w2 row) (hr : ∀ k, row = some k → base ≤ k) : Below base w w2 :=
  h.trans ⟨hg.os, hg.tape, hg.output, hg.size, fun k hk => hg.block k (by omega) (fun e => by have := hr k e.symm; omega)⟩
section
variable {w W5 wr w2 : World} {bx bY bp : Nat} {v v' : Value} {ls ls' : List Trm} {x y p x' y' p' : Int}
theorem OrdRel.far (h : OrdRel w W5 wr bx bY bp v ls x y p) (k : Nat) (hk : k < W5.heap.size) : v.ownBlock = none ∨ v.ownBlock ≠ some k := by
  cases hv : v.ownBlock with
  | none => exact Or.inl rfl
  | some g =>
    right
    have := (h.left.lt g hv).1
    intro e
    cases e
    omega
theorem OrdRel.inX (h : OrdRel w W5 wr bx bY bp v ls x y p) (hb : OrdBase w W5 bx bY bp) (hg : wr.grownBy w2 (some bx)) (ha : AccIs w2 bx (some x')) : OrdRel w W5 w2 bx bY bp v ls x' y p := by
  have h1 := hb.xy; have h2 := hb.yp; have h3 := hb.p5; have h4 := h.size; have h5 := h.below.size
  refine ⟨below_grown h.below h5 hg (fun k e => by cases e; exact hb.x), Nat.le_trans h4 hg.size, fun k hk k1 k2 k3 => (hg.block k (by omega) (by simp [k1])).trans (h.keep k hk k1 k2 k3), ha, h.ay.grown hg (by simp; omega), h.ap.grown hg (by simp; omega), h.left.kept hg (h.far bx (by omega))⟩
theorem OrdRel.inY (h : OrdRel w W5 wr bx bY bp v ls x y p) (hb : OrdBase w W5 bx bY bp) (hg : wr.grownBy w2 (some bY)) (ha : AccIs w2 bY (some y')) : OrdRel w W5 w2 bx bY bp v ls x y' p := by
  have h1 := hb.xy; have h2 := hb.yp; have h3 := hb.p5; have h4 := h.size; have h5 := h.below.size
  refine ⟨below_grown h.below h5 hg (fun k e => by cases e; exact hb.y), Nat.le_trans h4 hg.size, fun k hk k1 k2 k3 => (hg.block k (by omega) (by simp [k2])).trans (h.keep k hk k1 k2 k3), h.ax.grown hg (by simp; omega), ha, h.ap.grown hg (by simp; omega), h.left.kept hg (h.far bY (by omega))⟩
theorem OrdRel.inP (h : OrdRel w W5 wr bx bY bp v ls x y p) (hb : OrdBase w W5 bx bY bp) (hg : wr.grownBy w2 (some bp)) (ha : AccIs w2 bp (some p')) : OrdRel w W5 w2 bx bY bp v ls x y p' := by
  have h1 := hb.xy; have h2 := hb.yp; have h3 := hb.p5; have h4 := h.size; have h5 := h.below.size
  refine ⟨below_grown h.below h5 hg (fun k e => by cases e; exact hb.p), Nat.le_trans h4 hg.size, fun k hk k1 k2 k3 => (hg.block k (by omega) (by simp [k3])).trans (h.keep k hk k1 k2 k3), h.ax.grown hg (by simp; omega), h.ay.grown hg (by simp; omega), ha, h.left.kept hg (h.far bp (by omega))⟩
theorem OrdRel.grown (h : OrdRel w W5 wr bx bY bp v ls x y p) (hb : OrdBase w W5 bx bY bp) (hg : wr.grownBy w2 none) : OrdRel w W5 w2 bx bY bp v ls x y p := by
  have h1 := hb.xy; have h2 := hb.yp; have h3 := hb.p5; have h4 := h.size; have h5 := h.below.size
  refine ⟨below_grown h.below h5 hg (fun k e => by cases e), Nat.le_trans h4 hg.size, fun k hk k1 k2 k3 => (hg.block k (by omega) (by simp)).trans (h.keep k hk k1 k2 k3), h.ax.grown hg (by simp), h.ay.grown hg (by simp), h.ap.grown hg (by simp), h.left.kept hg (by cases v.ownBlock <;> simp)⟩
/-- The left row is made anew: only blocks that lie behind the base are written. -/
theorem OrdRel.newLeft (h : OrdRel w W5 wr bx bY bp v ls x y p) (hb : OrdBase w W5 bx bY bp) {row : Option Nat} (hg : wr.grownBy w2 row) (hr : ∀ k, row = some k → W5.heap.size ≤ k) (hn : OwnT w2 W5.heap.size v' ls') : OrdRel w W5 w2 bx bY bp v' ls' x y p := by
  have h0 := hb.x; have h1 := hb.xy; have h2 := hb.yp; have h3 := hb.p5; have h4 := h.size; have h5 := h.below.size
  have hne : ∀ k, k < W5.heap.size → some k ≠ row := fun k hk e => by have := hr k e.symm; omega
  refine ⟨below_grown h.below h5 hg (fun k e => by have := hr k e; omega), Nat.le_trans h4 hg.size, fun k hk k1 k2 k3 => (hg.block k (by omega) (hne k hk)).trans (h.keep k hk k1 k2 k3), h.ax.grown hg (hne _ (by omega)), h.ay.grown hg (hne _ (by omega)), h.ap.grown hg (hne _ (by omega)), hn⟩
end
/-- A row of terms ahead of the Accs: unchanged by what follows. -/
def RowIn (W5 : World) (bx bY bp : Nat) (A : Option Addr) (ts : List Trm) : Prop := ∀ (j : Nat) (t : Trm), ts[j]? = some t → fineT t ∧ ∃ b o : Nat, A = some ⟨b, o, none⟩ ∧ b < W5.heap.size ∧ b ≠ bx ∧ b ≠ bY ∧ b ≠ bp ∧ W5.cell? ⟨b, o + j * 3, none⟩ = some (.int .u64 (t.a : Nat)) ∧ W5.cell? ⟨b, o + j * 3 + 1, none⟩ = some (.int .u64 (t.b : Nat)) ∧ W5.cell? ⟨b, o + j * 3 + 2, none⟩ = some (.int .i64 t.n)
theorem RowIn.of {w1 W5 : World} {bx bY bp : Nat} {A : Option Addr} {ts : List Trm} (h : TRow w1 A ts) (hf : ∀ t ∈ ts, fineT t) (hb : Below w1.heap.size w1 W5) (hx : w1.heap.size ≤ bx) (hy : w1.heap.size ≤ bY) (hp : w1.heap.size ≤ bp) : RowIn W5 bx bY bp A ts := by
  intro j t hj
  obtain ⟨b, o, h1, h2, c0, c1, c2, _⟩ := h.at hb j t hj
  have := hb.size
  exact ⟨hf t (List.mem_of_getElem? hj), b, o, h1, by omega, by omega, by omega, by omega, c0, c1, c2⟩
theorem OrdRel.cells {w W5 wr : World} {bx bY bp : Nat} {v : Value} {ls : List Trm} {x y p : Int} (h : OrdRel w W5 wr bx bY bp v ls x y p) {A : Option Addr} {ts : List Trm} (hr : RowIn W5 bx bY bp A ts) (j : Nat) (t : Trm) (hj : ts[j]? = some t) :
    fineT t ∧ ∃ b o : Nat, A = some ⟨b, o, none⟩ ∧ wr.cell? ⟨b, o + j * 3, none⟩ = some (.int .u64 (t.a : Nat)) ∧ wr.cell? ⟨b, o + j * 3 + 1, none⟩ = some (.int .u64 (t.b : Nat)) ∧ wr.cell? ⟨b, o + j * 3 + 2, none⟩ = some (.int .i64 t.n) := by
  obtain ⟨hf, b, o, h1, h2, k1, k2, k3, c0, c1, c2⟩ := hr j t hj
  have hk := h.keep b h2 k1 k2 k3
  exact ⟨hf, b, o, h1, by rw [World.cell?_of_block (a := ⟨b, _, none⟩) hk]; exact c0, by rw [World.cell?_of_block (a := ⟨b, _, none⟩) hk]; exact c1, by rw [World.cell?_of_block (a := ⟨b, _, none⟩) hk]; exact c2⟩
theorem trms_take (ls : List Trm) (q j : Nat) (u : Value) (h : (trms (ls.take q))[j]? = some u) : (trms ls)[j]? = some u := by
  have e : trms ls = trms (ls.take q) ++ trms (ls.drop q) := by rw [← trms_append, List.take_append_drop]
  have hj := (List.getElem?_eq_some_iff.1 h).1
  rw [e, List.getElem?_append_left hj]
  exact h
theorem trms_drop (ls : List Trm) (q j : Nat) (u : Value) (hq : q ≤ ls.length) (h : (trms (ls.drop q))[j]? = some u) : (trms ls)[q * 3 + j]? = some u := by
  have e : trms ls = trms (ls.take q) ++ trms (ls.drop q) := by rw [← trms_append, List.take_append_drop]
  have hl : (trms (ls.take q)).length = q * 3 := by rw [trms_length, List.length_take, Nat.min_eq_left hq]
  rw [e, List.getElem?_append_right (by omega), hl, Nat.add_sub_cancel_left]
  exact h
/-- What can have gathered behind i rounds. -/
def gath (i : Nat) : Nat := 2 * i * KT
theorem gath_next (i : Nat) : gath (i + 1) = gath i + 2 * KT := by unfold gath; rw [show 2 * (i + 1) = 2 * i + 2 by omega, Nat.add_mul]
theorem gath_le (i : Nat) (h : i ≤ 200) : gath i ≤ 400 * KT := Nat.mul_le_mul_right _ (by omega)
theorem new_is (w : World) : AccIs (w.alloc (.cells (accCells 0 false) 63)) w.heap.size (some 0) ∧ Below w.heap.size w (w.alloc (.cells (accCells 0 false) 63)) := by
  refine ⟨⟨?_, ?_⟩, (Below.refl _ _).alloc (Nat.le_refl _) _⟩
  · rw [show enc 0 = 0 by decide +kernel]; exact heap_alloc_new w _
  · exact LIM_pos
theorem pick_fine (ts : List Trm) (h : ∀ (j : Nat) (t : Trm), ts[j]? = some t → t.a < B64 ∧ t.b < B64) (k : Nat) : ∀ t ∈ pickT (ts.take k), fineT t := fine_pick _ fun t ht => by
  obtain ⟨j, hj⟩ := List.mem_iff_getElem?.1 (List.mem_of_mem_take ht)
  exact h j t hj
theorem TRow.small {w : World} {A : Option Addr} {ts : List Trm} (h : TRow w A ts) : ∀ (j : Nat) (t : Trm), ts[j]? = some t → t.a < B64 ∧ t.b < B64 := fun j t hj => by
  obtain ⟨_, _, _, _, _, _, _, h1, h2, _⟩ := h j t hj
  exact ⟨h1, h2⟩
theorem fine_small {ts : List Trm} (h : ∀ t ∈ ts, fineT t) : ∀ t ∈ ts, t.a < B64 ∧ t.b < B64 ∧ -9223372036854775808 ≤ t.n ∧ t.n ≤ 9223372036854775807 := fun t ht => by
  obtain ⟨h1, h2, _, _, h3, h4⟩ := h t ht
  exact ⟨h1, h2, by omega, by omega⟩
end Go.Proofs.YtopilodakphhgaaGreatDoor
