/- ambitref2: rows of 32-bit limbs; trim. -/
import Derived.Test.YtopilodakphhgaaDoorNatBase
import Derived.Test.YtopilodakphhgaaDoorBitLen
namespace Go.Proofs.YtopilodakphhgaaDoor
set_option linter.unusedVariables false
set_option linter.unusedSimpArgs false
open Go Go.RowKit
set_option maxRecDepth 100000
def W32 : Nat := 4294967296
theorem W32_pos : 0 < W32 := by decide
theorem W32_pow (i : Nat) : 0 < W32 ^ i := Nat.pow_pos W32_pos
theorem W32_two (i : Nat) : W32 ^ i = 2 ^ (32 * i) := by rw [Nat.pow_mul]; rfl
/-- Limb i. -/
def dg (M i : Nat) : Nat := M / W32 ^ i % W32
theorem dg_lt (M i : Nat) : dg M i < W32 := Nat.mod_lt _ W32_pos
theorem dg_le (M i : Nat) : dg M i ≤ 4294967295 := by have := dg_lt M i; unfold W32 at this; omega
theorem dg_add (M i : Nat) : M % W32 ^ (i + 1) = M % W32 ^ i + dg M i * W32 ^ i := by
  unfold dg
  rw [Nat.pow_succ, Nat.mod_mul, Nat.mul_comm (W32 ^ i)]
/-- Block g is a row of cap limbs, of which those from lo on, below hi, are F's. -/
def V32 (w : World) (g cap lo hi : Nat) (F : Nat → Nat) : Prop :=
  ∃ cur, w.heap[g]? = some (.cells cur 64 (0, 0)) ∧ cur.size = cap ∧ ∀ j, lo ≤ j → j < hi → cur[j]? = some (.int .u32 (F j : Nat))
section
variable {w w1 : World} {g cap lo hi lo' hi' : Nat} {F F' : Nat → Nat}
theorem V32.cell (h : V32 w g cap lo hi F) (j : Nat) (h1 : lo ≤ j) (h2 : j < hi) : w.cell? ⟨g, j, none⟩ = some (.int .u32 (F j : Nat)) := by
  obtain ⟨cur, hc, _, hv⟩ := h
  rw [cell_of_row w g j _ _ _ hc]
  exact hv j h1 h2
theorem V32.some (h : V32 w g cap lo hi F) (j : Nat) (hj : j < cap) : ∃ v, w.cell? ⟨g, j, none⟩ = some v := by
  obtain ⟨cur, hc, hs, _⟩ := h
  rw [cell_of_row w g j _ _ _ hc]
  exact ⟨cur[j]'(by omega), Array.getElem?_eq_getElem _⟩
theorem V32.free (h : V32 w g cap lo hi F) (j : Nat) : w.frozen? ⟨g, j, none⟩ = false := by
  obtain ⟨cur, hc, _, _⟩ := h
  exact frozen_of_row w g j _ _ hc
theorem V32.lt (h : V32 w g cap lo hi F) : g < w.heap.size := by
  obtain ⟨cur, hc, _, _⟩ := h
  exact (Array.getElem?_eq_some_iff.1 hc).1
theorem V32.heap (h : V32 w g cap lo hi F) (hb : w1.heap[g]? = w.heap[g]?) : V32 w1 g cap lo hi F := by
  obtain ⟨cur, hc, hs, hv⟩ := h
  exact ⟨cur, hb.trans hc, hs, hv⟩
theorem V32.below (h : V32 w g cap lo hi F) (hb : Below w.heap.size w w1) : V32 w1 g cap lo hi F := h.heap (hb.block g h.lt)
theorem V32.grown {row : Option Nat} (h : V32 w g cap lo hi F) (hg : w.grownBy w1 row) (hr : Option.some g ≠ row) : V32 w1 g cap lo hi F := h.heap (hg.block g h.lt hr)
theorem V32.weaken (h : V32 w g cap lo hi F) (h3 : ∀ j, lo' ≤ j → j < hi' → lo ≤ j ∧ j < hi ∧ F j = F' j) : V32 w g cap lo' hi' F' := by
  obtain ⟨cur, hc, hs, hv⟩ := h
  exact ⟨cur, hc, hs, fun j a b => by obtain ⟨c1, c2, c3⟩ := h3 j a b; rw [hv j c1 c2, c3]⟩
/-- A store: the cells that are known, and the one that is stored. -/
theorem V32.set (h : V32 w g cap lo hi F) (k u : Nat) (hk : k < cap) (hu : u = F' k) (hF : ∀ j, lo' ≤ j → j < hi' → j ≠ k → lo ≤ j ∧ j < hi ∧ F j = F' j) :
    V32 (w.setCell ⟨g, k, none⟩ (.int .u32 (u : Nat))) g cap lo' hi' F' := by
  obtain ⟨cur, hc, hs, hv⟩ := h
  refine ⟨cur.setIfInBounds k (.int .u32 (u : Nat)), heap_setCell_same w g k _ _ _ hc, by simpa using hs, fun j a b => ?_⟩
  rw [Array.getElem?_setIfInBounds]
  by_cases hj : k = j
  · subst hj
    rw [if_pos rfl, if_pos (by omega), hu]
  · rw [if_neg hj]
    obtain ⟨c1, c2, c3⟩ := hF j a b (fun e => hj e.symm)
    rw [hv j c1 c2, c3]
end
/-- c limbs, all 0. -/
def zero32 (c : Nat) : Array Value := madeCells (Value.int .u32 0).cells (c * 1)
theorem zero32_size (c : Nat) : (zero32 c).size = c := by unfold zero32; rw [size_madeCells, Nat.mul_one]
theorem zero32_get (c j : Nat) (h : j < c) : (zero32 c)[j]? = Option.some (.int .u32 (0 : Nat)) := by
  unfold zero32 madeCells
  simp [Value.cells, h, Nat.mod_one]
theorem V32.made (w : World) (c : Nat) : V32 (w.alloc (.cells (zero32 c) 64)) w.heap.size c 0 c (fun _ => 0) :=
  ⟨_, heap_alloc_new w _, zero32_size c, fun j _ hj => zero32_get c j hj⟩
theorem info32 : (Tryd.prog.info? 64).map (fun i => (i.zero, i.size, i.bytes)) = Option.some (Option.some (.int .u32 0), 1, 4) := by kernel_rfl
theorem run_make_32 (n c : Int) (h0 : 0 ≤ n) (h1 : n ≤ c) (h2 : c ≤ 1000000) (w : World) :
    (Instr.makeSlice 38 (.int .i64 n) (.int .i64 c)).run Tryd.prog w = .ok (.slice (Option.some ⟨w.heap.size, 0, none⟩) n.toNat c.toNat) (w.alloc (.cells (zero32 c.toNat) 64)) := by
  obtain ⟨i0, hi, hz0, hz1, hz2⟩ := info_parts info32
  have := run_make (P := Tryd.prog) w 38 64 i0 _ Tryd.underlying38 hi hz0 .i64 .i64 n c h0 h1 (by rw [hz2]; omega) (by omega)
  rw [hz1] at this
  exact this
/-- How many limbs M has. -/
def NL32 (n M : Nat) : Prop := M < W32 ^ n ∧ (0 < n → W32 ^ (n - 1) ≤ M)
theorem nl32_step (k M : Nat) (h : M < W32 ^ (k + 1)) (hz : dg M k = 0) : M < W32 ^ k := by
  have h1 := dg_add M k
  rw [hz, Nat.zero_mul, Nat.add_zero, Nat.mod_eq_of_lt h] at h1
  rw [h1]
  exact Nat.mod_lt _ (W32_pow k)
theorem nl32_stop (k M : Nat) (hz : dg M k ≠ 0) : W32 ^ k ≤ M := by
  by_cases h : W32 ^ k ≤ M
  · exact h
  · exfalso
    apply hz
    unfold dg
    rw [Nat.div_eq_of_lt (by omega)]
    rfl
/-- The value is a row of M's limbs, the highest not 0; or nil, of 0. -/
def MagIs (w : World) (v : Value) (M : Nat) : Prop := (v = .slice none 0 0 ∧ M = 0) ∨ ∃ g n cap, v = .slice (some ⟨g, 0, none⟩) n cap ∧ n ≤ cap ∧ cap ≤ 1000000 ∧ NL32 n M ∧ V32 w g cap 0 n (dg M)
theorem MagIs.below {w w1 : World} {v : Value} {M : Nat} (h : MagIs w v M) (hb : Below w.heap.size w w1) : MagIs w1 v M := by
  rcases h with h | ⟨g, n, cap, h1, h2, h3, h4, h5⟩
  · exact Or.inl h
  · exact Or.inr ⟨g, n, cap, h1, h2, h3, h4, h5.below hb⟩
theorem MagIs.heap {w w1 : World} {v : Value} {M : Nat} (h : MagIs w v M) (hb : w1.heap = w.heap) : MagIs w1 v M := by
  rcases h with h | ⟨g, n, cap, h1, h2, h3, h4, h5⟩
  · exact Or.inl h
  · exact Or.inr ⟨g, n, cap, h1, h2, h3, h4, h5.heap (by rw [hb])⟩
theorem nl32_zero (n M : Nat) (h : NL32 n M) : n = 0 ↔ M = 0 := by
  constructor
  · intro e
    have := h.1
    rw [e, Nat.pow_zero] at this
    omega
  · intro e
    refine Nat.eq_zero_of_not_pos fun hp => ?_
    have h1 := h.2 hp
    have h2 := W32_pow (n - 1)
    omega
set_option maxHeartbeats 1000000 in
theorem trim_row (w : World) (g n cap M : Nat) (h : V32 w g cap 0 n (dg M)) (hM : M < W32 ^ n) (hn : n ≤ cap) (hc : cap ≤ 1000000) :
    Calls Tryd.prog 29 #[.slice (Option.some ⟨g, 0, none⟩) n cap] w fun e w' => (∃ k, k ≤ n ∧ NL32 k M ∧ e = .returned (.slice (Option.some ⟨g, 0, none⟩) k cap)) ∧ w' = w := by
  go_enter Tryd.func29, Tryd.ntmps29
  go_wp2_with fail
  go_loop [3] (fun i => ∃ k : Nat, k ≤ n ∧ M < W32 ^ k ∧ i = .int .i64 k) (fun i => (intOf i).toNat)
  case atStart => exact ⟨n, Nat.le_refl _, hM, rfl⟩
  case round =>
    obtain ⟨k, hk, hMk, rfl⟩ := hrel
    have HM := Lib.hid hMk
    clear hMk
    by_cases h0 : k = 0
    · subst h0
      go_wp2_with fail
      go_ret
      exact ⟨⟨0, hk, ⟨HM.out, fun h => absurd h (Nat.lt_irrefl 0)⟩, rfl⟩, rfl⟩
    · obtain ⟨j, rfl⟩ : ∃ j, k = j + 1 := ⟨k - 1, by omega⟩
      have hcell := h.cell j (Nat.zero_le _) (by omega)
      by_cases hz : dg M j = 0
      · have hz' : (((dg M j : Nat) : Int) == 0) = true := by rw [beq_iff_eq]; omega
        have Hz := Lib.hid hz
        clear hz
        go_wp2_with fail
        go_round
        case rel => exact ⟨j, by omega, nl32_step j M HM.out Hz.out, by go_num⟩
        case measure => simp [intOf]
      · have hz' : (((dg M j : Nat) : Int) == 0) = false := by rw [beq_eq_false_iff_ne]; omega
        have Hz := Lib.hid hz
        clear hz
        go_wp2_with fail
        go_ret
        exact ⟨⟨j + 1, hk, ⟨HM.out, fun _ => nl32_stop j M Hz.out⟩, rfl⟩, rfl⟩
end Go.Proofs.YtopilodakphhgaaDoor
